/- Part 3 of the proof of PWDoes. -/
import Derived.Test.YtjellhflalbbmaaGreatPWDoesK2
namespace Go.Proofs.YtjellhflalbbmaaGreat
open Go Go.RowKit
set_option linter.all false
section
set_option maxRecDepth 100000
variable {R : VWP} {w w0 : World} {m : Nat} {i0 i1 i2 i3 i4 i5 i6 i7 i8 i9 j0 j1 j2 j3 j4 j5 j6 j7 j8 j9 k0 k1 k2 k3 k4 k5 k6 k7 k8 k9 l0 l1 l2 l3 l4 l5 l6 l7 l8 l9 : Int} {s0 s1 s2 s3 s4 s5 s6 s7 s8 s9 t0 t1 t2 t3 t4 t5 t6 t7 t8 t9 : BA} {n0 n1 n2 n3 n4 n5 n6 n7 n8 n9 o0 o1 o2 o3 o4 o5 o6 o7 o8 o9 p0 p1 p2 p3 p4 p5 p6 p7 p8 p9 : Nat} {q0 q1 q2 q3 q4 q5 q6 q7 q8 q9 r0 r1 r2 r3 r4 r5 r6 r7 r8 r9 : OA} {B0 B1 B2 B3 B4 B5 B6 B7 B8 B9 : Bool} {M0 M1 M2 M3 : Option Nat} {V0 V1 V2 V3 V4 V5 : Value} {A0 A1 A2 : Addr}
theorem yKf (h :
 ya1 w (Addr.add A0 1) fun t1 =>
 brB t1 (
 st w (Addr.add A0 1) [.bool true] fun w2 =>
 st w2 A1 [.int .i64 0] fun w3 =>
 R (.tuple #[]) w3)
 (
 yaF .i64 w A1 fun x4 =>
 Calls pP 118 #[.int .i64 x4] w fun e w5 => ∃ t6, e = .returned (.bool t6) ∧
 st w5 (Addr.add A0 1) [(.bool (!t6))] fun w7 =>
 st w7 A1 [.int .i64 0] fun w8 =>
 R (.tuple #[]) w8)) :
 CR pP 202 #[(.pointer (some A0)), (.pointer (some A1))] w R :=
 yaA Tryz.wide_mixed (an := []) Tryz.func202 rfl rfl (by kernel_rfl) rfl (Eq.mpr (by kernel_rfl) h)
theorem yKg (h :
 ya1 w A0 fun t1 =>
 brB t1 (
 st w A0 [.bool true] fun w2 =>
 st w2 A1 [(.string (⟨#[]⟩ : BA))] fun w3 =>
 R (.tuple #[]) w3)
 (
 yaT w A1 fun s4 =>
 Calls pP 120 #[.string s4] w fun e w5 => ∃ t6, e = .returned (.bool t6) ∧
 st w5 A0 [(.bool (!t6))] fun w7 =>
 st w7 A1 [(.string (⟨#[]⟩ : BA))] fun w8 =>
 R (.tuple #[]) w8)) :
 CR pP 200 #[(.pointer (some A0)), (.pointer (some A1))] w R :=
 yaA Tryz.wide_mixed (an := []) Tryz.func200 rfl rfl (by kernel_rfl) rfl (Eq.mpr (by kernel_rfl) h)
theorem yKh (h :
 st w A1 [.bool false] fun w1 =>
 R (.tuple #[]) w1) :
 CR pP 199 #[(.pointer (some A0)), (.pointer (some A1))] w R :=
 yaA Tryz.wide_mixed (an := []) Tryz.func199 rfl rfl (by kernel_rfl) rfl (Eq.mpr (by kernel_rfl) h)
theorem yKi (h :
 yaF .i64 w A1 fun x1 => yaF .i64 w (Addr.add A1 1) fun x2 => yaF .i64 w (Addr.add A1 2) fun x3 => yaS w (Addr.add A1 3) fun a4 n5 c6 =>
 Calls pP 189 #[(.agg (Z8 x1 x2 x3 a4 n5 c6))] w fun e w7 => ∃ x8, e = .returned (.int .i64 x8) ∧
 st w7 (Addr.add A0 2) [.int .i64 x8] fun w9 =>
 st w9 A1 [.int .i64 0, .int .i64 0, .int .i64 0, .slice none 0 0] fun a2 =>
 R (.tuple #[]) a2) :
 CR pP 198 #[(.pointer (some A0)), (.pointer (some A1))] w R :=
 yaA Tryz.wide_mixed (an := []) Tryz.func198 rfl rfl (by kernel_rfl) rfl (Eq.mpr (by kernel_rfl) h)
def ytF : LA := ⟨[0, 0, 1, 0, 1], [0, 1, 4, 5], [], 0, []⟩
def yvV : List LA := [ytF]
abbrev yKj := dnF pP yvV (code Tryz.f201)
abbrev yNE := yaO pP yvV (code Tryz.f201)
abbrev yKk (p : List Nat) (K : List Kh) (R : VWP) := yaO pP yvV (code Tryz.f201) p K (ya7 pP Tryz.f201 [] R)
def ykW (a0 : Addr) (a1 : Addr) : Bool × Int → List Value × List TB := fun (a2, a3) => ([(.pointer (some a0)), (.pointer (some a1)), .bool a2, .int .i64 a3], [])
abbrev yBy (a0 : Addr) (a1 : Addr) (I : Nat → Bool → Int → World → Prop) (m : Nat) : Kh := KG (ykW a0 a1) (U2 I) m
theorem yrC {I : Nat → Bool → Int → World → Prop} (m' : Nat) (h1 : m' < m) (h2 : I m' B0 i0 w) : KS (yBy A0 A1 I m) (ykW A0 A1 (B0, i0)) w := ⟨m', h1, _, rfl, rfl, h2⟩
theorem yBz (I : Nat → Bool → Int → World → Prop) (m0 : Nat) (h0 : I m0 B0 i0 w0)
 (hr : ∀ m a6 a5 w, I m a6 a5 w →
 yaS w A1 fun a1 n2 c3 =>
 brB (decide (a5 < (n2 : Int))) (
 brB a6 (
 yaS w A1 fun a4 n5 c6 =>
 ixA a4 n5 (IntKind.wrap .i64 (a5 - 1)) 1 fun q7 =>
 yaT w q7 fun s8 =>
 yaS w A1 fun a9 b5 d6 =>
 ixA a9 b5 a5 1 fun b9 =>
 yaT w b9 fun c0 =>
 ∀ b1, Adv [] [] w b1 →
 KS (yBy A0 A1 I m) (ykW A0 A1 ((Op.bytesLess s8.toList c0.toList), (IntKind.wrap .i64 (a5 + 1)))) b1)
 (
 ∀ b2, Adv [] [] w b2 →
 KS (yBy A0 A1 I m) (ykW A0 A1 (false, (IntKind.wrap .i64 (a5 + 1)))) b2))
 (
 yaS w A1 fun b3 b6 b4 =>
 Calls pP 203 #[.slice b3 b6 b4, (.func (.func 204) #[] #[])] w fun e a3 => ∃ b0, e = .returned (.bool b0) ∧
 ya1 a3 A0 fun c1 =>
 brB c1 (
 st a3 A0 [.bool true] fun c2 =>
 st c2 A1 [.slice none 0 0] fun c4 =>
 R (.tuple #[]) c4)
 (
 yaS a3 A1 fun d4 b7 d7 =>
 brB ((b7 : Int) == 0) (
 st a3 A0 [.bool true] fun c5 =>
 st c5 A1 [.slice none 0 0] fun c7 =>
 R (.tuple #[]) c7)
 (
 yaS a3 A1 fun d5 b8 d8 =>
 brB (decide ((b8 : Int) > 8)) (
 st a3 A0 [.bool true] fun c8 =>
 st c8 A1 [.slice none 0 0] fun c9 =>
 R (.tuple #[]) c9)
 (
 brB b0 (
 st a3 A0 [.bool true] fun d0 =>
 st d0 A1 [.slice none 0 0] fun d1 =>
 R (.tuple #[]) d1)
 (
 st a3 A0 [(.bool (!a6))] fun d2 =>
 st d2 A1 [.slice none 0 0] fun d3 =>
 R (.tuple #[]) d3)))))) :
 yaJ ytF (yKj 397 [0, 0, 1, 0, 1]) (yKk [1, 0, 1, 0] [] R) (ykW A0 A1 (B0, i0)) w0 :=
 lrule (ykW A0 A1) (U2 I) h0 (by rintro m ⟨a6, a5⟩ w h; exact ⟨by kernel_rfl, by kernel_rfl, fun js => Eq.mpr (by kernel_rfl) (hr m a6 a5 w h)⟩)
theorem yKl (h :
 yaJ ytF (yKj 397 [0, 0, 1, 0, 1]) (yKk [1, 0, 1, 0] [] R) (ykW A0 A1 (true, 1)) w) :
 CR pP 201 #[(.pointer (some A0)), (.pointer (some A1))] w R :=
 yaA Tryz.wide_mixed (an := yvV) Tryz.func201 rfl rfl (by kernel_rfl) rfl (Eq.mpr (by kernel_rfl) h)
theorem yKm {a0 : BA} (h :
 Calls pP 120 #[.string a0] w fun e w1 => ∃ t2, e = .returned (.bool t2) ∧
 R (.bool (!t2)) w1) :
 CR pP 204 #[.string a0] w R :=
 yaA Tryz.wide_mixed (an := []) Tryz.func204 rfl rfl (by kernel_rfl) rfl (Eq.mpr (by kernel_rfl) h)
theorem yKn (h :
 Calls pP 205 #[.slice q0 n0 n1, (.func (.func 204) #[] #[])] w fun e w1 => ∃ x2, e = .returned (.int .i64 x2) ∧
 R (.bool (decide (x2 ≥ 0))) w1) :
 CR pP 203 #[.slice q0 n0 n1, (.func (.func 204) #[] #[])] w R :=
 yaA Tryz.wide_mixed (an := []) Tryz.func203 rfl rfl (by kernel_rfl) rfl (Eq.mpr (by kernel_rfl) h)
def ytG : LA := ⟨[0, 0, 1, 0, 1], [0, 1, 7, 8], [], 0, []⟩
def yvW : List LA := [ytG]
abbrev yKo := dnF pP yvW (code Tryz.f205)
abbrev yNF := yaO pP yvW (code Tryz.f205)
abbrev yKp (p : List Nat) (K : List Kh) (R : VWP) := yaO pP yvW (code Tryz.f205) p K (ya7 pP Tryz.f205 [] R)
def ymP (a0 : OA) (a2 a1 : Nat) (a3 : Int) : Int → List Value × List TB := fun a4 => ([.slice a0 a2 a1, (.func (.func 204) #[] #[]), .int .i64 a3, .int .i64 a4], [])
abbrev yFy (a0 : OA) (a2 a1 : Nat) (a3 : Int) (I : Nat → Int → World → Prop) (m : Nat) : Kh := KG (ymP a0 a2 a1 a3) (U1 I) m
theorem yBA {I : Nat → Int → World → Prop} (m' : Nat) (h1 : m' < m) (h2 : I m' i1 w) : KS (yFy q0 n0 n1 i0 I m) (ymP q0 n0 n1 i0 i1) w := ⟨m', h1, _, rfl, rfl, h2⟩
theorem yBB {a1 : OA} (I : Nat → Int → World → Prop) (m0 : Nat) (h0 : I m0 i1 w0)
 (hr : ∀ m a0 w, I m a0 w →
 brB (decide (a0 < i0)) (
 ixA a1 n0 a0 1 fun q1 =>
 yaT w q1 fun s2 =>
 Calls pP 204 #[.string s2] w fun e w3 => ∃ t4, e = .returned (.bool t4) ∧
 brB t4 (
 R (.int .i64 a0) w3)
 (
 KS (yFy a1 n0 n1 i0 I m) (ymP a1 n0 n1 i0 (IntKind.wrap .i64 (a0 + 1))) w3))
 (
 R (.int .i64 (-1)) w)) :
 yaJ ytG (yKo 397 [0, 0, 1, 0, 1]) (yKp [1, 0, 1, 0] [] R) (ymP a1 n0 n1 i0 i1) w0 :=
 lrule (ymP a1 n0 n1 i0) (U1 I) h0 (by rintro m a0 w h; exact ⟨by kernel_rfl, by kernel_rfl, fun js => Eq.mpr (by kernel_rfl) (hr m a0 w h)⟩)
theorem yKq (h :
 yaJ ytG (yKo 397 [0, 0, 1, 0, 1]) (yKp [1, 0, 1, 0] [] R) (ymP q0 n0 n1 (n0 : Int) 0) w) :
 CR pP 205 #[.slice q0 n0 n1, (.func (.func 204) #[] #[])] w R :=
 yaA Tryz.wide_mixed (an := yvW) Tryz.func205 rfl rfl (by kernel_rfl) rfl (Eq.mpr (by kernel_rfl) h)
theorem yKr (h :
 ∀ w1, Adv [] [] w w1 →
 Calls pP 200 #[(.pointer (some A1)), (.pointer (some A0))] w1 fun e w2 => e = .returned (.tuple #[]) ∧
 ∀ w3, Adv [] [] w2 w3 →
 Calls pP 202 #[(.pointer (some A1)), (.pointer (some (Addr.add A0 1)))] w3 fun e w4 => e = .returned (.tuple #[]) ∧
 R (.tuple #[]) w4) :
 CR pP 82 #[(.iface 204 (.pointer (some A1))), (.pointer (some A0))] w R :=
 yaA Tryz.wide_mixed (an := []) Tryz.func82 rfl rfl (by kernel_rfl) rfl (Eq.mpr (by kernel_rfl) h)
theorem yKs (h :
 ∀ w1, Adv [] [] w w1 →
 Calls pP 200 #[(.pointer (some A1)), (.pointer (some (Addr.add A0 9)))] w1 fun e w2 => e = .returned (.tuple #[]) ∧
 ∀ w3, Adv [] [] w2 w3 →
 Calls pP 200 #[(.pointer (some A1)), (.pointer (some (Addr.add A0 10)))] w3 fun e w4 => e = .returned (.tuple #[]) ∧
 R (.tuple #[]) w4) :
 CR pP 144 #[(.iface 204 (.pointer (some A1))), (.pointer (some A0))] w R :=
 yaA Tryz.wide_mixed (an := []) Tryz.func144 rfl rfl (by kernel_rfl) rfl (Eq.mpr (by kernel_rfl) h)
theorem yKt (h :
 yaF .i64 w A0 fun x1 =>
 brB (x1 == 0) (
 ∀ w2, Adv [] [] w w2 →
 Calls pP 200 #[(.pointer (some A1)), (.pointer (some (Addr.add A0 1)))] w2 fun e w3 => e = .returned (.tuple #[]) ∧
 ∀ w4, Adv [] [] w3 w4 →
 Calls pP 202 #[(.pointer (some A1)), (.pointer (some (Addr.add A0 3)))] w4 fun e w5 => e = .returned (.tuple #[]) ∧
 R (.tuple #[]) w5)
 (
 brB (x1 == 1) (
 brB (x1 == 1) (
 ∀ w6, Adv [] [] w w6 →
 Calls pP 202 #[(.pointer (some A1)), (.pointer (some (Addr.add A0 3)))] w6 fun e w7 => e = .returned (.tuple #[]) ∧
 R (.tuple #[]) w7)
 (
 brB (x1 == 2) (
 Calls pP 82 #[(.iface 204 (.pointer (some A1))), (.pointer (some (Addr.add A0 1)))] w fun e w8 => e = .returned (.tuple #[]) ∧
 ∀ w9, Adv [] [] w8 w9 →
 Calls pP 198 #[(.pointer (some A1)), (.pointer (some (Addr.add A0 5)))] w9 fun e f3 => e = .returned (.tuple #[]) ∧
 R (.tuple #[]) f3)
 (
 brB (x1 == 3) (
 Calls pP 82 #[(.iface 204 (.pointer (some A1))), (.pointer (some (Addr.add A0 1)))] w fun e f4 => e = .returned (.tuple #[]) ∧
 ∀ a9, Adv [] [] f4 a9 →
 Calls pP 202 #[(.pointer (some A1)), (.pointer (some (Addr.add A0 4)))] a9 fun e f5 => e = .returned (.tuple #[]) ∧
 ∀ b0, Adv [] [] f5 b0 →
 Calls pP 202 #[(.pointer (some A1)), (.pointer (some (Addr.add A0 3)))] b0 fun e f6 => e = .returned (.tuple #[]) ∧
 R (.tuple #[]) f6)
 (
 brB (x1 == 4) (
 Calls pP 82 #[(.iface 204 (.pointer (some A1))), (.pointer (some (Addr.add A0 1)))] w fun e f7 => e = .returned (.tuple #[]) ∧
 ∀ b1, Adv [] [] f7 b1 →
 Calls pP 202 #[(.pointer (some A1)), (.pointer (some (Addr.add A0 4)))] b1 fun e f8 => e = .returned (.tuple #[]) ∧
 R (.tuple #[]) f8)
 (
 brB (x1 == 5) (
 Calls pP 82 #[(.iface 204 (.pointer (some A1))), (.pointer (some (Addr.add A0 1)))] w fun e f9 => e = .returned (.tuple #[]) ∧
 R (.tuple #[]) f9)
 (
 brB (x1 == 6) (
 Calls pP 144 #[(.iface 204 (.pointer (some A1))), (.pointer (some A0))] w fun e g0 => e = .returned (.tuple #[]) ∧
 ∀ b2, Adv [] [] g0 b2 →
 Calls pP 202 #[(.pointer (some A1)), (.pointer (some (Addr.add A0 3)))] b2 fun e g1 => e = .returned (.tuple #[]) ∧
 ∀ b3, Adv [] [] g1 b3 →
 Calls pP 199 #[(.pointer (some A1)), (.pointer (some (Addr.add A0 12)))] b3 fun e g2 => e = .returned (.tuple #[]) ∧
 ∀ b4, Adv [] [] g2 b4 →
 Calls pP 201 #[(.pointer (some A1)), (.pointer (some (Addr.add A0 13)))] b4 fun e g3 => e = .returned (.tuple #[]) ∧
 R (.tuple #[]) g3)
 (
 brB (x1 == 7) (
 brB (x1 == 7) (
 Calls pP 144 #[(.iface 204 (.pointer (some A1))), (.pointer (some A0))] w fun e g4 => e = .returned (.tuple #[]) ∧
 ∀ b5, Adv [] [] g4 b5 →
 Calls pP 202 #[(.pointer (some A1)), (.pointer (some (Addr.add A0 11)))] b5 fun e g5 => e = .returned (.tuple #[]) ∧
 R (.tuple #[]) g5)
 (
 brB (x1 == 10) (
 Calls pP 144 #[(.iface 204 (.pointer (some A1))), (.pointer (some A0))] w fun e g6 => e = .returned (.tuple #[]) ∧
 ∀ b6, Adv [] [] g6 b6 →
 Calls pP 202 #[(.pointer (some A1)), (.pointer (some (Addr.add A0 11)))] b6 fun e g7 => e = .returned (.tuple #[]) ∧
 Calls pP 82 #[(.iface 204 (.pointer (some A1))), (.pointer (some (Addr.add A0 1)))] g7 fun e g8 => e = .returned (.tuple #[]) ∧
 ∀ b7, Adv [] [] g8 b7 →
 Calls pP 202 #[(.pointer (some A1)), (.pointer (some (Addr.add A0 4)))] b7 fun e g9 => e = .returned (.tuple #[]) ∧
 R (.tuple #[]) g9)
 (
 brB (x1 == 11) (
 ∀ b8, Adv [] [] w b8 →
 Calls pP 200 #[(.pointer (some A1)), (.pointer (some (Addr.add A0 9)))] b8 fun e h0 => e = .returned (.tuple #[]) ∧
 Calls pP 82 #[(.iface 204 (.pointer (some A1))), (.pointer (some (Addr.add A0 1)))] h0 fun e h1 => e = .returned (.tuple #[]) ∧
 R (.tuple #[]) h1)
 (
 R (.tuple #[]) w))))
 (
 brB (x1 == 8) (
 brB (x1 == 8) (
 Calls pP 144 #[(.iface 204 (.pointer (some A1))), (.pointer (some A0))] w fun e h2 => e = .returned (.tuple #[]) ∧
 ∀ b9, Adv [] [] h2 b9 →
 Calls pP 202 #[(.pointer (some A1)), (.pointer (some (Addr.add A0 11)))] b9 fun e h3 => e = .returned (.tuple #[]) ∧
 R (.tuple #[]) h3)
 (
 brB (x1 == 10) (
 Calls pP 144 #[(.iface 204 (.pointer (some A1))), (.pointer (some A0))] w fun e h4 => e = .returned (.tuple #[]) ∧
 ∀ c0, Adv [] [] h4 c0 →
 Calls pP 202 #[(.pointer (some A1)), (.pointer (some (Addr.add A0 11)))] c0 fun e h5 => e = .returned (.tuple #[]) ∧
 Calls pP 82 #[(.iface 204 (.pointer (some A1))), (.pointer (some (Addr.add A0 1)))] h5 fun e h6 => e = .returned (.tuple #[]) ∧
 ∀ c1, Adv [] [] h6 c1 →
 Calls pP 202 #[(.pointer (some A1)), (.pointer (some (Addr.add A0 4)))] c1 fun e h7 => e = .returned (.tuple #[]) ∧
 R (.tuple #[]) h7)
 (
 brB (x1 == 11) (
 ∀ c2, Adv [] [] w c2 →
 Calls pP 200 #[(.pointer (some A1)), (.pointer (some (Addr.add A0 9)))] c2 fun e h8 => e = .returned (.tuple #[]) ∧
 Calls pP 82 #[(.iface 204 (.pointer (some A1))), (.pointer (some (Addr.add A0 1)))] h8 fun e h9 => e = .returned (.tuple #[]) ∧
 R (.tuple #[]) h9)
 (
 R (.tuple #[]) w))))
 (
 brB (x1 == 9) (
 Calls pP 144 #[(.iface 204 (.pointer (some A1))), (.pointer (some A0))] w fun e u0 => e = .returned (.tuple #[]) ∧
 ∀ c3, Adv [] [] u0 c3 →
 Calls pP 202 #[(.pointer (some A1)), (.pointer (some (Addr.add A0 11)))] c3 fun e u1 => e = .returned (.tuple #[]) ∧
 R (.tuple #[]) u1)
 (
 brB (x1 == 10) (
 Calls pP 144 #[(.iface 204 (.pointer (some A1))), (.pointer (some A0))] w fun e u2 => e = .returned (.tuple #[]) ∧
 ∀ c4, Adv [] [] u2 c4 →
 Calls pP 202 #[(.pointer (some A1)), (.pointer (some (Addr.add A0 11)))] c4 fun e u3 => e = .returned (.tuple #[]) ∧
 Calls pP 82 #[(.iface 204 (.pointer (some A1))), (.pointer (some (Addr.add A0 1)))] u3 fun e u4 => e = .returned (.tuple #[]) ∧
 ∀ c5, Adv [] [] u4 c5 →
 Calls pP 202 #[(.pointer (some A1)), (.pointer (some (Addr.add A0 4)))] c5 fun e u5 => e = .returned (.tuple #[]) ∧
 R (.tuple #[]) u5)
 (
 brB (x1 == 11) (
 ∀ c6, Adv [] [] w c6 →
 Calls pP 200 #[(.pointer (some A1)), (.pointer (some (Addr.add A0 9)))] c6 fun e u6 => e = .returned (.tuple #[]) ∧
 Calls pP 82 #[(.iface 204 (.pointer (some A1))), (.pointer (some (Addr.add A0 1)))] u6 fun e u7 => e = .returned (.tuple #[]) ∧
 R (.tuple #[]) u7)
 (
 R (.tuple #[]) w))))))))))))
 (
 brB (x1 == 12) (
 ∀ c7, Adv [] [] w c7 →
 Calls pP 202 #[(.pointer (some A1)), (.pointer (some (Addr.add A0 3)))] c7 fun e u9 => e = .returned (.tuple #[]) ∧
 R (.tuple #[]) u9)
 (
 brB (x1 == 2) (
 Calls pP 82 #[(.iface 204 (.pointer (some A1))), (.pointer (some (Addr.add A0 1)))] w fun e v0 => e = .returned (.tuple #[]) ∧
 ∀ c8, Adv [] [] v0 c8 →
 Calls pP 198 #[(.pointer (some A1)), (.pointer (some (Addr.add A0 5)))] c8 fun e v1 => e = .returned (.tuple #[]) ∧
 R (.tuple #[]) v1)
 (
 brB (x1 == 3) (
 Calls pP 82 #[(.iface 204 (.pointer (some A1))), (.pointer (some (Addr.add A0 1)))] w fun e v2 => e = .returned (.tuple #[]) ∧
 ∀ c9, Adv [] [] v2 c9 →
 Calls pP 202 #[(.pointer (some A1)), (.pointer (some (Addr.add A0 4)))] c9 fun e v3 => e = .returned (.tuple #[]) ∧
 ∀ d0, Adv [] [] v3 d0 →
 Calls pP 202 #[(.pointer (some A1)), (.pointer (some (Addr.add A0 3)))] d0 fun e v4 => e = .returned (.tuple #[]) ∧
 R (.tuple #[]) v4)
 (
 brB (x1 == 4) (
 Calls pP 82 #[(.iface 204 (.pointer (some A1))), (.pointer (some (Addr.add A0 1)))] w fun e v5 => e = .returned (.tuple #[]) ∧
 ∀ d1, Adv [] [] v5 d1 →
 Calls pP 202 #[(.pointer (some A1)), (.pointer (some (Addr.add A0 4)))] d1 fun e v6 => e = .returned (.tuple #[]) ∧
 R (.tuple #[]) v6)
 (
 brB (x1 == 5) (
 Calls pP 82 #[(.iface 204 (.pointer (some A1))), (.pointer (some (Addr.add A0 1)))] w fun e v7 => e = .returned (.tuple #[]) ∧
 R (.tuple #[]) v7)
 (
 brB (x1 == 6) (
 Calls pP 144 #[(.iface 204 (.pointer (some A1))), (.pointer (some A0))] w fun e v8 => e = .returned (.tuple #[]) ∧
 ∀ d2, Adv [] [] v8 d2 →
 Calls pP 202 #[(.pointer (some A1)), (.pointer (some (Addr.add A0 3)))] d2 fun e v9 => e = .returned (.tuple #[]) ∧
 ∀ d3, Adv [] [] v9 d3 →
 Calls pP 199 #[(.pointer (some A1)), (.pointer (some (Addr.add A0 12)))] d3 fun e w0 => e = .returned (.tuple #[]) ∧
 ∀ d4, Adv [] [] w0 d4 →
 Calls pP 201 #[(.pointer (some A1)), (.pointer (some (Addr.add A0 13)))] d4 fun e w1 => e = .returned (.tuple #[]) ∧
 R (.tuple #[]) w1)
 (
 brB (x1 == 7) (
 brB (x1 == 7) (
 Calls pP 144 #[(.iface 204 (.pointer (some A1))), (.pointer (some A0))] w fun e x0 => e = .returned (.tuple #[]) ∧
 ∀ d5, Adv [] [] x0 d5 →
 Calls pP 202 #[(.pointer (some A1)), (.pointer (some (Addr.add A0 11)))] d5 fun e x2 => e = .returned (.tuple #[]) ∧
 R (.tuple #[]) x2)
 (
 brB (x1 == 10) (
 Calls pP 144 #[(.iface 204 (.pointer (some A1))), (.pointer (some A0))] w fun e x3 => e = .returned (.tuple #[]) ∧
 ∀ d6, Adv [] [] x3 d6 →
 Calls pP 202 #[(.pointer (some A1)), (.pointer (some (Addr.add A0 11)))] d6 fun e x4 => e = .returned (.tuple #[]) ∧
 Calls pP 82 #[(.iface 204 (.pointer (some A1))), (.pointer (some (Addr.add A0 1)))] x4 fun e x5 => e = .returned (.tuple #[]) ∧
 ∀ d7, Adv [] [] x5 d7 →
 Calls pP 202 #[(.pointer (some A1)), (.pointer (some (Addr.add A0 4)))] d7 fun e x6 => e = .returned (.tuple #[]) ∧
 R (.tuple #[]) x6)
 (
 brB (x1 == 11) (
 ∀ d8, Adv [] [] w d8 →
 Calls pP 200 #[(.pointer (some A1)), (.pointer (some (Addr.add A0 9)))] d8 fun e x7 => e = .returned (.tuple #[]) ∧
 Calls pP 82 #[(.iface 204 (.pointer (some A1))), (.pointer (some (Addr.add A0 1)))] x7 fun e x8 => e = .returned (.tuple #[]) ∧
 R (.tuple #[]) x8)
 (
 R (.tuple #[]) w))))
 (
 brB (x1 == 8) (
 brB (x1 == 8) (
 Calls pP 144 #[(.iface 204 (.pointer (some A1))), (.pointer (some A0))] w fun e x9 => e = .returned (.tuple #[]) ∧
 ∀ d9, Adv [] [] x9 d9 →
 Calls pP 202 #[(.pointer (some A1)), (.pointer (some (Addr.add A0 11)))] d9 fun e y0 => e = .returned (.tuple #[]) ∧
 R (.tuple #[]) y0)
 (
 brB (x1 == 10) (
 Calls pP 144 #[(.iface 204 (.pointer (some A1))), (.pointer (some A0))] w fun e y1 => e = .returned (.tuple #[]) ∧
 ∀ a2, Adv [] [] y1 a2 →
 Calls pP 202 #[(.pointer (some A1)), (.pointer (some (Addr.add A0 11)))] a2 fun e e0 => e = .returned (.tuple #[]) ∧
 Calls pP 82 #[(.iface 204 (.pointer (some A1))), (.pointer (some (Addr.add A0 1)))] e0 fun e e1 => e = .returned (.tuple #[]) ∧
 ∀ a3, Adv [] [] e1 a3 →
 Calls pP 202 #[(.pointer (some A1)), (.pointer (some (Addr.add A0 4)))] a3 fun e e2 => e = .returned (.tuple #[]) ∧
 R (.tuple #[]) e2)
 (
 brB (x1 == 11) (
 ∀ a4, Adv [] [] w a4 →
 Calls pP 200 #[(.pointer (some A1)), (.pointer (some (Addr.add A0 9)))] a4 fun e e3 => e = .returned (.tuple #[]) ∧
 Calls pP 82 #[(.iface 204 (.pointer (some A1))), (.pointer (some (Addr.add A0 1)))] e3 fun e e4 => e = .returned (.tuple #[]) ∧
 R (.tuple #[]) e4)
 (
 R (.tuple #[]) w))))
 (
 brB (x1 == 9) (
 Calls pP 144 #[(.iface 204 (.pointer (some A1))), (.pointer (some A0))] w fun e e5 => e = .returned (.tuple #[]) ∧
 ∀ a5, Adv [] [] e5 a5 →
 Calls pP 202 #[(.pointer (some A1)), (.pointer (some (Addr.add A0 11)))] a5 fun e e6 => e = .returned (.tuple #[]) ∧
 R (.tuple #[]) e6)
 (
 brB (x1 == 10) (
 Calls pP 144 #[(.iface 204 (.pointer (some A1))), (.pointer (some A0))] w fun e e7 => e = .returned (.tuple #[]) ∧
 ∀ a6, Adv [] [] e7 a6 →
 Calls pP 202 #[(.pointer (some A1)), (.pointer (some (Addr.add A0 11)))] a6 fun e e8 => e = .returned (.tuple #[]) ∧
 Calls pP 82 #[(.iface 204 (.pointer (some A1))), (.pointer (some (Addr.add A0 1)))] e8 fun e e9 => e = .returned (.tuple #[]) ∧
 ∀ a7, Adv [] [] e9 a7 →
 Calls pP 202 #[(.pointer (some A1)), (.pointer (some (Addr.add A0 4)))] a7 fun e f0 => e = .returned (.tuple #[]) ∧
 R (.tuple #[]) f0)
 (
 brB (x1 == 11) (
 ∀ a8, Adv [] [] w a8 →
 Calls pP 200 #[(.pointer (some A1)), (.pointer (some (Addr.add A0 9)))] a8 fun e f1 => e = .returned (.tuple #[]) ∧
 Calls pP 82 #[(.iface 204 (.pointer (some A1))), (.pointer (some (Addr.add A0 1)))] f1 fun e f2 => e = .returned (.tuple #[]) ∧
 R (.tuple #[]) f2)
 (
 R (.tuple #[]) w)))))))))))))) :
 CR pP 117 #[(.iface 204 (.pointer (some A1))), (.pointer (some A0))] w R :=
 yaA Tryz.wide_mixed (an := []) Tryz.func117 rfl rfl (by kernel_rfl) rfl (Eq.mpr (by kernel_rfl) h)
theorem yKu {b0 : BA} {b9 a7 : BA} (h :
 ∀ b1, w.heap.size ≤ b1 →
 brB (decide (i0 < 0)) (
 ∀ w2, Adv [] [b1] w w2 →
 R (.int .i64 41) w2)
 (
 brB (decide (i0 ≥ 13)) (
 ∀ w3, Adv [] [b1] w w3 →
 R (.int .i64 41) w3)
 (
 ∀ b4, w.heap.size ≤ b4 →
 ∀ w5, Adv [] [b4, b1] w w5 → w5.heap[b1]? = some (.cells (Z1 i0 b0 i1 i2 i3 i4 i5 i6 q0 n0 n1 b9 a7 i7 B0 q1 n2 n3) 48) →
 w5.heap[b4]? = some (.cells #[.bool false, .bool false, .int .i64 0] 206) →
 Calls pP 117 #[(.iface 204 (.pointer (some ⟨b4, 0, none⟩))), (.pointer (some ⟨b1, 0, none⟩))] w5 fun e w6 => e = .returned (.tuple #[]) ∧ ∃ x7 s8 x9 d3 d4 d5 d6 d7 c1 c5 c3 c7 c8 d8 c9 c2 c6 c4, w6.heap[b1]? = some (.cells (Z1 x7 s8 x9 d3 d4 d5 d6 d7 c1 c5 c3 c7 c8 d8 c9 c2 c6 c4) 48) ∧ ∃ d0 d9 e0, w6.heap[b4]? = some (.cells #[.bool d0, .bool d9, .int .i64 e0] 206) ∧
 brB d0 (
 ∀ d1, Adv [b1] [] w6 d1 → d1.heap[b1]? = some (.cells (Z1 0 s8 x9 d3 d4 d5 d6 d7 c1 c5 c3 c7 c8 d8 c9 c2 c6 c4) 48) →
 d1.heap[b4]? = some (.cells #[.bool d0, .bool d9, .int .i64 e0] 206) →
 R (.int .i64 40) d1)
 (
 ∀ d2, Adv [b1] [] w6 d2 → d2.heap[b1]? = some (.cells (Z1 0 s8 x9 d3 d4 d5 d6 d7 c1 c5 c3 c7 c8 d8 c9 c2 c6 c4) 48) →
 d2.heap[b4]? = some (.cells #[.bool d0, .bool d9, .int .i64 e0] 206) →
 Calls pP 143 #[(.agg (Z1 0 s8 x9 d3 d4 d5 d6 d7 c1 c5 c3 c7 c8 d8 c9 c2 c6 c4)), (.agg (Z1 0 ByteArray.empty 0 0 0 0 0 0 none 0 0 ByteArray.empty ByteArray.empty 0 false none 0 0))] d2 fun e c0 => ∃ e1, e = .returned (.bool e1) ∧ ∃ f5 f0 f6 f7 f8 f9 g0 g1 e4 e8 e6 f1 f2 g2 f3 e5 e9 e7, c0.heap[b1]? = some (.cells (Z1 f5 f0 f6 f7 f8 f9 g0 g1 e4 e8 e6 f1 f2 g2 f3 e5 e9 e7) 48) ∧ ∃ f4 e2 e3, c0.heap[b4]? = some (.cells #[.bool f4, .bool e2, .int .i64 e3] 206) ∧
 brB (!e1) (
 R (.int .i64 40) c0)
 (
 brB e2 (
 R (.int .i64 1) c0)
 (
 R (.int .i64 e3) c0)))))) :
 CR pP 116 #[(.agg (Z1 i0 b0 i1 i2 i3 i4 i5 i6 q0 n0 n1 b9 a7 i7 B0 q1 n2 n3))] w R :=
 yaA Tryz.wide_mixed (an := []) Tryz.func116 rfl rfl (by kernel_rfl) rfl (Eq.mpr (by kernel_rfl) h)
end
theorem yKv {w : World} {a1 a2 : Option Addr} {n1 c1 n2 c2 : Nat} {l1 l2 : List ByteArray} (h1 : ycD w 1 ykT a1 n1 l1) (h2 : ycD w 1 ykT a2 n2 l2) (hl : l1.length ≤ 1000000) :
  Calls pP 159 #[.slice a1 n1 c1, .slice a2 n2 c2] w fun e w' => e = .returned (.bool (decide (l1 = l2))) ∧ Mod [] w w' := by
 refine yaQ (yKb ?_)
 have e1 := h1.1
 have e2 := h2.1
 refine yaC (fun h => ⟨congrArg Value.bool (decide_eq_false fun e => ?_).symm, Mod.refl _⟩) fun h => ?_
 ·subst e
  rw [e1, e2] at h
  simp at h
 have hlen : l1.length = l2.length := by
  simp at h
  omega
 refine yBv (fun mm x w' => ∃ k : Nat, x = k ∧ k ≤ l1.length ∧ l1.take k = l2.take k ∧ Mod [] w w' ∧ mm = l1.length - k) l1.length ⟨0, rfl, by omega, by simp, Mod.refl _, rfl⟩ ?_
 rintro mm x w1 ⟨k, rfl, hk, ht, M, rfl⟩
 refine yaE (fun hlt => ?_) fun hge => ?_
 ·have g1 : k < l1.length := by omega
  have g2 : k < l2.length := by omega
  obtain ⟨x, hx⟩ : ∃ x, l1[k]? = some x := ⟨_, List.getElem?_eq_getElem g1⟩
  obtain ⟨y, hy⟩ : ∃ y, l2[k]? = some y := ⟨_, List.getElem?_eq_getElem g2⟩
  refine (h1.keep0 M).ix hx fun q hq => yaI (by simpa [add_zero] using hq 0 _ rfl) ?_
  refine (h2.keep0 M).ix hy fun q hq => yaI (by simpa [add_zero] using hq 0 _ rfl) ?_
  rw [yhS x y]
  refine yaC (fun hne => ?_) fun heq => ?_
  rotate_left
  rotate_right
  ·intro w2 A2
   refine ⟨congrArg Value.bool (decide_eq_false fun e => (show ¬ x = y by simpa using hne) ?_).symm, M.go0 A2.mod (by simp)⟩
   subst e
   rw [hx] at hy
   exact Option.some.inj hy
  ·intro w2 A2
   have he : x = y := by simpa using heq
   subst he
   exact yBu (l1.length - (k + 1)) (by omega) ⟨k + 1, by rw [yaH (by omega) (by omega)]; omega, by omega, ydK ht hx hy, M.go0 A2.mod (by simp), rfl⟩
 ·have hk : k = l1.length := by omega
  subst hk
  rw [List.take_length, hlen, List.take_length] at ht
  exact ⟨congrArg Value.bool (decide_eq_true ht).symm, M⟩
theorem neR (x y : PRec) (o1 o2 : Operand) (w : World) : Sem.run pP (do eqGuard .neq 99 o1 o2 x.v y.v; Go.binOp .neq 99 x.v y.v) w = .ok (.bool (decide (x ≠ y))) w := by
 obtain ⟨a, b, c, d⟩ := x
 obtain ⟨a', b', c', d'⟩ := y
 simp [go_sem, Sem.run_bind, PRec.v]
 by_cases h1 : a = a' <;> by_cases h2 : b = b' <;> by_cases h3 : c = c' <;> by_cases h4 : d = d' <;> simp [h1, h2, h3, h4, yd0]
theorem yMW (x y : PPart) (o1 o2 : Operand) (w : World) : Sem.run pP (do eqGuard .eql 42 o1 o2 x.v y.v; Go.binOp .eql 42 x.v y.v) w = .ok (.bool (decide (x = y))) w := by
 obtain ⟨a, b⟩ := x
 obtain ⟨a', b'⟩ := y
 simp [go_sem, Sem.run_bind, PPart.v]
 by_cases h1 : a = a' <;> by_cases h2 : b = b' <;> simp [h1, h2, yd0]
theorem yKw {w : World} {a1 a2 : Option Addr} {n1 c1 n2 c2 : Nat} {l1 l2 : List PRec} (h1 : ycD w 4 yfW a1 n1 l1) (h2 : ycD w 4 yfW a2 n2 l2) (hl : l1.length ≤ 1000000) :
  Calls pP 165 #[.slice a1 n1 c1, .slice a2 n2 c2] w fun e w' => e = .returned (.bool (decide (l1 = l2))) ∧ Mod [] w w' := by
 refine yaQ (yKe ?_)
 have e1 := h1.1
 have e2 := h2.1
 refine yaC (fun h => ⟨congrArg Value.bool (decide_eq_false fun e => ?_).symm, Mod.refl _⟩) fun h => ?_
 ·subst e
  rw [e1, e2] at h
  simp at h
 have hlen : l1.length = l2.length := by
  simp at h
  omega
 refine yBx (fun mm x w' => ∃ k : Nat, x = k ∧ k ≤ l1.length ∧ l1.take k = l2.take k ∧ Mod [] w w' ∧ mm = l1.length - k) l1.length ⟨0, rfl, by omega, by simp, Mod.refl _, rfl⟩ ?_
 rintro mm x w1 ⟨k, rfl, hk, ht, M, rfl⟩
 refine yaE (fun hlt => ?_) fun hge => ?_
 ·have g1 : k < l1.length := by omega
  have g2 : k < l2.length := by omega
  obtain ⟨x, hx⟩ : ∃ x, l1[k]? = some x := ⟨_, List.getElem?_eq_getElem g1⟩
  obtain ⟨y, hy⟩ : ∃ y, l2[k]? = some y := ⟨_, List.getElem?_eq_getElem g2⟩
  refine (h1.keep0 M).ix hx fun q hq => yaP (by simpa [add_zero] using hq 0 _ rfl) (yaI (hq 1 _ rfl) (yaP (hq 2 _ rfl) (yaI (hq 3 _ rfl) ?_)))
  refine (h2.keep0 M).ix hy fun q hq => yaP (by simpa [add_zero] using hq 0 _ rfl) (yaI (hq 1 _ rfl) (yaP (hq 2 _ rfl) (yaI (hq 3 _ rfl) ?_)))
  refine ⟨_, fun w' _ => neR x y _ _ w', ?_⟩
  refine yaE (fun hne => ?_) fun heq => ?_
  ·intro w2 A2
   refine ⟨congrArg Value.bool (decide_eq_false fun e => hne ?_).symm, M.go0 A2.mod (by simp)⟩
   subst e
   rw [hx] at hy
   exact Option.some.inj hy
  ·intro w2 A2
   have he : x = y := Decidable.not_not.1 heq
   subst he
   exact yBw (l1.length - (k + 1)) (by omega) ⟨k + 1, by rw [yaH (by omega) (by omega)]; omega, by omega, ydK ht hx hy, M.go0 A2.mod (by simp), rfl⟩
 ·have hk : k = l1.length := by omega
  subst hk
  rw [List.take_length, hlen, List.take_length] at ht
  exact ⟨congrArg Value.bool (decide_eq_true ht).symm, M⟩
def PBatch.v (b : PBatch) (rs : Sl) : Value := .agg #[.int .i64 b.prod, .int .i64 b.epoch, .int .i64 b.seq, .slice rs.a rs.n rs.c]
theorem yxX {w : World} {x y : PBatch} {s t : Sl} (h1 : ycD w 4 yfW s.a s.n x.recs) (h2 : ycD w 4 yfW t.a t.n y.recs) (hl : x.recs.length ≤ 1000000) :
  Calls pP 158 #[x.v s, y.v t] w fun e w' => e = .returned (.bool (decide (x = y))) ∧ Mod [] w w' := by
 obtain ⟨a1, a2, a3, a4⟩ := x
 obtain ⟨b1, b2, b3, b4⟩ := y
 refine yaQ (yJ7 ?_)
 intro c1 f1 c2 f2
 simp only [PBatch.mk.injEq]
 refine yaC (fun g1 => ?_) fun g1 => ?_
 ·have g1 : a1 = b1 := by simpa using g1
  refine yaC (fun g2 => ?_) fun g2 => ?_
  ·have g2 : a2 = b2 := by simpa using g2
   refine yaC (fun g3 => ?_) fun g3 => ?_
   ·have g3 : a3 = b3 := by simpa using g3
    intro w1 A1
    refine (yKw (h1.keep0 A1.mod) (h2.keep0 A1.mod) hl).mono ?_
    rintro e w2 ⟨rfl, M2⟩
    exact ⟨_, rfl, yaD.of0 M2, by simp [g1, g2, g3], A1.mod.go0 M2 (by simp)⟩
   ·intro w1 A1
    exact ⟨congrArg Value.bool (decide_eq_false (by simp at g3; rintro ⟨_, _, h, _⟩; exact g3 h)).symm, A1.mod⟩
  ·intro w1 A1
   exact ⟨congrArg Value.bool (decide_eq_false (by simp at g2; rintro ⟨_, h, _⟩; exact g2 h)).symm, A1.mod⟩
 ·intro w1 A1
  exact ⟨congrArg Value.bool (decide_eq_false (by simp at g1; rintro ⟨h, _⟩; exact g1 h)).symm, A1.mod⟩
theorem yBC {w : World} {x y : POp} {rs ts rs' ts' : Sl} (h1 : OpAt w x rs ts) (h2 : OpAt w y rs' ts') :
  Calls pP 143 #[x.v rs ts, y.v rs' ts'] w fun e w' => e = .returned (.bool (decide (x = y))) ∧ Mod [] w w' := by
 obtain ⟨k1, p1, n1, o1, b1, g1, m1, e1, r1, t1⟩ := x
 obtain ⟨k2, p2, n2, o2, b2, g2, m2, e2, r2, t2⟩ := y
 refine yaQ (yJ8 ?_)
 intro c1 f1 c2 f2
 simp only [POp.mk.injEq]
 have no : ∀ {P : Prop} [Decidable P] {w' : World}, ¬ P → Mod [] w w' → (Value.bool false = Value.bool (decide P) ∧ Mod [] w w') := fun hn M => ⟨congrArg Value.bool (decide_eq_false hn).symm, M⟩
 refine yaC (fun q1 => ?_) fun q1 => ?_
 rotate_left
 ·intro w1 A1
  exact no (by simp at q1; rintro ⟨h, _⟩; exact q1 h) A1.mod
 have q1 : k1 = k2 := by simpa using q1
 intro w1 A1
 have M1 := A1.mod
 refine ⟨_, fun w' _ => yMW p1 p2 _ _ w', yaC (fun q2 => ?_) fun q2 => no (by simp at q2; rintro ⟨_, h, _⟩; exact q2 h) M1⟩
 have q2 : p1 = p2 := by simpa using q2
 refine yaC (fun q3 => ?_) fun q3 => no (by simp at q3; rintro ⟨_, _, h, _⟩; exact q3 h) M1
 have q3 : n1 = n2 := by simpa using q3
 refine yaC (fun q4 => ?_) fun q4 => no (by simp at q4; rintro ⟨_, _, _, h, _⟩; exact q4 h) M1
 have q4 : o1 = o2 := by simpa using q4
 rw [yhS, yhS]
 refine yaC (fun q5 => ?_) fun q5 => no (by simp at q5; rintro ⟨_, _, _, _, _, h, _⟩; exact q5 h) M1
 have q5 : g1 = g2 := by simpa using q5
 refine yaC (fun q6 => ?_) fun q6 => no (by simp at q6; rintro ⟨_, _, _, _, _, _, h, _⟩; exact q6 h) M1
 have q6 : m1 = m2 := by simpa using q6
 refine yaC (fun q7 => ?_) fun q7 => no (by simp at q7; rintro ⟨_, _, _, _, _, _, _, h, _⟩; exact q7 h) M1
 have q7 : e1 = e2 := by simpa using q7
 refine yaC (fun q8 => ?_) fun q8 => no (by simp at q8; rintro ⟨_, _, _, _, _, _, _, _, h, _⟩; exact q8 h) M1
 have q8 : r1 = r2 := by simpa using q8
 refine (yxX (x := b1) (y := b2) (s := rs) (t := rs') (h1.recs.keep0 M1) (h2.recs.keep0 M1) h1.lr).mono ?_
 rintro e w2 ⟨rfl, M2⟩
 have N2 := M1.go0 M2 (by simp)
 refine ⟨_, rfl, yaD.of0 M2, yaC (fun q9 => ?_) fun q9 => no (by simp at q9; rintro ⟨_, _, _, _, h, _⟩; exact q9 h) N2⟩
 have q9 : b1 = b2 := by simpa using q9
 refine (yKv (h1.topics.keep0 N2) (h2.topics.keep0 N2) h1.lt).mono ?_
 rintro e w3 ⟨rfl, M3⟩
 exact ⟨_, rfl, yaD.of0 M3, by simp [q1, q2, q3, q4, q5, q6, q7, q8, q9], N2.go0 M3 (by simp)⟩
theorem ykX (n : Int) (w : World) : Calls pP 190 #[.int .i64 n] w fun e w' => e = .returned (.bool (num n)) ∧ w' = w :=
 yaQ (yJG (yaE (fun h => ⟨by simp [num]; omega, rfl⟩) (fun h => ⟨by simp [num]; omega, rfl⟩)))
theorem yrD {l : List PRec} {k : Nat} {x : PRec} (hx : l[k]? = some x) (h : ∀ y ∈ l.take k, ygF y = 0) (hne : ygF x ≠ 0) : (l.find? fun r => ygF r ≠ 0) = some x := by
 have hk : k < l.length := (List.getElem?_eq_some_iff.1 hx).1
 have e : l = l.take k ++ x :: l.drop (k + 1) := by
  have h2 : l[k] = x := (List.getElem?_eq_some_iff.1 hx).2
  conv => lhs; rw [← List.take_append_drop k l, List.drop_eq_getElem_cons hk, h2]
 rw [e, List.find?_append, List.find?_eq_none.2 (by intro y hy; simp [h y hy])]
 simp [hne]
theorem yrE {w : World} {b : PBatch} {rs : Sl} (h : ycD w 4 yfW rs.a rs.n b.recs) (hl : b.recs.length ≤ 1000000) :
  Calls pP 189 #[b.v rs] w fun e w' => e = .returned (.int .i64 (ybG b)) ∧ Mod [] w w' := by
 refine yaQ (yJJ ?_)
 have hn := h.1
 intro b1 f1 w1 A1
 have l1 := A1.lt b1 (by simp)
 have bad : ∀ {k : Int} {w' : World}, ybG b = k → Mod [] w w' → (Value.int .i64 k = Value.int .i64 (ybG b) ∧ Mod [] w w') := fun e M => ⟨by rw [e], M⟩
 refine (ykX b.prod w1).mono ?_
 rintro e w2 ⟨rfl, rfl⟩
 refine ⟨_, rfl, yaD.of0 (Mod.refl _), yaC (fun q1 => bad (by rw [ybG, if_pos (by rw [yjX q1]; rfl)]) A1.mod) fun q1 => ?_⟩
 refine (ykX b.epoch w2).mono ?_
 rintro e w3 ⟨rfl, rfl⟩
 refine ⟨_, rfl, yaD.of0 (Mod.refl _), yaC (fun q2 => bad (by rw [ybG, if_pos (by rw [yjX q2]; simp)]) A1.mod) fun q2 => ?_⟩
 refine (ykX b.seq w3).mono ?_
 rintro e w4 ⟨rfl, rfl⟩
 refine ⟨_, rfl, yaD.of0 (Mod.refl _), yaC (fun q3 => bad (by rw [ybG, if_pos (by rw [yjX q3]; simp)]) A1.mod) fun q3 => ?_⟩
 have e0 : ybG b = if b.recs.length = 0 then 30 else if b.recs.length > 16 then 2 else match b.recs.find? fun r => ygF r ≠ 0 with | none => 0 | some r => ygF r := by
  rw [ybG, if_neg (by rw [yjF q1, yjF q2, yjF q3]; decide)] <;> rfl
 refine yaC (fun q4 => bad (by rw [e0, if_pos (by simp at q4; omega)]) A1.mod) fun q4 => ?_
 rw [if_neg (by simp at q4; omega)] at e0
 refine yaE (fun q5 => bad (by rw [e0, if_pos (by omega)]) A1.mod) fun q5 => ?_
 rw [if_neg (by omega)] at e0
 refine yBb (fun mm x w' => ∃ k : Nat, x = k ∧ k ≤ b.recs.length ∧ (∀ y ∈ b.recs.take k, ygF y = 0) ∧ Mod [] w w' ∧ mm = b.recs.length - k) b.recs.length ⟨0, rfl, by omega, by simp, A1.mod, rfl⟩ ?_
 rintro mm x w5 ⟨k, rfl, hk, hz, M5, rfl⟩
 refine yaE (fun hlt => ?_) fun hge => ?_
 ·obtain ⟨y, hy⟩ : ∃ y, b.recs[k]? = some y := ⟨_, List.getElem?_eq_getElem (by omega)⟩
  refine (h.keep0 M5).ix hy fun q hq => yaP (by simpa [add_zero] using hq 0 _ rfl) (yaI (hq 1 _ rfl) (yaP (hq 2 _ rfl) (yaI (hq 3 _ rfl) ?_)))
  intro b6 f6 w6 A6
  refine (yfH y w6).mono ?_
  rintro e w7 ⟨rfl, M7⟩
  have N7 := (M5.go0 A6.mod (by simp)).go0 M7 (by simp)
  refine ⟨_, rfl, yaD.of0 M7, yaC (fun q6 => ?_) fun q6 => ?_⟩
  ·have q6 : ygF y ≠ 0 := by simpa using q6
   exact bad (by rw [e0, yrD hy hz q6]) N7
  ·have q6 : ygF y = 0 := by simpa using q6
   refine yBa (b.recs.length - (k + 1)) (by omega) ⟨k + 1, by rw [yaH (by omega) (by omega)]; omega, by omega, ?_, N7, rfl⟩
   rw [List.take_add_one, hy]
   intro z hz'
   rcases List.mem_append.1 hz' with h | h
   ·exact hz z h
   ·simp at h; subst h; exact q6
 ·have : k = b.recs.length := by omega
  subst this
  rw [List.take_length] at hz
  refine bad ?_ M5
  rw [e0, List.find?_eq_none.2 (by intro y hy; simp [hz y hy])]
structure ChSt (w0 w : World) (bc bo : Nat) (F A : Bool) (E : Int) (cs : List Value) : Prop where
 c : w.heap[bc]? = some (.cells #[.bool F, .bool A, .int .i64 E] 206)
 o : w.heap[bo]? = some (.cells cs.toArray 48)
 m : Mod [bc, bo] w0 w
 ne : bc ≠ bo
theorem ChSt.adv {w0 w w' : World} {bc bo : Nat} {F A : Bool} {E : Int} {cs : List Value} (h : ChSt w0 w bc bo F A E cs) {N : List Nat} (M : Adv [] N w w') : ChSt w0 w' bc bo F A E cs :=
 ⟨M.mod.keep0 h.c, M.mod.keep0 h.o, (h.m.trans M.mod).less (by simp), h.ne⟩
theorem ChSt.m0 {w0 w w' : World} {bc bo : Nat} {F A : Bool} {E : Int} {cs : List Value} (h : ChSt w0 w bc bo F A E cs) (M : Mod [] w w') : ChSt w0 w' bc bo F A E cs :=
 ⟨M.keep0 h.c, M.keep0 h.o, (h.m.trans M).less (by simp), h.ne⟩
theorem ChSt.setC {w0 w w' : World} {bc bo : Nat} {F A F' A' : Bool} {E E' : Int} {cs : List Value} (h : ChSt w0 w bc bo F A E cs) (hc : w'.heap[bc]? = some (.cells #[.bool F', .bool A', .int .i64 E'] 206)) (M : Mod [bc] w w') : ChSt w0 w' bc bo F' A' E' cs :=
 ⟨hc, M.keep h.o (by simpa using h.ne.symm), (h.m.trans M).less (by simp), h.ne⟩
theorem ChSt.setO {w0 w w' : World} {bc bo : Nat} {F A : Bool} {E : Int} {cs cs' : List Value} (h : ChSt w0 w bc bo F A E cs) (ho : w'.heap[bo]? = some (.cells cs'.toArray 48)) (M : Mod [bo] w w') : ChSt w0 w' bc bo F A E cs' :=
 ⟨M.keep h.c (by simpa using h.ne), ho, (h.m.trans M).less (by simp), h.ne⟩
theorem yID {cs : List Value} {off : Nat} {v : Value} : ybX cs.toArray off [v] = (cs.set off v).toArray := by simp [ybX]
theorem ymQ {w0 w : World} {bc bo off : Nat} {F A : Bool} {E x : Int} {cs : List Value} {R : World → Prop} (H : ChSt w0 w bc bo F A E cs) (hc : cs[off]? = some (.int .i64 x)) (k : ∀ w', ChSt w0 w' bc bo F (A || !num x) E (cs.set off (.int .i64 0)) → R w') :
  Calls pP 202 #[.pointer (some ⟨bc, 0, none⟩), .pointer (some ⟨bo, off, none⟩)] w fun e w' => e = .returned (.tuple #[]) ∧ R w' := by
 have hlt : off < cs.length := (List.getElem?_eq_some_iff.1 hc).1
 refine yaQ (yKf ?_)
 refine yj9 (b := bc) (i := 1) H.c rfl ?_
 refine yaC (fun g => ?_) fun g => ?_
 ·subst g
  refine ydX (b := bc) (o := 1) H.c rfl (by simp) fun w1 h1 M1 => ?_
  have H1 := H.setC (F' := F) (A' := true) (E' := E) h1 M1
  refine ydX (b := bo) (o := off) H1.o rfl (by simp; omega) fun w2 h2 M2 => ?_
  exact ⟨rfl, k w2 (H1.setO (by rw [h2, yID]) M2)⟩
 ·subst g
  refine ygD (b := bo) (i := off) H.o (by simpa using hc) ?_
  refine (ydC x w).mono ?_
  rintro e w1 ⟨rfl, rfl⟩
  refine ⟨_, rfl, ?_⟩
  refine ydX (b := bc) (o := 1) H.c rfl (by simp) fun w2 h2 M2 => ?_
  have H2 := H.setC (F' := F) (A' := !num x) (E' := E) h2 M2
  refine ydX (b := bo) (o := off) H2.o rfl (by simp; omega) fun w3 h3 M3 => ?_
  exact ⟨rfl, k w3 (H2.setO (by rw [h3, yID]) M3)⟩
theorem yfI {w0 w : World} {bc bo off : Nat} {F A : Bool} {E : Int} {x : ByteArray} {cs : List Value} {R : World → Prop} (H : ChSt w0 w bc bo F A E cs) (hc : cs[off]? = some (.string x)) (k : ∀ w', ChSt w0 w' bc bo (F || !ybR x) A E (cs.set off (.string es)) → R w') :
  Calls pP 200 #[.pointer (some ⟨bc, 0, none⟩), .pointer (some ⟨bo, off, none⟩)] w fun e w' => e = .returned (.tuple #[]) ∧ R w' := by
 have hlt : off < cs.length := (List.getElem?_eq_some_iff.1 hc).1
 refine yaQ (yKg ?_)
 refine yj9 (b := bc) (i := 0) H.c rfl ?_
 refine yaC (fun g => ?_) fun g => ?_
 ·subst g
  refine ydX (b := bc) (o := 0) H.c rfl (by simp) fun w1 h1 M1 => ?_
  have H1 := H.setC (F' := true) (A' := A) (E' := E) h1 M1
  refine ydX (b := bo) (o := off) H1.o rfl (by simp; omega) fun w2 h2 M2 => ?_
  exact ⟨rfl, k w2 (H1.setO (by rw [h2, yID]; rfl) M2)⟩
 ·subst g
  refine yDE (b := bo) (i := off) H.o (by simpa using hc) ?_
  refine (ysV x w).mono ?_
  rintro e w1 ⟨rfl, M1⟩
  have H1 := H.m0 M1
  refine ⟨_, rfl, ?_⟩
  refine ydX (b := bc) (o := 0) H1.c rfl (by simp) fun w2 h2 M2 => ?_
  have H2 := H1.setC (F' := !ybR x) (A' := A) (E' := E) h2 M2
  refine ydX (b := bo) (o := off) H2.o rfl (by simp; omega) fun w3 h3 M3 => ?_
  exact ⟨rfl, k w3 (H2.setO (by rw [h3, yID]; rfl) M3)⟩
theorem ytH {w0 w : World} {bc bo off : Nat} {F A : Bool} {E : Int} {x : Bool} {cs : List Value} {R : World → Prop} (H : ChSt w0 w bc bo F A E cs) (hc : cs[off]? = some (.bool x)) (k : ∀ w', ChSt w0 w' bc bo F A E (cs.set off (.bool false)) → R w') :
  Calls pP 199 #[.pointer (some ⟨bc, 0, none⟩), .pointer (some ⟨bo, off, none⟩)] w fun e w' => e = .returned (.tuple #[]) ∧ R w' := by
 have hlt : off < cs.length := (List.getElem?_eq_some_iff.1 hc).1
 refine yaQ (yKh ?_)
 refine ydX (b := bo) (o := off) H.o rfl (by simp; omega) fun w2 h2 M2 => ?_
 exact ⟨rfl, k w2 (H.setO (by rw [h2, yID]) M2)⟩
theorem yrF {w0 w : World} {bc bo : Nat} {F A : Bool} {E : Int} {b : PBatch} {rs : Sl} {cs : List Value} {R : World → Prop} (H : ChSt w0 w bc bo F A E cs) (h5 : cs[5]? = some (.int .i64 b.prod)) (h6 : cs[6]? = some (.int .i64 b.epoch)) (h7 : cs[7]? = some (.int .i64 b.seq)) (h8 : cs[8]? = some (.slice rs.a rs.n rs.c))
  (hs : ycD w 4 yfW rs.a rs.n b.recs) (hl : b.recs.length ≤ 1000000) (k : ∀ w', ChSt w0 w' bc bo F A (ybG b) ((((cs.set 5 (.int .i64 0)).set 6 (.int .i64 0)).set 7 (.int .i64 0)).set 8 (.slice none 0 0)) → R w') :
  Calls pP 198 #[.pointer (some ⟨bc, 0, none⟩), .pointer (some ⟨bo, 5, none⟩)] w fun e w' => e = .returned (.tuple #[]) ∧ R w' := by
 have hlt : 8 < cs.length := (List.getElem?_eq_some_iff.1 h8).1
 refine yaQ (yKi ?_)
 refine ygD (b := bo) (i := 5) H.o (by simpa using h5) (ygD (b := bo) (i := 6) H.o (by simpa using h6) (ygD (b := bo) (i := 7) H.o (by simpa using h7) (yc8 (b := bo) (i := 8) H.o (by simpa using h8) ?_)))
 refine (yrE (b := b) (rs := rs) hs hl).mono ?_
 rintro e w1 ⟨rfl, M1⟩
 have H1 := H.m0 M1
 refine ⟨_, rfl, ?_⟩
 refine ydX (b := bc) (o := 2) H1.c rfl (by simp) fun w2 h2 M2 => ?_
 have H2 := H1.setC (F' := F) (A' := A) (E' := ybG b) h2 M2
 refine ydX (b := bo) (o := 5) H2.o rfl (by simp; omega) fun w3 h3 M3 => ?_
 exact ⟨rfl, k w3 (H2.setO (by rw [h3]; simp [ybX]) M3)⟩
theorem yKx (s : ByteArray) (w : World) : Calls pP 204 #[.string s] w fun e w' => e = .returned (.bool (!ybR s)) ∧ Mod [] w w' := by
 refine yaQ (yKm ?_)
 refine (ysV s w).mono ?_
 rintro e w1 ⟨rfl, M1⟩
 exact ⟨_, rfl, rfl, M1⟩
theorem ytI {w : World} {a : Option Addr} {n c : Nat} {l : List ByteArray} (h : ycD w 1 ykT a n l) (hl : l.length ≤ 1000000) :
  Calls pP 205 #[.slice a n c, .func (.func 204) #[] #[]] w fun e w' => ∃ v, e = .returned v ∧ ∃ x : Int, v = .int .i64 x ∧ (0 ≤ x ↔ l.all ybR = false) ∧ Mod [] w w' := by
 refine yKq ?_
 have hn := h.1
 refine yBB (fun mm x w' => ∃ k : Nat, x = k ∧ k ≤ l.length ∧ (l.take k).all ybR = true ∧ Mod [] w w' ∧ mm = l.length - k) l.length ⟨0, rfl, by omega, by simp, Mod.refl _, rfl⟩ ?_
 rintro mm x w1 ⟨k, rfl, hk, ha, M1, rfl⟩
 refine yaE (fun hlt => ?_) fun hge => ?_
 ·obtain ⟨y, hy⟩ : ∃ y, l[k]? = some y := ⟨_, List.getElem?_eq_getElem (by omega)⟩
  refine (h.keep0 M1).ix hy fun q hq => yaI (by simpa [add_zero] using hq 0 _ rfl) ?_
  refine (yKx y w1).mono ?_
  rintro e w2 ⟨rfl, M2⟩
  have N2 := M1.go0 M2 (by simp)
  refine ⟨_, rfl, yaC (fun g => ?_) fun g => ?_⟩
  ·refine ⟨_, rfl, ⟨fun _ => ?_, fun _ => by omega⟩, N2⟩
   rw [List.all_eq_false]
   exact ⟨y, List.mem_of_getElem? hy, by simpa using g⟩
  ·refine yBA (l.length - (k + 1)) (by omega) ⟨k + 1, by rw [yaH (by omega) (by omega)]; omega, by omega, ?_, N2, rfl⟩
   rw [ycG hy, ha]; simpa using g
 ·have : k = l.length := by omega
  subst this
  rw [List.take_length] at ha
  exact ⟨_, rfl, ⟨fun h => by omega, fun h => by rw [ha] at h; cases h⟩, M1⟩
theorem ylQ {w : World} {a : Option Addr} {n c : Nat} {l : List ByteArray} (h : ycD w 1 ykT a n l) (hl : l.length ≤ 1000000) :
  Calls pP 203 #[.slice a n c, .func (.func 204) #[] #[]] w fun e w' => e = .returned (.bool (!l.all ybR)) ∧ Mod [] w w' := by
 refine yaQ (yKn ?_)
 refine (ytI h hl).mono ?_
 rintro e w1 ⟨_, rfl, x, rfl, hx, M1⟩
 refine ⟨_, rfl, congrArg Value.bool ?_, M1⟩
 cases ha : l.all ybR
 ·exact decide_eq_true (hx.2 ha)
 ·exact decide_eq_false fun h => by have := hx.1 h; rw [ha] at this; cases this
theorem ymR : ∀ (l : List ByteArray) (x y : ByteArray), ye3 (l ++ [x, y]) = (ye3 (l ++ [x]) && ys5 x y)
 | [], x, y => by simp [ye3]
 | [a], x, y => by simp [ye3, Bool.and_assoc]
 | a :: b :: r, x, y => by
  have := ymR (b :: r) x y
  simp only [List.cons_append] at this ⊢
  rw [ye3, ye3, this, Bool.and_assoc]
theorem yfZ {l : List ByteArray} {k : Nat} {x y : ByteArray} (hx : l[k]? = some x) (hy : l[k + 1]? = some y) : ye3 (l.take (k + 2)) = (ye3 (l.take (k + 1)) && ys5 x y) := by
 have e1 : l.take (k + 1) = l.take k ++ [x] := by rw [List.take_add_one, hx]; rfl
 have e2 : l.take (k + 2) = l.take k ++ [x, y] := by rw [List.take_add_one, hy, e1]; simp
 rw [e1, e2, ymR]
theorem yrG {w0 w : World} {bc bo : Nat} {F A : Bool} {E : Int} {l : List ByteArray} {ts : Sl} {cs : List Value} {R : World → Prop} (H : ChSt w0 w bc bo F A E cs) (hc : cs[13]? = some (.slice ts.a ts.n ts.c))
  (hs : ycD w 1 ykT ts.a ts.n l) (hl : l.length ≤ 1000000) (k : ∀ w', ChSt w0 w' bc bo (F || !yb9 l) A E (cs.set 13 (.slice none 0 0)) → R w') :
  Calls pP 201 #[.pointer (some ⟨bc, 0, none⟩), .pointer (some ⟨bo, 13, none⟩)] w fun e w' => e = .returned (.tuple #[]) ∧ R w' := by
 have hlt : 13 < cs.length := (List.getElem?_eq_some_iff.1 hc).1
 have hn := hs.1
 refine yaQ (yKl ?_)
 refine yBz (fun mm t x w' => ∃ j : Nat, x = ((j + 1 : Nat) : Int) ∧ j ≤ l.length ∧ t = ye3 (l.take (j + 1)) ∧ Mod [] w w' ∧ mm = l.length - j) l.length ⟨0, rfl, by omega, ?_, Mod.refl _, rfl⟩ ?_
 ·cases l <;> simp [ye3]
 rintro mm t x w1 ⟨j, rfl, hj, rfl, M1, rfl⟩
 have H1 := H.m0 M1
 have hcell : cs.toArray[13]? = some (.slice ts.a ts.n ts.c) := by simpa using hc
 refine yc8 (b := bo) (i := 13) H1.o hcell ?_
 refine yaE (fun hlt2 => ?_) fun hge => ?_
 ·have g1 : j + 1 < l.length := by omega
  obtain ⟨x, hx⟩ : ∃ x, l[j]? = some x := ⟨_, List.getElem?_eq_getElem (by omega)⟩
  obtain ⟨y, hy⟩ : ∃ y, l[j + 1]? = some y := ⟨_, List.getElem?_eq_getElem g1⟩
  have ew : IntKind.wrap .i64 (((j + 1 : Nat) : Int) + 1) = ((j + 1 + 1 : Nat) : Int) := by rw [yaH (by omega) (by omega)]; omega
  have em : IntKind.wrap .i64 (((j + 1 : Nat) : Int) - 1) = (j : Int) := by rw [yaH (by omega) (by omega)]; omega
  refine yaC (fun g => ?_) fun g => ?_
  ·refine yc8 (b := bo) (i := 13) H1.o hcell ?_
   rw [em]
   refine (hs.keep0 M1).ix hx fun q hq => yaI (x := x) (by simpa [add_zero] using hq 0 _ rfl) ?_
   refine yc8 (b := bo) (i := 13) H1.o hcell ?_
   refine (hs.keep0 M1).ix hy fun q hq => yaI (x := y) (by simpa [add_zero] using hq 0 _ rfl) ?_
   intro w2 A2
   refine yrC (l.length - (j + 1)) (by omega) ⟨j + 1, ew, by omega, ?_, M1.go0 A2.mod (by simp), rfl⟩
   rw [yfZ hx hy, g]; rfl
  ·intro w2 A2
   refine yrC (l.length - (j + 1)) (by omega) ⟨j + 1, ew, by omega, ?_, M1.go0 A2.mod (by simp), rfl⟩
   rw [yfZ hx hy, g]; rfl
 ·rw [List.take_of_length_le (by omega)]
  refine yc8 (b := bo) (i := 13) H1.o hcell ?_
  refine (ylQ (hs.keep0 M1) hl).mono ?_
  rintro e w2 ⟨rfl, M2⟩
  have H2 := H1.m0 M2
  refine ⟨_, rfl, ?_⟩
  have fin : ∀ {f : Bool}, (F || !yb9 l) = f → st w2 ⟨bc, 0, none⟩ [.bool f] fun w3 => st w3 ⟨bo, 13, none⟩ [.slice none 0 0] fun w4 => (Value.tuple #[] = Value.tuple #[] ∧ R w4) := fun {f} hf => by
   refine ydX (b := bc) (o := 0) H2.c rfl (by simp) fun w3 h3 M3 => ?_
   have H3 := H2.setC (F' := f) (A' := A) (E' := E) h3 M3
   refine ydX (b := bo) (o := 13) H3.o rfl (by simp; omega) fun w4 h4 M4 => ?_
   refine ⟨rfl, k w4 ?_⟩
   rw [hf]
   exact H3.setO (by rw [h4, yID]) M4
  refine yj9 (b := bc) (i := 0) H2.c rfl ?_
  refine yaC (fun g => fin (by rw [g]; rfl)) fun g => ?_
  subst g
  refine yc8 (b := bo) (i := 13) H2.o hcell ?_
  refine yaC (fun g => fin ?_) fun g => ?_
  ·have : l.length = 0 := by simp at g; omega
   simp [yb9, this]
  refine yc8 (b := bo) (i := 13) H2.o hcell ?_
  refine yaE (fun g2 => fin ?_) fun g2 => ?_
  ·have : ¬ (l.length ≤ 8) := by omega
   simp [yb9, this]
  have hl8 : decide (1 ≤ l.length ∧ l.length ≤ 8) = true := decide_eq_true (by simp at g; omega)
  refine yaC (fun g3 => fin ?_) fun g3 => fin ?_
  ·rw [yb9, yjX g3]; simp
  ·rw [yb9, yjF g3, hl8]; simp
theorem ytJ {w0 w : World} {bc bo : Nat} {F A : Bool} {E x : Int} {t : ByteArray} {cs : List Value} {R : World → Prop} (H : ChSt w0 w bc bo F A E cs) (h1 : cs[1]? = some (.string t)) (h2 : cs[2]? = some (.int .i64 x)) (k : ∀ w', ChSt w0 w' bc bo (F || !ybR t) (A || !num x) E ((cs.set 1 (.string es)).set 2 (.int .i64 0)) → R w') :
  Calls pP 82 #[.iface 204 (.pointer (some ⟨bc, 0, none⟩)), .pointer (some ⟨bo, 1, none⟩)] w fun e w' => e = .returned (.tuple #[]) ∧ R w' := by
 refine yaQ (yKr ?_)
 intro w1 A1
 refine yfI (off := 1) (H.adv A1) h1 fun w2 H => ?_
 intro w3 A3
 refine ymQ (off := 2) (x := x) (H.adv A3) (by rw [List.getElem?_set_ne (by decide)]; exact h2) fun w4 H => ?_
 exact ⟨rfl, k w4 H⟩
theorem yoF {w0 w : World} {bc bo : Nat} {F A : Bool} {E : Int} {g m : ByteArray} {cs : List Value} {R : World → Prop} (H : ChSt w0 w bc bo F A E cs) (h1 : cs[9]? = some (.string g)) (h2 : cs[10]? = some (.string m)) (k : ∀ w', ChSt w0 w' bc bo ((F || !ybR g) || !ybR m) A E ((cs.set 9 (.string es)).set 10 (.string es)) → R w') :
  Calls pP 144 #[.iface 204 (.pointer (some ⟨bc, 0, none⟩)), .pointer (some ⟨bo, 0, none⟩)] w fun e w' => e = .returned (.tuple #[]) ∧ R w' := by
 refine yaQ (yKs ?_)
 intro w1 A1
 refine yfI (off := 9) (H.adv A1) h1 fun w2 H => ?_
 intro w3 A3
 refine yfI (off := 10) (x := m) (H.adv A3) (by rw [List.getElem?_set_ne (by decide)]; exact h2) fun w4 H => ?_
 exact ⟨rfl, k w4 H⟩
def ybS : Sl := ⟨none, 0, 0⟩
def chR (o : POp) (rs : Sl) : Sl := if ha o.kind 98 then ybS else rs
def chT (o : POp) (ts : Sl) : Sl := if ha o.kind 114 then ybS else ts
set_option maxHeartbeats 2000000 in
theorem yrH {w0 w : World} {bc bo : Nat} {o : POp} {rs ts : Sl} {R : World → Prop} (H : ChSt w0 w bc bo false false 0 (o.cs rs ts)) (h0 : ¬ (o.kind < 0 ∨ o.kind > 12))
  (hop : ∀ w', Mod [bc, bo] w0 w' → OpAt w' o rs ts) (k : ∀ w', ChSt w0 w' bc bo (chF o) (chA o) (chE o) ((chO o).cs (chR o rs) (chT o ts)) → R w') :
  Calls pP 117 #[.iface 204 (.pointer (some ⟨bc, 0, none⟩)), .pointer (some ⟨bo, 0, none⟩)] w fun e w' => e = .returned (.tuple #[]) ∧ R w' := by
 refine yaQ (yKt ?_)
 obtain ⟨kd, pt, n, off, b, g, m, gen, robin, topics⟩ := o
 obtain ⟨b1, b2, b3, b4⟩ := b
 simp only at h0
 refine ygD (b := bo) (i := 0) H.o rfl ?_
 have hk : kd = 0 ∨ kd = 1 ∨ kd = 2 ∨ kd = 3 ∨ kd = 4 ∨ kd = 5 ∨ kd = 6 ∨ kd = 7 ∨ kd = 8 ∨ kd = 9 ∨ kd = 10 ∨ kd = 11 ∨ kd = 12 := by omega
 rcases hk with rfl | rfl | rfl | rfl | rfl | rfl | rfl | rfl | rfl | rfl | rfl | rfl | rfl
 all_goals
  repeat (first
   | refine brT rfl ?_
   | refine brF rfl ?_
   | (intro w' A'; have H := H.adv A'; clear A')
   | refine ymQ H rfl fun w' H => ?_
   | refine yfI H rfl fun w' H => ?_
   | refine ytH H rfl fun w' H => ?_
   | refine ytJ H rfl rfl fun w' H => ?_
   | refine yoF H rfl rfl fun w' H => ?_
   | refine yrF (b := ⟨b1, b2, b3, b4⟩) (rs := rs) H rfl rfl rfl rfl (hop _ H.m).recs (hop _ H.m).lr fun w' H => ?_
   | refine yrG (ts := ts) H rfl (hop _ H.m).topics (hop _ H.m).lt fun w' H => ?_)
  refine ⟨rfl, k _ ?_⟩
  simpa [chF, chA, chE, chO, chR, chT, ha, yqF, POp.cs, ybS, yb0, Bool.or_comm, Bool.or_left_comm, Bool.or_assoc] using H
theorem yvX {w : World} {o : POp} {rs ts : Sl} (h : OpAt w o rs ts) :
  Calls pP 116 #[o.v rs ts] w fun e w' => e = .returned (.int .i64 (opE o)) ∧ Mod [] w w' := by
 refine yaQ (yKu ?_)
 intro b1 f1
 refine yaE (fun q1 => ?_) fun q1 => ?_
 ·intro w1 A1
  exact ⟨by rw [opE, if_pos (.inl q1)], A1.mod⟩
 refine yaE (fun q2 => ?_) fun q2 => ?_
 ·intro w1 A1
  exact ⟨by rw [opE, if_pos (.inr (by omega))], A1.mod⟩
 have h0 : ¬ (o.kind < 0 ∨ o.kind > 12) := by omega
 intro b4 f4 w5 A5 c1 c4
 have hne : b4 ≠ b1 := by
  rintro rfl
  rw [c1] at c4; cases c4
 have l1 := A5.lt b1 (by simp)
 have l4 := A5.lt b4 (by simp)
 have hop : ∀ w', Mod [b4, b1] w5 w' → OpAt w' o rs ts := fun w' M => h.keep0 (A5.mod.go0 M (by simp; omega))
 refine yrH (o := o) (rs := rs) (ts := ts) ⟨c4, c1, (Mod.refl _).less (by simp), hne⟩ h0 hop fun w6 H => ?_
 have M6 : Mod [] w w6 := A5.mod.go0 H.m (by simp; omega)
 refine ⟨_, _, _, _, _, _, _, _, _, _, _, _, _, _, _, _, _, _, H.o, _, _, _, H.c, ?_⟩
 have law := yA9 o h0
 refine yaC (fun q3 => ?_) fun q3 => ?_
 ·intro w7 A7 _ _
  exact ⟨by rw [law, q3]; rfl, M6.go0 A7.mod (by simpa using f1)⟩
 intro w7 A7 d1 d4
 have M7 : Mod [] w w7 := M6.go0 A7.mod (by simpa using f1)
 have hop7 := h.keep0 M7
 have hA : OpAt w7 { chO o with kind := 0 } (chR o rs) (chT o ts) := by
  refine ⟨?_, ?_, ?_, ?_⟩
  ·unfold chR chO; simp only; split
   ·exact ⟨rfl, fun i x hx => by simp [yb0] at hx⟩
   ·exact hop7.recs
  ·unfold chT chO; simp only; split
   ·exact ⟨rfl, fun i x hx => by simp at hx⟩
   ·exact hop7.topics
  ·unfold chO; simp only; split
   ·simp [yb0]
   ·exact hop7.lr
  ·unfold chO; simp only; split
   ·simp
   ·exact hop7.lt
 have h00 : OpAt w7 op0 ybS ybS := (ys4 w7 0).at
 refine (yBC (x := { chO o with kind := 0 }) (y := op0) hA h00).mono ?_
 rintro e w8 ⟨rfl, M8⟩
 have c8 := M8.keep0 d1
 have e8 := M8.keep0 d4
 refine ⟨_, rfl, _, _, _, _, _, _, _, _, _, _, _, _, _, _, _, _, _, _, c8, _, _, _, e8, ?_⟩
 have M9 := M7.go0 M8 (by simp)
 refine yaC (fun q4 => ?_) fun q4 => ?_
 ·exact ⟨by rw [law, q3, q4]; rfl, M9⟩
 refine yaC (fun q5 => ?_) fun q5 => ?_
 ·exact ⟨by rw [law, q3, q4, q5]; rfl, M9⟩
 ·exact ⟨by rw [law, q3, q4, q5]; rfl, M9⟩
section
set_option maxRecDepth 100000
variable {R : VWP} {w w0 : World} {m : Nat} {i0 i1 i2 i3 i4 i5 i6 i7 i8 i9 j0 j1 j2 j3 j4 j5 j6 j7 j8 j9 k0 k1 k2 k3 k4 k5 k6 k7 k8 k9 l0 l1 l2 l3 l4 l5 l6 l7 l8 l9 : Int} {s0 s1 s2 s3 s4 s5 s6 s7 s8 s9 t0 t1 t2 t3 t4 t5 t6 t7 t8 t9 : BA} {n0 n1 n2 n3 n4 n5 n6 n7 n8 n9 o0 o1 o2 o3 o4 o5 o6 o7 o8 o9 p0 p1 p2 p3 p4 p5 p6 p7 p8 p9 : Nat} {q0 q1 q2 q3 q4 q5 q6 q7 q8 q9 r0 r1 r2 r3 r4 r5 r6 r7 r8 r9 : OA} {B0 B1 B2 B3 B4 B5 B6 B7 B8 B9 : Bool} {M0 M1 M2 M3 : Option Nat} {V0 V1 V2 V3 V4 V5 : Value} {A0 A1 A2 : Addr}
theorem yKy (h :
 ∀ b1, w.heap.size ≤ b1 →
 ∀ w2, Adv [] [b1] w w2 →
 R (.agg (Z9 (some A0) (some (Addr.add A0 1)) (some (Addr.add A0 2)) (some (Addr.add A0 3)) (some (Addr.add A0 4)) (some (Addr.add A0 5)) (some (Addr.add A0 6)) (some (Addr.add A0 7)) (some (Addr.add A0 8)) (some (Addr.add A0 9)))) w2) :
 CR pP 50 #[(.pointer (some A0))] w R :=
 yaA Tryz.wide_mixed (an := []) Tryz.func50 rfl rfl (by kernel_rfl) rfl (Eq.mpr (by kernel_rfl) h)
def ytK : LA := ⟨[0, 0, 1, 0, 1, 1], [1, 17, 18], [(1, 0, 0)], 1, [0]⟩
def yvY : List LA := [ytK]
abbrev yKz := dnF pP yvY (code Tryz.f49)
abbrev yNG := yaO pP yvY (code Tryz.f49)
abbrev yKA (p : List Nat) (K : List Kh) (R : VWP) := yaO pP yvY (code Tryz.f49) p K (ya7 pP Tryz.f49 [] R)
def ymS (b3 b4 b5 b6 b7 b8 b9 c0 c1 c2 : OA) (bm0 : Nat) (c3 c4 c5 c6 c7 c8 c9 d0 d1 d2 : Int) (a0 : OA) (a6 a3 : Nat) (a9 b0 b1 b2 : Int) (a1 : OA) (a7 a4 : Nat) (a2 : OA) (a8 a5 : Nat) : Int → List Value × List TB := fun d3 => ([(.pointer (some ⟨bm0, 0, none⟩)), (.agg (Z9 b3 b4 b5 b6 b7 b8 b9 c0 c1 c2)), .int .i64 d3], [⟨bm0, 37, [.int .i64 c3, .int .i64 c4, .int .i64 c5, .int .i64 c6, .int .i64 c7, .int .i64 c8, .int .i64 c9, .int .i64 d0, .int .i64 d1, .int .i64 d2, .slice a0 a6 a3, .int .i64 a9, .int .i64 b0, .int .i64 b1, .int .i64 b2, .slice a1 a7 a4, .slice a2 a8 a5], true⟩])
abbrev yFz (b3 b4 b5 b6 b7 b8 b9 c0 c1 c2 : OA) (bm0 : Nat) (c3 c4 c5 c6 c7 c8 c9 d0 d1 d2 : Int) (a0 : OA) (a6 a3 : Nat) (a9 b0 b1 b2 : Int) (a1 : OA) (a7 a4 : Nat) (a2 : OA) (a8 a5 : Nat) (I : Nat → Int → World → Prop) (m : Nat) : Kh := KG (ymS b3 b4 b5 b6 b7 b8 b9 c0 c1 c2 bm0 c3 c4 c5 c6 c7 c8 c9 d0 d1 d2 a0 a6 a3 a9 b0 b1 b2 a1 a7 a4 a2 a8 a5) (U1 I) m
theorem yBD {I : Nat → Int → World → Prop} (m' : Nat) (h1 : m' < m) (h2 : I m' j4 w) : KS (yFz q0 q1 q2 q3 q4 q5 q6 q7 q8 q9 n0 i0 i1 i2 i3 i4 i5 i6 i7 i8 i9 r0 n1 n2 j0 j1 j2 j3 r1 n3 n4 r2 n5 n6 I m) (ymS q0 q1 q2 q3 q4 q5 q6 q7 q8 q9 n0 i0 i1 i2 i3 i4 i5 i6 i7 i8 i9 r0 n1 n2 j0 j1 j2 j3 r1 n3 n4 r2 n5 n6 j4) w := ⟨m', h1, _, rfl, rfl, h2⟩
theorem yBE (I : Nat → Int → World → Prop) (m0 : Nat) (h0 : I m0 j4 w0)
 (hr : ∀ m d3 w, I m d3 w →
 w.heap[n0]? = some (.cells (Z0 i0 i1 i2 i3 i4 i5 i6 i7 i8 i9 r0 n1 n2 j0 j1 j2 j3 r1 n3 n4 r2 n5 n6) 37) →
 brB (decide (d3 < 10)) (
 ∃ d5, (∀ w' : World, (Instr.index 108 (.agg (Z9 q0 q1 q2 q3 q4 q5 q6 q7 q8 q9)) (.int .i64 d3)).run pP w' = .ok (.pointer d5) w') ∧
 ysE d5 fun g2 =>
 yaF .i64 w g2 fun g6 =>
 brB (decide (g6 < 0)) (
 R (.int .i64 1) w)
 (
 ysE d5 fun g3 =>
 yaF .i64 w g3 fun g7 =>
 brB (decide (g7 > 1099511627776)) (
 R (.int .i64 1) w)
 (
 KS (yFz q0 q1 q2 q3 q4 q5 q6 q7 q8 q9 n0 i0 i1 i2 i3 i4 i5 i6 i7 i8 i9 r0 n1 n2 j0 j1 j2 j3 r1 n3 n4 r2 n5 n6 I m) (ymS q0 q1 q2 q3 q4 q5 q6 q7 q8 q9 n0 i0 i1 i2 i3 i4 i5 i6 i7 i8 i9 r0 n1 n2 j0 j1 j2 j3 r1 n3 n4 r2 n5 n6 (IntKind.wrap .i64 (d3 + 1))) w)))
 (
 Calls pP 53 #[.slice r0 n1 n2] w fun e d6 => ∃ g4 d7, e = .returned (.tuple #[.string g4, .int .i64 d7]) ∧ ∃ g8 g9 h1 h2 h3 h4 h5 h6 h7 h8 f0 f8 f4 e5 e6 e7 e8 d8 e2 e0 d9 e3 e1, d6.heap[n0]? = some (.cells (Z0 g8 g9 h1 h2 h3 h4 h5 h6 h7 h8 f0 f8 f4 e5 e6 e7 e8 d8 e2 e0 d9 e3 e1) 37) ∧
 brB (d7 != 0) (
 R (.int .i64 d7) d6)
 (
 Calls pP 54 #[(.agg (Z3 e5 e6 e7 e8 d8 e2 e0 d9 e3 e1))] d6 fun e e4 => ∃ g5 e9, e = .returned (.tuple #[.string g5, .int .i64 e9]) ∧ ∃ h9 u0 u1 u2 u3 u4 u5 u6 u7 u9 f1 f9 f5 v0 v1 v2 v3 f2 g0 f6 f3 g1 f7, e4.heap[n0]? = some (.cells (Z0 h9 u0 u1 u2 u3 u4 u5 u6 u7 u9 f1 f9 f5 v0 v1 v2 v3 f2 g0 f6 f3 g1 f7) 37) ∧
 R (.int .i64 e9) e4))) :
 yaJ ytK (yKz 396 [0, 0, 1, 0, 1, 1]) (yKA [1, 1, 0, 1, 0] [] R) (ymS q0 q1 q2 q3 q4 q5 q6 q7 q8 q9 n0 i0 i1 i2 i3 i4 i5 i6 i7 i8 i9 r0 n1 n2 j0 j1 j2 j3 r1 n3 n4 r2 n5 n6 j4) w0 :=
 lrule (ymS q0 q1 q2 q3 q4 q5 q6 q7 q8 q9 n0 i0 i1 i2 i3 i4 i5 i6 i7 i8 i9 r0 n1 n2 j0 j1 j2 j3 r1 n3 n4 r2 n5 n6) (U1 I) h0 (by rintro m d3 w h; exact ⟨by kernel_rfl, by kernel_rfl, fun js => Eq.mpr (by kernel_rfl) (hr m d3 w h)⟩)
theorem yKB {a3 a2 : Nat} {a6 a5 : Nat} {a9 a8 : Nat} (h :
 ∀ b1, w.heap.size ≤ b1 →
 brB (decide (i0 < 0)) (
 ∀ w2, Adv [] [b1] w w2 →
 R (.int .i64 180) w2)
 (
 brB (decide (i0 ≥ 12)) (
 ∀ w3, Adv [] [b1] w w3 →
 R (.int .i64 180) w3)
 (
 ∀ w4, Adv [] [b1] w w4 → w4.heap[b1]? = some (.cells (Z0 i0 i1 i2 i3 i4 i5 i6 i7 i8 i9 q0 a3 a2 j0 j1 j2 j3 q1 a6 a5 q2 a9 a8) 37) →
 Calls pP 50 #[(.pointer (some ⟨b1, 0, none⟩))] w4 fun e w5 => ∃ p6 p7 p8 p9 d3 d4 d5 d6 d7 d8, e = .returned (.agg (Z9 p6 p7 p8 p9 d3 d4 d5 d6 d7 d8)) ∧ ∃ d9 e0 e1 e2 e3 e4 e5 e6 e7 e8 c4 d0 c7 e9 f0 f1 f2 c5 d1 c8 c6 d2 c9, w5.heap[b1]? = some (.cells (Z0 d9 e0 e1 e2 e3 e4 e5 e6 e7 e8 c4 d0 c7 e9 f0 f1 f2 c5 d1 c8 c6 d2 c9) 37) ∧
 yaJ ytK (yKz 396 [0, 0, 1, 0, 1, 1]) (yKA [1, 1, 0, 1, 0] [] R) (ymS p6 p7 p8 p9 d3 d4 d5 d6 d7 d8 b1 d9 e0 e1 e2 e3 e4 e5 e6 e7 e8 c4 d0 c7 e9 f0 f1 f2 c5 d1 c8 c6 d2 c9 0) w5))) :
 CR pP 49 #[(.agg (Z0 i0 i1 i2 i3 i4 i5 i6 i7 i8 i9 q0 a3 a2 j0 j1 j2 j3 q1 a6 a5 q2 a9 a8))] w R :=
 yaA Tryz.wide_mixed (an := yvY) Tryz.func49 rfl rfl (by kernel_rfl) rfl (Eq.mpr (by kernel_rfl) h)
def ytL : LA := ⟨[0, 0, 1, 0, 1, 1, 1, 1, 1], [5, 23, 24, 25], [(5, 0, 0)], 1, [0]⟩
def yvZ : List LA := [ytL]
abbrev yKC := dnF pP yvZ (code Tryz.f53)
abbrev yNH := yaO pP yvZ (code Tryz.f53)
abbrev yKD (p : List Nat) (K : List Kh) (R : VWP) := yaO pP yvZ (code Tryz.f53) p K (ya7 pP Tryz.f53 [] R)
def ymT (a4 : OA) (a6 a5 : Nat) (a7 : Int) (bm0 : Nat) : Int × (Option Addr) × (Option Addr) × Nat × Nat → List Value × List TB := fun (a8, a3, a0, a2, a1) => ([(.pointer (some ⟨bm0, 0, none⟩)), .slice a4 a6 a5, .int .i64 a7, .int .i64 a8], [⟨bm0, 106, [.pointer a3, .slice a0 a2 a1], true⟩])
abbrev yFA (a0 : OA) (a2 a1 : Nat) (a3 : Int) (bm0 : Nat) (I : Nat → Int → Option Addr → Option Addr → Nat → Nat → World → Prop) (m : Nat) : Kh := KG (ymT a0 a2 a1 a3 bm0) (U5 I) m
theorem yBF {I : Nat → Int → Option Addr → Option Addr → Nat → Nat → World → Prop} (m' : Nat) (h1 : m' < m) (h2 : I m' i1 q1 q2 n3 n4 w) : KS (yFA q0 n0 n1 i0 n2 I m) (ymT q0 n0 n1 i0 n2 (i1, q1, q2, n3, n4)) w := ⟨m', h1, _, rfl, rfl, h2⟩
theorem yBG (I : Nat → Int → Option Addr → Option Addr → Nat → Nat → World → Prop) (m0 : Nat) (h0 : I m0 i1 q1 q2 n3 n4 w0)
 (hr : ∀ m a6 a5 a2 a4 a3 w, I m a6 a5 a2 a4 a3 w →
 w.heap[n2]? = some (.cells #[.pointer a5, .slice a2 a4 a3] 106) →
 brB (decide (a6 < i0)) (
 ixA q0 n0 a6 16 fun a0 =>
 yaF .i64 w a0 fun h4 => yaF .i64 w (Addr.add a0 1) fun c4 => yaF .i64 w (Addr.add a0 2) fun h5 => yaT w (Addr.add a0 3) fun g6 => yaF .i64 w (Addr.add a0 4) fun h6 => yaF .i64 w (Addr.add a0 5) fun h7 => yaF .i64 w (Addr.add a0 6) fun h8 => yaF .i64 w (Addr.add a0 7) fun h9 => yaF .i64 w (Addr.add a0 8) fun u0 => yaF .i64 w (Addr.add a0 9) fun u1 => yaS w (Addr.add a0 10) fun e0 f4 e7 => yaT w (Addr.add a0 11) fun g7 => yaT w (Addr.add a0 12) fun g8 => yaF .i64 w (Addr.add a0 13) fun u2 => ya1 w (Addr.add a0 14) fun h2 => yaS w (Addr.add a0 15) fun e1 f5 e8 =>
 ∀ a1, w.heap.size ≤ a1 →
 ∀ b5, Adv [] [a1] w b5 → b5.heap[n2]? = some (.cells #[.pointer a5, .slice a2 a4 a3] 106) →
 Calls pP 78 #[(.agg (Z1 h5 g6 h6 h7 h8 h9 u0 u1 e0 f4 e7 g7 g8 u2 h2 e1 f5 e8))] b5 fun e c2 => ∃ d3 u3, e = .returned (.tuple #[.string d3, .int .i64 u3]) ∧ ya4 [n2] [(a1, 50)] [a1] b5 c2 ∧ ∃ d1 c5 c9 c7, c2.heap[n2]? = some (.cells #[.pointer d1, .slice c5 c9 c7] 106) ∧
 ∀ b6, Adv [] [] c2 b6 → b6.heap[n2]? = some (.cells #[.pointer d1, .slice c5 c9 c7] 106) →
 Calls pP 52 #[(.int .u64 (IntKind.wrap .u64 h4))] b6 fun e b7 => ∃ d4, e = .returned (.string d4) ∧ ya4 [n2] [(a1, 50)] [a1] b6 b7 ∧ ∃ g1 e2 f6 e9, b7.heap[n2]? = some (.cells #[.pointer g1, .slice e2 f6 e9] 106) ∧ (((.int .i64 c4) : Value) = (.int .i64 c4)) ∧
 Calls pP 52 #[(.int .u64 (IntKind.wrap .u64 c4))] b7 fun e b8 => ∃ d5, e = .returned (.string d5) ∧ ya4 [n2] [(a1, 50)] [a1] b7 b8 ∧ ∃ g2 e3 f7 f0, b8.heap[n2]? = some (.cells #[.pointer g2, .slice e3 f7 f0] 106) ∧
 yfP d4 d5 fun g9 =>
 Calls pP 56 #[.string d3] b8 fun e b9 => ∃ d6, e = .returned (.string d6) ∧ ya4 [n2] [(a1, 50)] [a1] b8 b9 ∧ ∃ g3 e4 f8 f1, b9.heap[n2]? = some (.cells #[.pointer g3, .slice e4 f8 f1] 106) ∧
 yfP g9 d6 fun h1 =>
 Calls pP 57 #[.string h1] b9 fun e c0 => ∃ d7, e = .returned (.string d7) ∧ ya4 [n2] [(a1, 50)] [a1] b9 c0 ∧ ∃ g4 e5 f9 f2, c0.heap[n2]? = some (.cells #[.pointer g4, .slice e5 f9 f2] 106) ∧
 Calls pP 51 #[(.pointer (some ⟨n2, 0, none⟩)), .string d7] c0 fun e c3 => ∃ u4 h3, e = .returned (.tuple #[.int .i64 u4, h3]) ∧ ya4 [n2] [(a1, 50)] [a1] c0 c3 ∧ ∃ d2 c6 d0 c8, c3.heap[n2]? = some (.cells #[.pointer d2, .slice c6 d0 c8] 106) ∧
 KS (yFA q0 n0 n1 i0 n2 I m) (ymT q0 n0 n1 i0 n2 ((IntKind.wrap .i64 (a6 + 1)), d2, c6, d0, c8)) c3)
 (
 Calls pP 55 #[(.pointer (some ⟨n2, 0, none⟩))] w fun e d9 => ∃ d8, e = .returned (.string d8) ∧ ∃ g5 e6 g0 f3, d9.heap[n2]? = some (.cells #[.pointer g5, .slice e6 g0 f3] 106) ∧
 R (.tuple #[.string d8, .int .i64 0]) d9)) :
 yaJ ytL (yKC 393 [0, 0, 1, 0, 1, 1, 1, 1, 1]) (yKD [1, 1, 1, 1, 1, 0, 1, 0] [] R) (ymT q0 n0 n1 i0 n2 (i1, q1, q2, n3, n4)) w0 :=
 lrule (ymT q0 n0 n1 i0 n2) (U5 I) h0 (by rintro m ⟨a6, a5, a2, a4, a3⟩ w h; exact ⟨by kernel_rfl, by kernel_rfl, fun js => Eq.mpr (by kernel_rfl) (hr m a6 a5 a2 a4 a3 w h)⟩)
theorem yKE (h :
 brB (decide ((n0 : Int) > 4096)) (
 R (.tuple #[(.string (⟨#[]⟩ : BA)), .int .i64 2]) w)
 (
 Calls pP 77 #[.slice q0 n0 n1] w fun e w1 => ∃ x2, e = .returned (.int .i64 x2) ∧
 brB (x2 != 0) (
 R (.tuple #[(.string (⟨#[]⟩ : BA)), .int .i64 x2]) w1)
 (
 ∀ b3, w1.heap.size ≤ b3 →
 ∀ w4, Adv [] [b3] w1 w4 →
 Calls pP 52 #[(.int .u64 (IntKind.wrap .u64 (n0 : Int)))] w4 fun e w5 => ∃ s6, e = .returned (.string s6) ∧ yaD [b3] w4 w5 ∧
 ∀ w7, Adv [] [] w5 w7 → w7.heap[b3]? = some (.cells #[.pointer none, .slice none 0 0] 106) →
 Calls pP 51 #[(.pointer (some ⟨b3, 0, none⟩)), .string s6] w7 fun e w8 => ∃ x9 a7, e = .returned (.tuple #[.int .i64 x9, a7]) ∧ ∃ a6 a3 a5 a4, w8.heap[b3]? = some (.cells #[.pointer a6, .slice a3 a5 a4] 106) ∧
 yaJ ytL (yKC 393 [0, 0, 1, 0, 1, 1, 1, 1, 1]) (yKD [1, 1, 1, 1, 1, 0, 1, 0] [] R) (ymT q0 n0 n1 (n0 : Int) b3 (0, a6, a3, a5, a4)) w8))) :
 CR pP 53 #[.slice q0 n0 n1] w R :=
 yaA Tryz.wide_mixed (an := yvZ) Tryz.func53 rfl rfl (by kernel_rfl) rfl (Eq.mpr (by kernel_rfl) h)
def ytM : LA := ⟨[0, 0, 1, 0, 1, 1, 1], [10, 11, 12], [], 1, [0]⟩
def yv0 : List LA := [ytM]
abbrev yKF := dnF pP yv0 (code Tryz.f77)
abbrev yNI := yaO pP yv0 (code Tryz.f77)
abbrev yKG (p : List Nat) (K : List Kh) (R : VWP) := yaO pP yv0 (code Tryz.f77) p K (ya7 pP Tryz.f77 [] R)
def ymU (a1 : OA) (a3 a2 : Nat) (a4 : Int) (bm0 : Nat) : Int × Value → List Value × List TB := fun (a5, a0) => ([.slice a1 a3 a2, .int .i64 a4, .int .i64 a5], [⟨bm0, 29, [a0], true⟩])
abbrev yFB (a0 : OA) (a2 a1 : Nat) (a3 : Int) (bm0 : Nat) (I : Nat → Int → VWP) (m : Nat) : Kh := KG (ymU a0 a2 a1 a3 bm0) (U2 I) m
theorem yBH {I : Nat → Int → VWP} (m' : Nat) (h1 : m' < m) (h2 : I m' i1 V0 w) : KS (yFB q0 n0 n1 i0 n2 I m) (ymU q0 n0 n1 i0 n2 (i1, V0)) w := ⟨m', h1, _, rfl, rfl, h2⟩
theorem yBI {a2 : OA} (I : Nat → Int → VWP) (m0 : Nat) (h0 : I m0 i1 V0 w0)
 (hr : ∀ m a1 a0 w, I m a1 a0 w →
 w.heap[n2]? = some (.cells #[a0] 29) →
 brB (decide (a1 < i0)) (
 ixA a2 n0 a1 16 fun q6 =>
 yaF .i64 w q6 fun x7 => yaF .i64 w (Addr.add q6 1) fun x8 => yaF .i64 w (Addr.add q6 2) fun x9 => yaT w (Addr.add q6 3) fun b9 => yaF .i64 w (Addr.add q6 4) fun c3 => yaF .i64 w (Addr.add q6 5) fun c4 => yaF .i64 w (Addr.add q6 6) fun c5 => yaF .i64 w (Addr.add q6 7) fun c6 => yaF .i64 w (Addr.add q6 8) fun c7 => yaF .i64 w (Addr.add q6 9) fun c8 => yaS w (Addr.add q6 10) fun b3 b7 b5 => yaT w (Addr.add q6 11) fun c0 => yaT w (Addr.add q6 12) fun c1 => yaF .i64 w (Addr.add q6 13) fun c9 => ya1 w (Addr.add q6 14) fun c2 => yaS w (Addr.add q6 15) fun b4 b8 b6 =>
 ∀ a7, w.heap.size ≤ a7 →
 ∀ a8, Adv [] [a7] w a8 → a8.heap[n2]? = some (.cells #[a0] 29) →
 Calls pP 116 #[(.agg (Z1 x9 b9 c3 c4 c5 c6 c7 c8 b3 b7 b5 c0 c1 c9 c2 b4 b8 b6))] a8 fun e a9 => ∃ b1, e = .returned (.int .i64 b1) ∧ ya4 [n2] [(a7, 50)] [a7] a8 a9 ∧ ∃ b2, a9.heap[n2]? = some (.cells #[b2] 29) ∧
 brB (b1 != 0) (
 R (.int .i64 b1) a9)
 (
 KS (yFB a2 n0 n1 i0 n2 I m) (ymU a2 n0 n1 i0 n2 ((IntKind.wrap .i64 (a1 + 1)), b2)) a9))
 (
 R (.int .i64 0) w)) :
 yaJ ytM (yKF 395 [0, 0, 1, 0, 1, 1, 1]) (yKG [1, 1, 1, 0, 1, 0] [] R) (ymU a2 n0 n1 i0 n2 (i1, V0)) w0 :=
 lrule (ymU a2 n0 n1 i0 n2) (U2 I) h0 (by rintro m ⟨a1, a0⟩ w h; exact ⟨by kernel_rfl, by kernel_rfl, fun js => Eq.mpr (by kernel_rfl) (hr m a1 a0 w h)⟩)
theorem yKH (h :
 ∀ b1, w.heap.size ≤ b1 →
 ∀ w2, Adv [] [b1] w w2 → w2.heap[b1]? = some (.cells #[(.func (.func 113) #[] #[])] 29) →
 Calls pP 114 #[.slice q0 n0 n1, (.func (.func 115) #[] #[(.pointer (some ⟨b1, 0, none⟩))])] w2 fun e w3 => ∃ t4, e = .returned (.bool t4) ∧ ∃ v5, w3.heap[b1]? = some (.cells #[v5] 29) ∧
 brB t4 (
 R (.int .i64 1) w3)
 (
 yaJ ytM (yKF 395 [0, 0, 1, 0, 1, 1, 1]) (yKG [1, 1, 1, 0, 1, 0] [] R) (ymU q0 n0 n1 (n0 : Int) b1 (0, v5)) w3)) :
 CR pP 77 #[.slice q0 n0 n1] w R :=
 yaA Tryz.wide_mixed (an := yv0) Tryz.func77 rfl rfl (by kernel_rfl) rfl (Eq.mpr (by kernel_rfl) h)
theorem yKI (h :
 brB (decide (i0 < 1)) (
 R (.bool true) w)
 (
 R (.bool (decide (i0 > 1099511627776))) w)) :
 CR pP 113 #[.int .i64 i0] w R :=
 yaA Tryz.wide_mixed (an := []) Tryz.func113 rfl rfl (by kernel_rfl) rfl (Eq.mpr (by kernel_rfl) h)
theorem yKJ (h :
 Calls pP 142 #[.slice q0 n0 n1, (.func (.func 115) #[] #[(.pointer (some A0))])] w fun e w1 => ∃ x2, e = .returned (.int .i64 x2) ∧
 R (.bool (decide (x2 ≥ 0))) w1) :
 CR pP 114 #[.slice q0 n0 n1, (.func (.func 115) #[] #[(.pointer (some A0))])] w R :=
 yaA Tryz.wide_mixed (an := []) Tryz.func114 rfl rfl (by kernel_rfl) rfl (Eq.mpr (by kernel_rfl) h)
def ytN : LA := ⟨[0, 0, 1, 0, 1], [0, 1, 7, 8], [], 0, []⟩
def yv1 : List LA := [ytN]
abbrev yKK := dnF pP yv1 (code Tryz.f142)
abbrev yNJ := yaO pP yv1 (code Tryz.f142)
abbrev yKL (p : List Nat) (K : List Kh) (R : VWP) := yaO pP yv1 (code Tryz.f142) p K (ya7 pP Tryz.f142 [] R)
def ymV (a1 : OA) (a3 a2 : Nat) (a0 : Addr) (a4 : Int) : Int → List Value × List TB := fun a5 => ([.slice a1 a3 a2, (.func (.func 115) #[] #[(.pointer (some a0))]), .int .i64 a4, .int .i64 a5], [])
abbrev yFC (a1 : OA) (a3 a2 : Nat) (a0 : Addr) (a4 : Int) (I : Nat → Int → World → Prop) (m : Nat) : Kh := KG (ymV a1 a3 a2 a0 a4) (U1 I) m
theorem yBJ {I : Nat → Int → World → Prop} (m' : Nat) (h1 : m' < m) (h2 : I m' i1 w) : KS (yFC q0 n0 n1 A0 i0 I m) (ymV q0 n0 n1 A0 i0 i1) w := ⟨m', h1, _, rfl, rfl, h2⟩
theorem yBK {a2 : OA} (I : Nat → Int → World → Prop) (m0 : Nat) (h0 : I m0 i1 w0)
 (hr : ∀ m a1 w, I m a1 w →
 brB (decide (a1 < i0)) (
 ixA a2 n0 a1 16 fun q1 =>
 yaF .i64 w q1 fun x2 => yaF .i64 w (Addr.add q1 1) fun x3 => yaF .i64 w (Addr.add q1 2) fun x4 => yaT w (Addr.add q1 3) fun s5 => yaF .i64 w (Addr.add q1 4) fun x6 => yaF .i64 w (Addr.add q1 5) fun x7 => yaF .i64 w (Addr.add q1 6) fun x8 => yaF .i64 w (Addr.add q1 7) fun x9 => yaF .i64 w (Addr.add q1 8) fun b8 => yaF .i64 w (Addr.add q1 9) fun b9 => yaS w (Addr.add q1 10) fun a9 b3 b1 => yaT w (Addr.add q1 11) fun b5 => yaT w (Addr.add q1 12) fun b6 => yaF .i64 w (Addr.add q1 13) fun c0 => ya1 w (Addr.add q1 14) fun b7 => yaS w (Addr.add q1 15) fun b0 b4 b2 =>
 Calls pP 115 #[(.agg (Z7 x2 x3 x4 s5 x6 x7 x8 x9 b8 b9 a9 b3 b1 b5 b6 c0 b7 b0 b4 b2)), (.pointer (some A0))] w fun e a8 => ∃ a7, e = .returned (.bool a7) ∧
 brB a7 (
 R (.int .i64 a1) a8)
 (
 KS (yFC a2 n0 n1 A0 i0 I m) (ymV a2 n0 n1 A0 i0 (IntKind.wrap .i64 (a1 + 1))) a8))
 (
 R (.int .i64 (-1)) w)) :
 yaJ ytN (yKK 397 [0, 0, 1, 0, 1]) (yKL [1, 0, 1, 0] [] R) (ymV a2 n0 n1 A0 i0 i1) w0 :=
 lrule (ymV a2 n0 n1 A0 i0) (U1 I) h0 (by rintro m a1 w h; exact ⟨by kernel_rfl, by kernel_rfl, fun js => Eq.mpr (by kernel_rfl) (hr m a1 w h)⟩)
theorem yKM (h :
 yaJ ytN (yKK 397 [0, 0, 1, 0, 1]) (yKL [1, 0, 1, 0] [] R) (ymV q0 n0 n1 A0 (n0 : Int) 0) w) :
 CR pP 142 #[.slice q0 n0 n1, (.func (.func 115) #[] #[(.pointer (some A0))])] w R :=
 yaA Tryz.wide_mixed (an := yv1) Tryz.func142 rfl rfl (by kernel_rfl) rfl (Eq.mpr (by kernel_rfl) h)
theorem yKN (h :
 ∀ b1, w.heap.size ≤ b1 →
 ∀ w2, Adv [] [b1] w w2 →
 al w2 (.cells #[.int .i64 i0, .int .i64 i1, .int .i64 i2, .int .i64 i3, .int .i64 i4, .int .i64 i5, .int .i64 i6, .int .i64 i7, .int .i64 i8, .int .i64 i9] 3) fun b3 w4 =>
 R (.slice (some ⟨b3, 0, none⟩) 10 10) w4) :
 CR pP 37 #[(.agg (Z0 i0 i1 i2 i3 i4 i5 i6 i7 i8 i9 q0 n0 n1 j0 j1 j2 j3 q1 n2 n3 q2 n4 n5))] w R :=
 yaA Tryz.wide_mixed (an := []) Tryz.func37 rfl rfl (by kernel_rfl) rfl (Eq.mpr (by kernel_rfl) h)
def ytO : LA := ⟨[0, 0, 1, 0, 1, 1], [2, 3, 5, 6, 7], [(2, 0, 0), (3, 1, 0)], 2, []⟩
def yv2 : List LA := [ytO]
abbrev yKO := dnF pP yv2 (code Tryz.f14)
abbrev yNK := yaO pP yv2 (code Tryz.f14)
abbrev yKP (p : List Nat) (K : List Kh) (R : VWP) := yaO pP yv2 (code Tryz.f14) p K (ya7 pP Tryz.f14 [] R)
def ymW (e6 : OA) (f0 e8 : Nat) (e7 : OA) (f1 e9 bm0 : Nat) (c6 c7 c8 c9 d0 d1 d2 d3 d4 d5 : Int) (a0 : OA) (b2 a6 : Nat) (b8 b9 c0 c1 : Int) (a1 : OA) (b3 a7 : Nat) (a2 : OA) (b4 a8 bm1 : Nat) (d6 d7 d8 d9 e0 e1 e2 e3 e4 e5 : Int) (a3 : OA) (b5 a9 : Nat) (c2 c3 c4 c5 : Int) (a4 : OA) (b6 b0 : Nat) (a5 : OA) (b7 b1 : Nat) : Int → List Value × List TB := fun f2 => ([(.pointer (some ⟨bm0, 0, none⟩)), (.pointer (some ⟨bm1, 0, none⟩)), .slice e6 f0 e8, .slice e7 f1 e9, .int .i64 f2], [⟨bm0, 37, [.int .i64 c6, .int .i64 c7, .int .i64 c8, .int .i64 c9, .int .i64 d0, .int .i64 d1, .int .i64 d2, .int .i64 d3, .int .i64 d4, .int .i64 d5, .slice a0 b2 a6, .int .i64 b8, .int .i64 b9, .int .i64 c0, .int .i64 c1, .slice a1 b3 a7, .slice a2 b4 a8], false⟩, ⟨bm1, 37, [.int .i64 d6, .int .i64 d7, .int .i64 d8, .int .i64 d9, .int .i64 e0, .int .i64 e1, .int .i64 e2, .int .i64 e3, .int .i64 e4, .int .i64 e5, .slice a3 b5 a9, .int .i64 c2, .int .i64 c3, .int .i64 c4, .int .i64 c5, .slice a4 b6 b0, .slice a5 b7 b1], false⟩])
abbrev yFD (e6 : OA) (f0 e8 : Nat) (e7 : OA) (f1 e9 bm0 : Nat) (c6 c7 c8 c9 d0 d1 d2 d3 d4 d5 : Int) (a0 : OA) (b2 a6 : Nat) (b8 b9 c0 c1 : Int) (a1 : OA) (b3 a7 : Nat) (a2 : OA) (b4 a8 bm1 : Nat) (d6 d7 d8 d9 e0 e1 e2 e3 e4 e5 : Int) (a3 : OA) (b5 a9 : Nat) (c2 c3 c4 c5 : Int) (a4 : OA) (b6 b0 : Nat) (a5 : OA) (b7 b1 : Nat) (I : Nat → Int → World → Prop) (m : Nat) : Kh := KG (ymW e6 f0 e8 e7 f1 e9 bm0 c6 c7 c8 c9 d0 d1 d2 d3 d4 d5 a0 b2 a6 b8 b9 c0 c1 a1 b3 a7 a2 b4 a8 bm1 d6 d7 d8 d9 e0 e1 e2 e3 e4 e5 a3 b5 a9 c2 c3 c4 c5 a4 b6 b0 a5 b7 b1) (U1 I) m
theorem yBL {I : Nat → Int → World → Prop} (m' : Nat) (h1 : m' < m) (h2 : I m' k8 w) : KS (yFD q0 n0 n1 q1 n2 n3 n4 i0 i1 i2 i3 i4 i5 i6 i7 i8 i9 q2 n5 n6 j0 j1 j2 j3 q3 n7 n8 q4 n9 o0 o1 j4 j5 j6 j7 j8 j9 k0 k1 k2 k3 q5 o2 o3 k4 k5 k6 k7 q6 o4 o5 q7 o6 o7 I m) (ymW q0 n0 n1 q1 n2 n3 n4 i0 i1 i2 i3 i4 i5 i6 i7 i8 i9 q2 n5 n6 j0 j1 j2 j3 q3 n7 n8 q4 n9 o0 o1 j4 j5 j6 j7 j8 j9 k0 k1 k2 k3 q5 o2 o3 k4 k5 k6 k7 q6 o4 o5 q7 o6 o7 k8) w := ⟨m', h1, _, rfl, rfl, h2⟩
theorem yBM (I : Nat → Int → World → Prop) (m0 : Nat) (h0 : I m0 k8 w0)
 (hr : ∀ m e6 w, I m e6 w →
 brB (decide (e6 < (n0 : Int))) (
 ixA q0 n0 e6 1 fun g0 =>
 yaF .i64 w g0 fun g2 =>
 ixA q1 n2 e6 1 fun g1 =>
 yaF .i64 w g1 fun g3 =>
 brB (g2 != g3) (
 ∀ f7, Adv [] [] w f7 →
 R (.bool false) f7)
 (
 ∀ f8, Adv [] [] w f8 →
 KS (yFD q0 n0 n1 q1 n2 n3 n4 i0 i1 i2 i3 i4 i5 i6 i7 i8 i9 q2 n5 n6 j0 j1 j2 j3 q3 n7 n8 q4 n9 o0 o1 j4 j5 j6 j7 j8 j9 k0 k1 k2 k3 q5 o2 o3 k4 k5 k6 k7 q6 o4 o5 q7 o6 o7 I m) (ymW q0 n0 n1 q1 n2 n3 n4 i0 i1 i2 i3 i4 i5 i6 i7 i8 i9 q2 n5 n6 j0 j1 j2 j3 q3 n7 n8 q4 n9 o0 o1 j4 j5 j6 j7 j8 j9 k0 k1 k2 k3 q5 o2 o3 k4 k5 k6 k7 q6 o4 o5 q7 o6 o7 (IntKind.wrap .i64 (e6 + 1))) f8))
 (
 Calls pP 38 #[.slice q2 n5 n6, .slice q5 o2 o3] w fun e f3 => ∃ f5, e = .returned (.bool f5) ∧ yaD [n4, o1] w f3 ∧
 brB f5 (
 Calls pP 39 #[(.agg (Z3 j0 j1 j2 j3 q3 n7 n8 q4 n9 o0)), (.agg (Z3 k4 k5 k6 k7 q6 o4 o5 q7 o6 o7))] f3 fun e f9 => ∃ f6, e = .returned (.bool f6) ∧ yaD [n4, o1] f3 f9 ∧
 R (.bool f6) f9)
 (
 R (.bool false) f3))) :
 yaJ ytO (yKO 396 [0, 0, 1, 0, 1, 1]) (yKP [1, 1, 0, 1, 0] [] R) (ymW q0 n0 n1 q1 n2 n3 n4 i0 i1 i2 i3 i4 i5 i6 i7 i8 i9 q2 n5 n6 j0 j1 j2 j3 q3 n7 n8 q4 n9 o0 o1 j4 j5 j6 j7 j8 j9 k0 k1 k2 k3 q5 o2 o3 k4 k5 k6 k7 q6 o4 o5 q7 o6 o7 k8) w0 :=
 lrule (ymW q0 n0 n1 q1 n2 n3 n4 i0 i1 i2 i3 i4 i5 i6 i7 i8 i9 q2 n5 n6 j0 j1 j2 j3 q3 n7 n8 q4 n9 o0 o1 j4 j5 j6 j7 j8 j9 k0 k1 k2 k3 q5 o2 o3 k4 k5 k6 k7 q6 o4 o5 q7 o6 o7) (U1 I) h0 (by rintro m e6 w h; exact ⟨by kernel_rfl, by kernel_rfl, fun js => Eq.mpr (by kernel_rfl) (hr m e6 w h)⟩)
theorem yKQ {b9 b8 : Nat} {c2 c1 : Nat} {c5 c4 : Nat} {a2 a1 : Nat} {a6 a4 : Nat} {b0 a8 : Nat} (h :
 ∀ b1, w.heap.size ≤ b1 →
 ∀ b2, w.heap.size ≤ b2 →
 ∀ w3, Adv [] [b2, b1] w w3 →
 Calls pP 37 #[(.agg (Z0 i0 i1 i2 i3 i4 i5 i6 i7 i8 i9 q0 b9 b8 j0 j1 j2 j3 q1 c2 c1 q2 c5 c4))] w3 fun e w4 => ∃ a5 n6 c7, e = .returned (.slice a5 n6 c7) ∧ yaD [b1, b2] w3 w4 ∧ (((.agg (Z0 j4 j5 j6 j7 j8 j9 k0 k1 k2 k3 q3 a2 a1 k4 k5 k6 k7 q4 a6 a4 q5 b0 a8)) : Value) = (.agg (Z0 j4 j5 j6 j7 j8 j9 k0 k1 k2 k3 q3 a2 a1 k4 k5 k6 k7 q4 a6 a4 q5 b0 a8))) ∧
 Calls pP 37 #[(.agg (Z0 j4 j5 j6 j7 j8 j9 k0 k1 k2 k3 q3 a2 a1 k4 k5 k6 k7 q4 a6 a4 q5 b0 a8))] w4 fun e w8 => ∃ a9 f2 f1, e = .returned (.slice a9 f2 f1) ∧ yaD [b1, b2] w4 w8 ∧
 yaJ ytO (yKO 396 [0, 0, 1, 0, 1, 1]) (yKP [1, 1, 0, 1, 0] [] R) (ymW a5 n6 c7 a9 f2 f1 b1 i0 i1 i2 i3 i4 i5 i6 i7 i8 i9 q0 b9 b8 j0 j1 j2 j3 q1 c2 c1 q2 c5 c4 b2 j4 j5 j6 j7 j8 j9 k0 k1 k2 k3 q3 a2 a1 k4 k5 k6 k7 q4 a6 a4 q5 b0 a8 0) w8) :
 CR pP 14 #[(.agg (Z0 i0 i1 i2 i3 i4 i5 i6 i7 i8 i9 q0 b9 b8 j0 j1 j2 j3 q1 c2 c1 q2 c5 c4)), (.agg (Z0 j4 j5 j6 j7 j8 j9 k0 k1 k2 k3 q3 a2 a1 k4 k5 k6 k7 q4 a6 a4 q5 b0 a8))] w R :=
 yaA Tryz.wide_mixed (an := yv2) Tryz.func14 rfl rfl (by kernel_rfl) rfl (Eq.mpr (by kernel_rfl) h)
def ytP : LA := ⟨[0, 0, 1, 0, 1, 1], [0, 1, 5], [], 0, []⟩
def yv3 : List LA := [ytP]
abbrev yKR := dnF pP yv3 (code Tryz.f38)
abbrev yNL := yaO pP yv3 (code Tryz.f38)
abbrev yKS (p : List Nat) (K : List Kh) (R : VWP) := yaO pP yv3 (code Tryz.f38) p K (ya7 pP Tryz.f38 [] R)
def ymX (a0 : OA) (a4 a2 : Nat) (a1 : OA) (a5 a3 : Nat) : Int → List Value × List TB := fun a6 => ([.slice a0 a4 a2, .slice a1 a5 a3, .int .i64 a6], [])
abbrev yFE (a0 : OA) (a4 a2 : Nat) (a1 : OA) (a5 a3 : Nat) (I : Nat → Int → World → Prop) (m : Nat) : Kh := KG (ymX a0 a4 a2 a1 a5 a3) (U1 I) m
theorem yBN {I : Nat → Int → World → Prop} (m' : Nat) (h1 : m' < m) (h2 : I m' i0 w) : KS (yFE q0 n0 n1 q1 n2 n3 I m) (ymX q0 n0 n1 q1 n2 n3 i0) w := ⟨m', h1, _, rfl, rfl, h2⟩
theorem yBO {a4 : OA} {a5 : OA} (I : Nat → Int → World → Prop) (m0 : Nat) (h0 : I m0 i0 w0)
 (hr : ∀ m a2 w, I m a2 w →
 brB (decide (a2 < (n0 : Int))) (
 ixA a4 n0 a2 16 fun q1 =>
 ∀ w2, Adv [] [] w w2 →
 yaF .i64 w2 q1 fun x3 =>
 ixA a5 n2 a2 16 fun q4 =>
 yaF .i64 w2 q4 fun x5 =>
 brB (x3 != x5) (
 R (.bool false) w2)
 (
 ixA a4 n0 a2 16 fun q6 =>
 yaF .i64 w2 (Addr.add q6 1) fun x7 =>
 ixA a5 n2 a2 16 fun q8 =>
 yaF .i64 w2 (Addr.add q8 1) fun x9 =>
 brB (x7 != x9) (
 R (.bool false) w2)
 (
 ixA a4 n0 a2 16 fun a0 =>
 yaF .i64 w2 (Addr.add a0 2) fun d2 => yaT w2 (Addr.add (Addr.add a0 2) 1) fun c4 => yaF .i64 w2 (Addr.add (Addr.add a0 2) 2) fun d3 => yaF .i64 w2 (Addr.add (Addr.add a0 2) 3) fun d4 => yaF .i64 w2 (Addr.add (Addr.add a0 2) 4) fun d5 => yaF .i64 w2 (Addr.add (Addr.add a0 2) 5) fun d6 => yaF .i64 w2 (Addr.add (Addr.add a0 2) 6) fun d7 => yaF .i64 w2 (Addr.add (Addr.add a0 2) 7) fun d8 => yaS w2 (Addr.add (Addr.add a0 2) 8) fun b2 c0 b6 => yaT w2 (Addr.add (Addr.add a0 2) 9) fun c5 => yaT w2 (Addr.add (Addr.add a0 2) 10) fun c6 => yaF .i64 w2 (Addr.add (Addr.add a0 2) 11) fun d9 => ya1 w2 (Addr.add (Addr.add a0 2) 12) fun d0 => yaS w2 (Addr.add (Addr.add a0 2) 13) fun b3 c1 b7 =>
 ixA a5 n2 a2 16 fun a1 =>
 yaF .i64 w2 (Addr.add a1 2) fun e0 => yaT w2 (Addr.add (Addr.add a1 2) 1) fun c7 => yaF .i64 w2 (Addr.add (Addr.add a1 2) 2) fun e1 => yaF .i64 w2 (Addr.add (Addr.add a1 2) 3) fun e2 => yaF .i64 w2 (Addr.add (Addr.add a1 2) 4) fun e3 => yaF .i64 w2 (Addr.add (Addr.add a1 2) 5) fun e4 => yaF .i64 w2 (Addr.add (Addr.add a1 2) 6) fun e5 => yaF .i64 w2 (Addr.add (Addr.add a1 2) 7) fun e6 => yaS w2 (Addr.add (Addr.add a1 2) 8) fun b4 c2 b8 => yaT w2 (Addr.add (Addr.add a1 2) 9) fun c8 => yaT w2 (Addr.add (Addr.add a1 2) 10) fun c9 => yaF .i64 w2 (Addr.add (Addr.add a1 2) 11) fun e7 => ya1 w2 (Addr.add (Addr.add a1 2) 12) fun d1 => yaS w2 (Addr.add (Addr.add a1 2) 13) fun b5 c3 b9 =>
 Calls pP 60 #[(.agg (Z1 d2 c4 d3 d4 d5 d6 d7 d8 b2 c0 b6 c5 c6 d9 d0 b3 c1 b7)), (.agg (Z1 e0 c7 e1 e2 e3 e4 e5 e6 b4 c2 b8 c8 c9 e7 d1 b5 c3 b9))] w2 fun e b1 => ∃ b0, e = .returned (.bool b0) ∧
 brB (!b0) (
 R (.bool false) b1)
 (
 KS (yFE a4 n0 n1 a5 n2 n3 I m) (ymX a4 n0 n1 a5 n2 n3 (IntKind.wrap .i64 (a2 + 1))) b1))))
 (
 R (.bool true) w)) :
 yaJ ytP (yKR 396 [0, 0, 1, 0, 1, 1]) (yKS [1, 1, 0, 1, 0] [] R) (ymX a4 n0 n1 a5 n2 n3 i0) w0 :=
 lrule (ymX a4 n0 n1 a5 n2 n3) (U1 I) h0 (by rintro m a2 w h; exact ⟨by kernel_rfl, by kernel_rfl, fun js => Eq.mpr (by kernel_rfl) (hr m a2 w h)⟩)
theorem yKT (h :
 brB ((n0 : Int) != (n2 : Int)) (
 R (.bool false) w)
 (
 yaJ ytP (yKR 396 [0, 0, 1, 0, 1, 1]) (yKS [1, 1, 0, 1, 0] [] R) (ymX q0 n0 n1 q1 n2 n3 0) w)) :
 CR pP 38 #[.slice q0 n0 n1, .slice q1 n2 n3] w R :=
 yaA Tryz.wide_mixed (an := yv3) Tryz.func38 rfl rfl (by kernel_rfl) rfl (Eq.mpr (by kernel_rfl) h)
end
structure CV where
 x : PCall
 rs : Sl
 ts : Sl
def CV.cs (q : CV) : List Value := [.int .i64 q.x.c, .int .i64 q.x.n, .int .i64 q.x.op.kind, .string q.x.op.part.t, .int .i64 q.x.op.part.n, .int .i64 q.x.op.n, .int .i64 q.x.op.off, .int .i64 q.x.op.b.prod, .int .i64 q.x.op.b.epoch, .int .i64 q.x.op.b.seq, .slice q.rs.a q.rs.n q.rs.c, .string q.x.op.g, .string q.x.op.m, .int .i64 q.x.op.gen, .bool q.x.op.robin, .slice q.ts.a q.ts.n q.ts.c]
def CV.v (q : CV) : Value := .agg #[.int .i64 q.x.c, .int .i64 q.x.n, .int .i64 q.x.op.kind, .string q.x.op.part.t, .int .i64 q.x.op.part.n, .int .i64 q.x.op.n, .int .i64 q.x.op.off, .int .i64 q.x.op.b.prod, .int .i64 q.x.op.b.epoch, .int .i64 q.x.op.b.seq, .slice q.rs.a q.rs.n q.rs.c, .string q.x.op.g, .string q.x.op.m, .int .i64 q.x.op.gen, .bool q.x.op.robin, .slice q.ts.a q.ts.n q.ts.c]
theorem CV.cs_len (q : CV) : q.cs.length = 16 := rfl
theorem CV.cs_one (q : CV) : ∀ u ∈ q.cs, u.oneCell' = true := by simp [CV.cs, Value.oneCell']
structure PMail where
 kind : Int
 fr : Int
 to : Int
 view : Int
 normal : Int
 last : Int
 commit : Int
 nonce : Int
 base : Int
 n : Int
 calls : List PCall
 r : PRep
 deriving DecidableEq
def PMail.v (m : PMail) (s f p : Sl) : Value := .agg #[.int .i64 m.kind, .int .i64 m.fr, .int .i64 m.to, .int .i64 m.view, .int .i64 m.normal, .int .i64 m.last, .int .i64 m.commit, .int .i64 m.nonce, .int .i64 m.base, .int .i64 m.n, .slice s.a s.n s.c, .int .i64 m.r.e, .int .i64 m.r.off, .int .i64 m.r.n, .int .i64 m.r.gen, .slice f.a f.n f.c, .slice p.a p.n p.c]
def PMail.cs (m : PMail) (s f p : Sl) : List Value := [.int .i64 m.kind, .int .i64 m.fr, .int .i64 m.to, .int .i64 m.view, .int .i64 m.normal, .int .i64 m.last, .int .i64 m.commit, .int .i64 m.nonce, .int .i64 m.base, .int .i64 m.n, .slice s.a s.n s.c, .int .i64 m.r.e, .int .i64 m.r.off, .int .i64 m.r.n, .int .i64 m.r.gen, .slice f.a f.n f.c, .slice p.a p.n p.c]
def ye4 : PRep := ⟨0, 0, 0, 0, [], []⟩
def ycW : PMail := ⟨0, 0, 0, 0, 0, 0, 0, 0, 0, 0, [], ye4⟩
def yf0 (w : World) (s : Sl) (xs : List PCall) : Prop := ∃ ll : List CV, ycD w 16 CV.cs s.a s.n ll ∧ (∀ q ∈ ll, OpAt w q.x.op q.rs q.ts) ∧ ll.map (·.x) = xs
def ybJ (w : World) (base : Nat) (s : Sl) (xs : List PCall) : Prop := ∃ ll : List CV, Row w base 50 16 CV.cs s.a s.n s.c ll ∧ (∀ q ∈ ll, OpOwn w base q.x.op q.rs q.ts) ∧ ll.map (·.x) = xs
theorem ybJ.at {w : World} {base : Nat} {s : Sl} {xs : List PCall} (h : ybJ w base s xs) : yf0 w s xs := by
 obtain ⟨ll, h1, h2, h3⟩ := h; exact ⟨ll, h1.sl CV.cs_len, fun q hq => (h2 q hq).at, h3⟩
theorem yf0.keep0 {w w' : World} {s : Sl} {xs : List PCall} (h : yf0 w s xs) (M : Mod [] w w') : yf0 w' s xs := by
 obtain ⟨ll, h1, h2, h3⟩ := h; exact ⟨ll, h1.keep0 M, fun q hq => (h2 q hq).keep0 M, h3⟩
theorem ybJ.keep0 {w w' : World} {base : Nat} {s : Sl} {xs : List PCall} (h : ybJ w base s xs) (M : Mod [] w w') : ybJ w' base s xs := by
 obtain ⟨ll, h1, h2, h3⟩ := h; exact ⟨ll, h1.keep0 M, fun q hq => (h2 q hq).keep0 M, h3⟩
theorem ybJ.rebase {w : World} {base base' : Nat} {s : Sl} {xs : List PCall} (h : ybJ w base s xs) (hb : base' ≤ base) : ybJ w base' s xs := by
 obtain ⟨ll, h1, h2, h3⟩ := h; exact ⟨ll, h1.rebase hb, fun q hq => (h2 q hq).rebase hb, h3⟩
structure MailAt (w : World) (m : PMail) (s f p : Sl) : Prop where
 calls : yf0 w s m.calls
 rep : RepAt w m.r f p
structure MailOwn (w : World) (base : Nat) (m : PMail) (s f p : Sl) : Prop where
 calls : ybJ w base s m.calls
 rep : RepOwn w base m.r f p
theorem MailOwn.at {w : World} {base : Nat} {m : PMail} {s f p : Sl} (h : MailOwn w base m s f p) : MailAt w m s f p := ⟨h.calls.at, h.rep.at⟩
theorem MailAt.keep0 {w w' : World} {m : PMail} {s f p : Sl} (h : MailAt w m s f p) (M : Mod [] w w') : MailAt w' m s f p := ⟨h.calls.keep0 M, h.rep.keep0 M⟩
theorem MailOwn.keep0 {w w' : World} {base : Nat} {m : PMail} {s f p : Sl} (h : MailOwn w base m s f p) (M : Mod [] w w') : MailOwn w' base m s f p := ⟨h.calls.keep0 M, h.rep.keep0 M⟩
theorem MailOwn.rebase {w : World} {base base' : Nat} {m : PMail} {s f p : Sl} (h : MailOwn w base m s f p) (hb : base' ≤ base) : MailOwn w base' m s f p := ⟨h.calls.rebase hb, h.rep.rebase hb⟩
theorem OpOwn.keep {S : List Nat} {w w' : World} {base : Nat} {o : POp} {rs ts : Sl} (h : OpOwn w base o rs ts) (M : Mod S w w') (hS : ∀ k ∈ S, ∀ cs T, w.heap[k]? = some (.cells cs T) → T ≠ 99 ∧ T ≠ 9) : OpOwn w' base o rs ts :=
  ⟨h.recs.keep M fun ad ha hk => by obtain ⟨_, cur, hc⟩ := h.recs.block ad ha; exact (hS _ hk _ _ hc).1 rfl,
   h.topics.keep M fun ad ha hk => by obtain ⟨_, cur, hc⟩ := h.topics.block ad ha; exact (hS _ hk _ _ hc).2 rfl, h.lr, h.lt⟩
theorem OpOwn.keepB {S : List Nat} {w w' : World} {base : Nat} {o : POp} {rs ts : Sl} (h : OpOwn w base o rs ts) (M : Mod S w w') (hS : ∀ k ∈ S, k < base) : OpOwn w' base o rs ts :=
 ⟨h.recs.keep M fun ad ha hk => by have := h.recs.base ad ha; have := hS _ hk; omega, h.topics.keep M fun ad ha hk => by have := h.topics.base ad ha; have := hS _ hk; omega, h.lr, h.lt⟩
theorem RepOwn.keepB {S : List Nat} {w w' : World} {base : Nat} {r : PRep} {f p : Sl} (h : RepOwn w base r f p) (M : Mod S w w') (hS : ∀ k ∈ S, k < base) : RepOwn w' base r f p :=
 ⟨h.found.keep M fun ad ha hk => by have := h.found.base ad ha; have := hS _ hk; omega, h.parts.keep M fun ad ha hk => by have := h.parts.base ad ha; have := hS _ hk; omega, h.lf, h.lp⟩
theorem ybJ.keepB {S : List Nat} {w w' : World} {base : Nat} {s : Sl} {xs : List PCall} (h : ybJ w base s xs) (M : Mod S w w') (hS : ∀ k ∈ S, k < base) : ybJ w' base s xs := by
 obtain ⟨ll, h1, h2, h3⟩ := h
 exact ⟨ll, h1.keep M fun ad ha hk => by have := h1.base ad ha; have := hS _ hk; omega, fun q hq => (h2 q hq).keepB M hS, h3⟩
theorem MailOwn.keepB {S : List Nat} {w w' : World} {base : Nat} {m : PMail} {s f p : Sl} (h : MailOwn w base m s f p) (M : Mod S w w') (hS : ∀ k ∈ S, k < base) : MailOwn w' base m s f p := ⟨h.calls.keepB M hS, h.rep.keepB M hS⟩
theorem yKU : (Tryz.prog.info? 99).map (fun i => (i.zero, i.size, i.bytes)) = some (some (.agg #[.bool false, .string ByteArray.empty, .bool false, .string ByteArray.empty]), 4, 48) := by kernel_rfl
theorem yKV : (Tryz.prog.info? 9).map (fun i => (i.zero, i.size, i.bytes)) = some (some (.string ByteArray.empty), 1, 16) := by kernel_rfl
theorem yv4 : (Tryz.prog.info? 50).map (fun i => (i.zero, i.size, i.bytes)) = some (some (.agg #[.int .i64 0, .int .i64 0, .int .i64 0, .string ByteArray.empty, .int .i64 0, .int .i64 0, .int .i64 0, .int .i64 0, .int .i64 0, .int .i64 0, .slice none 0 0, .string ByteArray.empty, .string ByteArray.empty, .int .i64 0, .bool false, .slice none 0 0]), 16, 184) := by kernel_rfl
theorem ya0 {α : Type} {w : World} {base T sz : Nat} {enc : α → List Value} {a : Option Addr} {n c : Nat} {l : List α} (h : Row w base T sz enc a n c l) : ∀ k ∈ ydY a, base ≤ k ∧ k < w.heap.size ∧ ∃ cur, w.heap[k]? = some (.cells cur T) := by
 cases a with
 | none => simp [ydY]
 | some ad => intro k hk; simp [ydY] at hk; subst hk; obtain ⟨h1, cur, h2⟩ := h.block ad rfl; exact ⟨h1, yaK h2, cur, h2⟩
theorem Wr.keep {B b v : Nat} {w w' : World} {cs : Array Value} {T : TypeId} (W : Wr B b w w') (h : w.heap[v]? = some (.cells cs T)) (hv : v ≠ b) (hT : T ≠ 5) : w'.heap[v]? = some (.cells cs T) :=
 W.oth v _ h (by simpa using hv) fun c fz e => hT (by cases e; rfl)
theorem Wr.keepE {B b : Nat} {w w' : World} {es : List Nat} {ts : List (Nat × TypeId)} {bs : List Nat} (W : Wr B b w w') (h : ∀ k ∈ bs, k ∉ es → k ≠ b ∧ (k < B ∨ ∃ T, (k, T) ∈ ts ∧ T ≠ 5)) : ya4 es ts bs w w' := fun k hk hl he hty => by
 obtain ⟨hne, h1 | ⟨T, hT, h2⟩⟩ := h k hk he
 ·exact W.bel.block k h1
 ·obtain ⟨cs, hc⟩ := hty _ hT rfl
  rw [hc]; exact W.keep hc hne h2
theorem Wr.mod {B b : Nat} {w0 w w' : World} (W : Wr B b w w') (M : Mod [] w0 w) (hB : w0.heap.size ≤ B) : Mod [] w0 w' :=
 ⟨W.bel.os.trans M.os, W.bel.tape.trans M.tape, W.bel.output.trans M.output, Nat.le_trans M.size W.bel.size, fun k hk _ => (W.bel.block k (by omega)).trans (M.block k hk (by simp))⟩
def yc4 (x : PPart) : List UInt8 := yb3 x.t ++ yaL x.n.toNat
theorem yG1 {B b v : Nat} {l : List UInt8} {w : World} {x : PPart} (h : Bd B b l w) (hlen : l.length ≤ 1000000000) (hB : B ≤ w.heap.size) (hv : w.heap[v]? = some (.cells #[.string x.t, .int .i64 x.n] 42)) (hvb : v ≠ b) (hs : x.t.size ≤ 1000) (hn : num x.n = true) :
  Calls pP 82 #[.iface 139 (.pointer (some ⟨b, 0, none⟩)), .pointer (some ⟨v, 0, none⟩)] w fun e w' => e = .returned (.tuple #[]) ∧ (Bd B b (l ++ yc4 x) w' ∧ Wr B b w w') := by
 have hn : 0 ≤ x.n ∧ x.n ≤ 1099511627776 := by simpa [num] using hn
 obtain ⟨n, hn'⟩ := Int.eq_ofNat_of_zero_le hn.1
 refine yaQ (yJf ?_)
 intro w1 A1
 have h1 := h.keep0 A1.mod
 have v1 := A1.mod.keep0 hv
 have s1 := A1.mod.size
 refine (yoA h1 (by omega) (by omega) (a := ⟨v, 0, none⟩) (s := x.t) (by rw [yaY v1]; rfl) (by omega)).mono ?_
 rintro e w2 ⟨rfl, h2, W2⟩
 refine ⟨rfl, ?_⟩
 intro w3 A3
 have h3 := h2.keep0 A3.mod
 have v2 := W2.keep v1 hvb (by decide)
 have v3 := A3.mod.keep0 v2
 have s2 := W2.bel.size
 have s3 := A3.mod.size
 have lt := yaV x.t (by omega)
 refine (yg5 h3 (by simp; omega) (by omega) (a := (⟨v, 0, none⟩ : Addr).add 1) (x := n) (by rw [ya6, yaY v3, hn']; rfl) (by omega)).mono ?_
 rintro e w4 ⟨rfl, h4, W4⟩
 refine ⟨rfl, rfl, ?_, ((Wr.of0 A1.mod hB).trans W2).trans ((Wr.of0 A3.mod (by omega)).trans W4)⟩
 rw [yc4, hn', Int.toNat_natCast, ← List.append_assoc]
 exact h4
def hdL (r : PRep) : List Nat := [r.e.toNat, r.off.toNat, r.n.toNat, r.gen.toNat, r.found.length]
def yf1 (x : PFound) : List UInt8 := yaL x.off.toNat ++ ygW x.r
def yjO (r : PRep) (k : Nat) : List UInt8 := ((hdL r).take k).flatMap yaL
def ydQ (r : PRep) (k : Nat) : List UInt8 := (hdL r).flatMap yaL ++ (r.found.take k).flatMap yf1
def yfR (r : PRep) (k : Nat) : List UInt8 := (hdL r).flatMap yaL ++ r.found.flatMap yf1 ++ yaL r.parts.length ++ (r.parts.take k).flatMap yc4
def yeC (r : PRep) : List UInt8 := yfR r r.parts.length
theorem ybD {α β : Type} {f : α → List β} {l : List α} {k : Nat} {x : α} (hx : l[k]? = some x) : (l.take (k + 1)).flatMap f = (l.take k).flatMap f ++ f x := by
 rw [List.take_add_one, hx]; simp
theorem ydD {α β : Type} {f : α → List β} {c : Nat} : ∀ {l : List α}, (∀ x ∈ l, (f x).length ≤ c) → (l.flatMap f).length ≤ l.length * c
 | [], _ => by simp
 | x :: r, h => by
  have h1 := h x (by simp)
  have h2 := ydD (l := r) fun y hy => h y (by simp [hy])
  rw [List.flatMap_cons, List.length_append, List.length_cons, Nat.succ_mul]; omega
structure RepGood (r : PRep) : Prop where
 hd : ∀ x ∈ hdL r, x ≤ 1099511627776
 nn : 0 ≤ r.e ∧ 0 ≤ r.off ∧ 0 ≤ r.n ∧ 0 ≤ r.gen
 f : ∀ x ∈ r.found, num x.off = true ∧ ygF x.r = 0
 p : ∀ x ∈ r.parts, num x.n = true ∧ ybR x.t = true
 lf : r.found.length ≤ 64
 lp : r.parts.length ≤ 64
theorem RepGood.of {r : PRep} (h : ygP r = 0) : RepGood r := by
 unfold ygP at h
 split at h
 ·omega
 rename_i h1
 split at h
 ·omega
 split at h
 ·omega
 split at h
 ·omega
 rename_i h2 h3 h4
 have h1 := Bool.not_eq_false _ ▸ h1
 simp only [Bool.and_eq_true, List.all_eq_true, ok0] at h1
 simp [yAN, yGN] at h4
 obtain ⟨⟨⟨⟨⟨a1, a2⟩, a3⟩, a4⟩, hf⟩, hp⟩ := h1
 have nb : ∀ {x : Int}, num x = true → 0 ≤ x ∧ x ≤ 1099511627776 := fun h => by simpa [num] using h
 have a1 := nb a1
 have a2 := nb a2
 have a3 := nb a3
 have a4 := nb a4
 refine ⟨?_, by omega, fun x hx => ⟨hf x hx, h4.1 x hx⟩, fun x hx => ⟨hp x hx, h4.2 x hx⟩, by omega, by omega⟩
 intro x hx
 simp [hdL] at hx
 omega
theorem RepGood.len1 {r : PRep} (h : RepGood r) (k : Nat) : (yjO r k).length ≤ 50 := by
 have := ydD (f := yaL) (c := 10) (l := (hdL r).take k) fun x hx => (yaM x (by have := h.hd x (List.mem_of_mem_take hx); omega)).2
 have e : ((hdL r).take k).length ≤ 5 := by rw [List.length_take]; simp [hdL]; omega
 unfold yjO; omega
theorem RepGood.lenF {r : PRep} (h : RepGood r) {x : PFound} (hx : x ∈ r.found) : (yf1 x).length ≤ 610 := by
 obtain ⟨h1, h2⟩ := h.f x hx
 have h3 := yhY h2
 have h4 : 0 ≤ x.off ∧ x.off ≤ 1099511627776 := by simpa [num] using h1
 have h5 := (yaM x.off.toNat (by omega)).2
 unfold yf1; rw [List.length_append]; omega
theorem RepGood.len2 {r : PRep} (h : RepGood r) (k : Nat) : (ydQ r k).length ≤ 50000 := by
 have h1 := h.len1 5
 have e : yjO r 5 = (hdL r).flatMap yaL := by rw [yjO, List.take_of_length_le (by simp [hdL])]
 rw [e] at h1
 have h2 := ydD (f := yf1) (c := 610) (l := r.found.take k) fun x hx => h.lenF (List.mem_of_mem_take hx)
 have e : (r.found.take k).length ≤ 64 := by have := h.lf; rw [List.length_take]; omega
 unfold ydQ; rw [List.length_append]; omega
theorem RepGood.lenP {r : PRep} (h : RepGood r) {x : PPart} (hx : x ∈ r.parts) : (yc4 x).length ≤ 40 ∧ x.t.size ≤ 16 := by
 obtain ⟨h1, h2⟩ := h.p x hx
 have h4 : 0 ≤ x.n ∧ x.n ≤ 1099511627776 := by simpa [num] using h1
 have h5 := (yaM x.n.toNat (by omega)).2
 have h6 : x.t.size ≤ 16 := by simp [ybR] at h2; omega
 have h7 := yaV x.t (by omega)
 unfold yc4; rw [List.length_append]; omega
theorem RepGood.len3 {r : PRep} (h : RepGood r) (k : Nat) : (yfR r k).length ≤ 60000 := by
 have h1 := h.len2 r.found.length
 have e : ydQ r r.found.length = (hdL r).flatMap yaL ++ r.found.flatMap yf1 := by rw [ydQ, List.take_length]
 rw [e] at h1
 have h2 := ydD (f := yc4) (c := 40) (l := r.parts.take k) fun x hx => (h.lenP (List.mem_of_mem_take hx)).1
 have e : (r.parts.take k).length ≤ 64 := by have := h.lp; rw [List.length_take]; omega
 have h5 := (yaM r.parts.length (by have := h.lp; omega)).2
 unfold yfR; rw [List.length_append, List.length_append]; omega
theorem yG2 {r : PRep} (h : RepGood r) {k : Nat} (hk : k < 5) : ∃ x : Nat, (hdL r)[k]? = some x ∧ x ≤ 1099511627776 := by
 have hk' : k < (hdL r).length := by simp [hdL]; omega
 exact ⟨(hdL r)[k], List.getElem?_eq_getElem hk', h.hd _ (List.getElem_mem hk')⟩
def yIE (x : Nat) : List Value := [.int .i64 (x : Nat)]
theorem yrI {w : World} {r : PRep} {f p : Sl} (h : RepAtW w r f p) :
  Calls pP 54 #[r.v f p] w fun e w' => e = .returned (.tuple #[.string (if ygP r = 0 then bs (yeC r) else bs []), .int .i64 (ygP r)]) ∧ Mod [] w w' := by
 refine yaQ (yJg ?_)
 intro b1 f1 w1 A1
 have l1 := A1.lt b1 (by simp)
 refine (yAO ysV (h.keep0 A1.mod)).mono ?_
 rintro e w2 ⟨rfl, M2⟩
 refine ⟨_, rfl, yaD.of0 M2, ?_⟩
 have N2 := A1.mod.go0 M2 (by simp)
 have s2 := N2.size
 have s2' := M2.size
 refine yaC (fun g1 => ?_) fun g1 => ?_
 ·have g : ¬ ygP r = 0 := by simpa using g1
  rw [if_neg g]; exact ⟨rfl, N2⟩
 have g : ygP r = 0 := by simpa using g1
 have G := RepGood.of g
 intro b3 f3 w3 A3
 have l3 := A3.lt b3 (by simp)
 refine ycR fun b4 w4 c4 M4 f4 => ?_
 intro w5 A5 hb5
 have s3 := A3.mod.size
 have s4 := M4.size
 have s5 := A5.mod.size
 have M5 := (A3.mod.go0 M4 (by simp)).go0 A5.mod (by simp)
 have c5 := A5.mod.keep0 c4
 have hbd : Bd w2.heap.size b3 [] w5 := .inl ⟨f3, .slice none 0 0, hb5, ⟨by simp [Lib.byteCells], .inl ⟨rfl, by simp [Lib.byteCells]⟩⟩, by simp [Value.ownBlock]⟩
 have hne : b4 ≠ b3 := by omega
 have Wr0 : Wr w2.heap.size b3 w2 w5 := Wr.of0 M5 (Nat.le_refl _)
 have hk1 : ∀ {es : List Nat} {ts : List (Nat × TypeId)} {x y : World}, Wr w2.heap.size b3 x y → ya4 es ts [b1] x y := fun W b hb _ _ _ => by
  simp at hb; subst hb; exact W.bel.block _ (by omega)
 have hcell : ∀ {w' : World}, Wr w2.heap.size b3 w5 w' → ycD w' 1 yIE (some ⟨b4, 0, none⟩) 5 (hdL r) := fun {w'} W => by
  have c6 := W.keep c5 hne (by decide)
  refine ⟨rfl, fun i x hx => ⟨_, rfl, fun j v hv => ?_⟩⟩
  have hj : j = 0 := by have := (List.getElem?_eq_some_iff.1 hv).1; simp [yIE] at this; omega
  subst hj
  rw [ya6, ya6, yaY c6]
  simp [yIE] at hv
  subst hv
  have hnn := G.nn
  have hi := (List.getElem?_eq_some_iff.1 hx).1
  simp [hdL] at hi
  have : r.e = (r.e.toNat : Int) ∧ r.off = (r.off.toNat : Int) ∧ r.n = (r.n.toNat : Int) ∧ r.gen = (r.gen.toNat : Int) := by omega
  have e4 := h.found.1
  match i, hi, hx with
  | 0, _, hx => simp [hdL] at hx; subst hx; simp; omega
  | 1, _, hx => simp [hdL] at hx; subst hx; simp; omega
  | 2, _, hx => simp [hdL] at hx; subst hx; simp; omega
  | 3, _, hx => simp [hdL] at hx; subst hx; simp; omega
  | 4, _, hx => simp [hdL] at hx; subst hx; simp; omega
 refine yAQ (fun mm x p0 a0 n0 c0 w' => ∃ k : Nat, x = k ∧ k ≤ 5 ∧ Bd w2.heap.size b3 (yjO r k) w' ∧ Wr w2.heap.size b3 w5 w' ∧ mm = 5 - k) 5 ⟨0, rfl, by omega, by simpa [yjO] using hbd, Wr.of0 (Mod.refl _) (by omega), rfl⟩ ?_
 rintro mm x p0 a0 n0 c0 w6 ⟨k, rfl, hk, hB6, W6, rfl⟩ hc6
 have s6 := W6.bel.size
 have lb := hB6.lt
 refine yaE (fun hlt => ?_) fun hge => ?_
 ·obtain ⟨x, hx, hx2⟩ := yG2 G (k := k) (by omega)
  refine (hcell W6).ix hx fun q hq => yaB (by simpa [add_zero] using hq 0 _ rfl) ?_
  intro b7 f7 w7 A7 hb7 hv7
  have s7 := A7.mod.size
  refine (yg5 (hB6.keep0 A7.mod) (by have := G.len1 k; omega) (by omega) (a := ⟨b7, 0, none⟩) (x := x) (by rw [yaY hv7]; rfl) (by omega)).mono ?_
  rintro e w8 ⟨rfl, hB8, W8⟩
  obtain ⟨p8, a8, n8, c8, hc8⟩ := hB8.cells
  refine ⟨rfl, hk1 W8, p8, a8, n8, c8, hc8, _, W8.keep hv7 (by omega) (by decide), ?_⟩
  refine yAP (5 - (k + 1)) (by omega) ⟨k + 1, by rw [yaH (by omega) (by omega)]; omega, by omega, ?_, (W6.trans (Wr.of0 A7.mod (by omega))).trans W8, rfl⟩
  rw [yjO, ybD hx]
  exact hB8
 have hk5 : k = 5 := by omega
 subst hk5
 have e1 : yjO r 5 = ydQ r 0 := by rw [yjO, ydQ, List.take_of_length_le (by simp [hdL])]; simp
 rw [e1] at hB6
 have e4 := h.found.1
 have e5 := h.parts.1
 have lf := G.lf
 have lp := G.lp
 have mod0 : ∀ {w'}, Wr w2.heap.size b3 w5 w' → Mod [] w w' := fun W => (Wr0.trans W).mod N2 s2
 refine yAS (fun mm x p0 a0 n0 c0 w' => ∃ k : Nat, x = k ∧ k ≤ r.found.length ∧ Bd w2.heap.size b3 (ydQ r k) w' ∧ Wr w2.heap.size b3 w5 w' ∧ mm = r.found.length - k) r.found.length ⟨0, rfl, by omega, hB6, W6, rfl⟩ ?_
 clear hB6 W6 hc6 lb s6
 rintro mm x p0 a0 n0 c0 w6 ⟨k, rfl, hk, hB6, W6, rfl⟩ hc6
 have s6 := W6.bel.size
 have lb := hB6.lt
 refine yaE (fun hlt => ?_) fun hge => ?_
 ·have g1 : k < r.found.length := by omega
  obtain ⟨x, hx⟩ : ∃ x, r.found[k]? = some x := ⟨_, List.getElem?_eq_getElem g1⟩
  obtain ⟨hx1, hx2⟩ := G.f x (List.mem_of_getElem? hx)
  have hx1 : 0 ≤ x.off ∧ x.off ≤ 1099511627776 := by simpa [num] using hx1
  obtain ⟨n, hn'⟩ := Int.eq_ofNat_of_zero_le hx1.1
  refine (h.keep0 (mod0 W6)).found.ix hx fun q hq => yaB (by simpa [add_zero] using hq 0 _ rfl) (yaP (hq 1 _ rfl) (yaI (hq 2 _ rfl) (yaP (hq 3 _ rfl) (yaI (hq 4 _ rfl) ?_))))
  intro b7 f7 w7 A7 hb7 hv7
  have s7 := A7.mod.size
  have lr := yhY hx2
  have lk := G.len2 k
  have lv := yaM n (by omega)
  refine (yg5 (hB6.keep0 A7.mod) (by omega) (by omega) (a := ⟨b7, 0, none⟩) (x := n) (by rw [yaY hv7, hn']; rfl) (by omega)).mono ?_
  rintro e w8 ⟨rfl, hB8, W8⟩
  have s8 := W8.bel.size
  obtain ⟨p8, a8, n8, c8, hc8⟩ := hB8.cells
  have hv8 := W8.keep hv7 (by omega) (by decide)
  refine ⟨rfl, hk1 W8, p8, a8, n8, c8, hc8, _, _, _, _, _, hv8, ?_⟩
  refine (yAW x.r w8).mono ?_
  rintro e w9 ⟨rfl, M9⟩
  have hB9 := hB8.keep0 M9
  have s9 := M9.size
  refine ⟨_, _, rfl, yaD.of0 M9, p8, a8, n8, c8, M9.keep0 hc8, _, _, _, _, _, M9.keep0 hv8, ?_⟩
  rw [if_pos hx2]
  refine (yDX hB9 (by rw [List.length_append]; omega) (by omega)).mono ?_
  rintro e w10 ⟨rfl, hB10, W10⟩
  obtain ⟨p10, a10, n10, c10, hc10⟩ := hB10.cells
  refine ⟨_, _, rfl, hk1 W10, p10, a10, n10, c10, hc10, _, _, _, _, _, W10.keep (M9.keep0 hv8) (by omega) (by decide), ?_⟩
  refine yAR (r.found.length - (k + 1)) (by omega) ⟨k + 1, by rw [yaH (by omega) (by omega)]; omega, by omega, ?_, (W6.trans (Wr.of0 A7.mod (by omega))).trans ((W8.trans (Wr.of0 M9 (by omega))).trans W10), rfl⟩
  have e : ydQ r (k + 1) = ydQ r k ++ yaL n ++ ygW x.r := by
   rw [ydQ, ybD hx, yf1, hn', Int.toNat_natCast, ydQ]; simp
  rw [e]
  exact hB10
 have hkf : k = r.found.length := by omega
 subst hkf
 intro b7 f7 w7 A7 hb7 hv7
 have s7 := A7.mod.size
 have lk := G.len2 r.found.length
 refine (yg5 (hB6.keep0 A7.mod) (by omega) (by omega) (a := ⟨b7, 0, none⟩) (x := r.parts.length) (by rw [yaY hv7, e5]; rfl) (by omega)).mono ?_
 rintro e w8 ⟨rfl, hB8, W8⟩
 have s8 := W8.bel.size
 obtain ⟨p8, a8, n8, c8, hc8⟩ := hB8.cells
 have hv8 := W8.keep hv7 (by omega) (by decide)
 refine ⟨rfl, hk1 W8, p8, a8, n8, c8, hc8, _, hv8, ?_⟩
 have W8' : Wr w2.heap.size b3 w5 w8 := (W6.trans (Wr.of0 A7.mod (by omega))).trans W8
 have e3 : ydQ r r.found.length ++ yaL r.parts.length = yfR r 0 := by rw [ydQ, yfR, List.take_length]; simp
 rw [e3] at hB8
 have lb8 := yaK hv8
 refine yAU (fun mm x p0 a0 n0 c0 y w' => ∃ k : Nat, x = k ∧ k ≤ r.parts.length ∧ Bd w2.heap.size b3 (yfR r k) w' ∧ Wr w2.heap.size b3 w5 w' ∧ w8.heap.size ≤ w'.heap.size ∧ mm = r.parts.length - k) r.parts.length ⟨0, rfl, by omega, hB8, W8', Nat.le_refl _, rfl⟩ ?_
 rintro mm x p0 a0 n0 c0 y w9 ⟨k, rfl, hk, hB9, W9, hs9, rfl⟩ hc9 hv9
 have s9 := W9.bel.size
 refine yaE (fun hlt => ?_) fun hge => ?_
 ·have g1 : k < r.parts.length := by omega
  obtain ⟨x, hx⟩ : ∃ x, r.parts[k]? = some x := ⟨_, List.getElem?_eq_getElem g1⟩
  have hxm := List.mem_of_getElem? hx
  refine (h.keep0 (mod0 W9)).parts.ix hx fun q hq => yaI (by simpa [add_zero] using hq 0 _ rfl) (yaB (hq 1 _ rfl) ?_)
  intro b10 f10 w10 A10 hb10 hv10' hv10
  have s10 := A10.mod.size
  have lk := G.len3 k
  refine (yG1 (hB9.keep0 A10.mod) (by omega) (by omega) hv10 (by omega) (by have := (G.lenP hxm).2; omega) (G.p x hxm).1).mono ?_
  rintro e w11 ⟨rfl, hB11, W11⟩
  have s11 := W11.bel.size
  obtain ⟨p11, a11, n11, c11, hc11⟩ := hB11.cells
  refine ⟨rfl, hk1 W11, p11, a11, n11, c11, hc11, _, W11.keep hv10' (by omega) (by decide), _, _, W11.keep hv10 (by omega) (by decide), ?_⟩
  refine yAT (r.parts.length - (k + 1)) (by omega) ⟨k + 1, by rw [yaH (by omega) (by omega)]; omega, by omega, ?_, (W9.trans (Wr.of0 A10.mod (by omega))).trans W11, by omega, rfl⟩
  have e : yfR r (k + 1) = yfR r k ++ yc4 x := by
   rw [yfR, ybD hx, yfR]; simp
  rw [e]
  exact hB11
 ·have hkp : k = r.parts.length := by omega
  subst hkp
  refine (ykL BTw w2.heap.size b3 (yeC r) w9 hB9 ?_).mono ?_
  ·intro e0
   have h1 : (yeC r).length = 0 := by rw [e0]; rfl
   have h2 := (yaM r.parts.length (by omega)).1
   rw [yeC, yfR, List.length_append, List.length_append] at h1
   omega
  ·rintro e w10 ⟨rfl, hB10, h10, o10⟩
   have W10 : Wr w2.heap.size b3 w9 w10 := ⟨h10, o10⟩
   obtain ⟨p10, a10, n10, c10, hc10⟩ := Bd.cells hB10
   refine ⟨_, rfl, hk1 W10, p10, a10, n10, c10, hc10, _, W10.keep hv9 (by omega) (by decide), ?_, mod0 (W9.trans W10)⟩
   rw [if_pos g, g]; rfl
theorem yv5 {w : World} {r : PRep} {f p : Sl} (h : RepAt w r f p) :
 Calls pP 54 #[r.v f p] w fun e w' => e = .returned (.tuple #[.string (if ygP r = 0 then bs (yeC r) else bs []), .int .i64 (ygP r)]) ∧ Mod [] w w' := yrI h.wide
theorem BTs : BT 106 := ⟨by kernel_rfl, by decide⟩
abbrev Sb (B b : Nat) (l : List UInt8) (w : World) : Prop := Lib.IsBuilderF 106 5 B b (Lib.byteCells l) w
theorem Sb.cells {B b : Nat} {l : List UInt8} {w : World} (h : Sb B b l w) : ∃ (p a : Option Addr) (n c : Nat), w.heap[b]? = some (.cells #[.pointer p, .slice a n c] 106) := by
 have one : ∀ {p bs}, Lib.BuilderAtF 106 5 B b (.pointer p) bs w → ∃ (p a : Option Addr) (n c : Nat), w.heap[b]? = some (.cells #[.pointer p, .slice a n c] 106) := by
  rintro p bs ⟨hB, v, hb, ⟨hl, ho⟩, hne⟩
  rcases ho with ⟨rfl, _⟩ | ⟨g, cap, cur, fz, rfl, hg, hh, r⟩
  ·exact ⟨_, _, _, _, hb⟩
  ·exact ⟨_, _, _, _, hb⟩
 exact h.elim one one
theorem Sb.keep0 {B b : Nat} {l : List UInt8} {w w' : World} (h : Sb B b l w) (M : Mod [] w w') : Sb B b l w' := by
 have one : ∀ {p bs}, Lib.BuilderAtF 106 5 B b p bs w → Lib.BuilderAtF 106 5 B b p bs w' := by
  rintro p bs ⟨hB, v, hb, ⟨hl, ho⟩, hne⟩
  refine ⟨hB, v, M.keep0 hb, ⟨hl, ?_⟩, hne⟩
  rcases ho with ho | ⟨g, cap, cur, fz, hv, hg, hh, r⟩
  ·exact .inl ho
  ·exact .inr ⟨g, cap, cur, fz, hv, hg, M.keep0 hh, r⟩
 exact h.elim (fun x => .inl (one x)) (fun x => .inr (one x))
theorem Sb.fresh {B b : Nat} {w : World} (hB : B ≤ b) (h : w.heap[b]? = some (.cells #[.pointer none, .slice none 0 0] 106)) : Sb B b [] w :=
 .inl ⟨hB, .slice none 0 0, h, ⟨by simp [Lib.byteCells], .inl ⟨rfl, by simp [Lib.byteCells]⟩⟩, by simp [Value.ownBlock]⟩
theorem yBP {B b : Nat} {l l2 : List UInt8} {w : World} (h : Sb B b l w) (hlen : l.length + l2.length ≤ 100000000000) (hB : B ≤ w.heap.size) :
  Calls pP 51 #[.pointer (some ⟨b, 0, none⟩), .string (bs l2)] w fun e w' => e = .returned (.tuple #[.int .i64 ((bs l2).size : Nat), .nilIface]) ∧ (Sb B b (l ++ l2) w' ∧ Wr B b w w') := by
 refine (ygU BTs B b (Lib.byteCells l) (bs l2) w h (by rw [Lib.byteCells_length, yaG]; omega) hB).mono ?_
 rintro e w' ⟨rfl, h1, h2, h3⟩
 refine ⟨rfl, .inr ?_, ⟨h2, h3⟩⟩
 have e : Lib.byteCells (l ++ l2) = Lib.byteCells l ++ Lib.strCells (bs l2) := by simp [Lib.byteCells, Lib.strCells, bs]
 rw [e]; exact h1
theorem yG3 {B b : Nat} {l : List UInt8} {w : World} (h : Sb B b l w) (h0 : l ≠ []) :
  Calls pP 55 #[.pointer (some ⟨b, 0, none⟩)] w fun e w' => e = .returned (.string (bs l)) ∧ (Sb B b l w' ∧ Wr B b w w') := by
 refine (ykL BTs B b l w h h0).mono ?_
 rintro e w' ⟨rfl, h1, h2, h3⟩
 exact ⟨rfl, h1, h2, h3⟩
def yaW (m : PMail) : List Int := [m.kind, m.fr, m.to, m.view, m.normal, m.last, m.commit, m.nonce, m.base, m.n]
theorem yBQ (b : Nat) (w : World) : Calls pP 50 #[.pointer (some ⟨b, 0, none⟩)] w fun e w' => e = .returned (.agg #[.pointer (some ⟨b, 0, none⟩), .pointer (some ⟨b, 1, none⟩), .pointer (some ⟨b, 2, none⟩), .pointer (some ⟨b, 3, none⟩), .pointer (some ⟨b, 4, none⟩), .pointer (some ⟨b, 5, none⟩), .pointer (some ⟨b, 6, none⟩), .pointer (some ⟨b, 7, none⟩), .pointer (some ⟨b, 8, none⟩), .pointer (some ⟨b, 9, none⟩)]) ∧ Mod [] w w' := by
 refine yaQ (yKy ?_)
 intro b1 f1 w2 A2
 exact ⟨rfl, A2.mod⟩
theorem yiG {w : World} {b : Nat} {m : PMail} {s f p : Sl} (h : w.heap[b]? = some (.cells (m.cs s f p).toArray 37)) {k : Nat} {x : Int} (hx : (yaW m)[k]? = some x) : w.cell? ⟨b, k, none⟩ = some (.int .i64 x) := by
 rw [yaY h]
 have hk := (List.getElem?_eq_some_iff.1 hx).1
 simp [yaW] at hk
 match k, hk, hx with
 | 0, _, hx | 1, _, hx | 2, _, hx | 3, _, hx | 4, _, hx | 5, _, hx | 6, _, hx | 7, _, hx | 8, _, hx | 9, _, hx => simp [yaW] at hx; subst hx; rfl
theorem yG4 (b : Nat) (w' : World) : (Instr.index 108 (.agg #[.pointer (some ⟨b, 0, none⟩), .pointer (some ⟨b, 1, none⟩), .pointer (some ⟨b, 2, none⟩), .pointer (some ⟨b, 3, none⟩), .pointer (some ⟨b, 4, none⟩), .pointer (some ⟨b, 5, none⟩), .pointer (some ⟨b, 6, none⟩), .pointer (some ⟨b, 7, none⟩), .pointer (some ⟨b, 8, none⟩), .pointer (some ⟨b, 9, none⟩)]) (.int .i64 0)).run pP w' = .ok (.pointer (some ⟨b, 0, none⟩)) w' := by kernel_rfl
theorem yG5 (b : Nat) (w' : World) : (Instr.index 108 (.agg #[.pointer (some ⟨b, 0, none⟩), .pointer (some ⟨b, 1, none⟩), .pointer (some ⟨b, 2, none⟩), .pointer (some ⟨b, 3, none⟩), .pointer (some ⟨b, 4, none⟩), .pointer (some ⟨b, 5, none⟩), .pointer (some ⟨b, 6, none⟩), .pointer (some ⟨b, 7, none⟩), .pointer (some ⟨b, 8, none⟩), .pointer (some ⟨b, 9, none⟩)]) (.int .i64 1)).run pP w' = .ok (.pointer (some ⟨b, 1, none⟩)) w' := by kernel_rfl
theorem yG6 (b : Nat) (w' : World) : (Instr.index 108 (.agg #[.pointer (some ⟨b, 0, none⟩), .pointer (some ⟨b, 1, none⟩), .pointer (some ⟨b, 2, none⟩), .pointer (some ⟨b, 3, none⟩), .pointer (some ⟨b, 4, none⟩), .pointer (some ⟨b, 5, none⟩), .pointer (some ⟨b, 6, none⟩), .pointer (some ⟨b, 7, none⟩), .pointer (some ⟨b, 8, none⟩), .pointer (some ⟨b, 9, none⟩)]) (.int .i64 2)).run pP w' = .ok (.pointer (some ⟨b, 2, none⟩)) w' := by kernel_rfl
theorem yG7 (b : Nat) (w' : World) : (Instr.index 108 (.agg #[.pointer (some ⟨b, 0, none⟩), .pointer (some ⟨b, 1, none⟩), .pointer (some ⟨b, 2, none⟩), .pointer (some ⟨b, 3, none⟩), .pointer (some ⟨b, 4, none⟩), .pointer (some ⟨b, 5, none⟩), .pointer (some ⟨b, 6, none⟩), .pointer (some ⟨b, 7, none⟩), .pointer (some ⟨b, 8, none⟩), .pointer (some ⟨b, 9, none⟩)]) (.int .i64 3)).run pP w' = .ok (.pointer (some ⟨b, 3, none⟩)) w' := by kernel_rfl
theorem yG8 (b : Nat) (w' : World) : (Instr.index 108 (.agg #[.pointer (some ⟨b, 0, none⟩), .pointer (some ⟨b, 1, none⟩), .pointer (some ⟨b, 2, none⟩), .pointer (some ⟨b, 3, none⟩), .pointer (some ⟨b, 4, none⟩), .pointer (some ⟨b, 5, none⟩), .pointer (some ⟨b, 6, none⟩), .pointer (some ⟨b, 7, none⟩), .pointer (some ⟨b, 8, none⟩), .pointer (some ⟨b, 9, none⟩)]) (.int .i64 4)).run pP w' = .ok (.pointer (some ⟨b, 4, none⟩)) w' := by kernel_rfl
theorem yG9 (b : Nat) (w' : World) : (Instr.index 108 (.agg #[.pointer (some ⟨b, 0, none⟩), .pointer (some ⟨b, 1, none⟩), .pointer (some ⟨b, 2, none⟩), .pointer (some ⟨b, 3, none⟩), .pointer (some ⟨b, 4, none⟩), .pointer (some ⟨b, 5, none⟩), .pointer (some ⟨b, 6, none⟩), .pointer (some ⟨b, 7, none⟩), .pointer (some ⟨b, 8, none⟩), .pointer (some ⟨b, 9, none⟩)]) (.int .i64 5)).run pP w' = .ok (.pointer (some ⟨b, 5, none⟩)) w' := by kernel_rfl
theorem yHa (b : Nat) (w' : World) : (Instr.index 108 (.agg #[.pointer (some ⟨b, 0, none⟩), .pointer (some ⟨b, 1, none⟩), .pointer (some ⟨b, 2, none⟩), .pointer (some ⟨b, 3, none⟩), .pointer (some ⟨b, 4, none⟩), .pointer (some ⟨b, 5, none⟩), .pointer (some ⟨b, 6, none⟩), .pointer (some ⟨b, 7, none⟩), .pointer (some ⟨b, 8, none⟩), .pointer (some ⟨b, 9, none⟩)]) (.int .i64 6)).run pP w' = .ok (.pointer (some ⟨b, 6, none⟩)) w' := by kernel_rfl
theorem yHb (b : Nat) (w' : World) : (Instr.index 108 (.agg #[.pointer (some ⟨b, 0, none⟩), .pointer (some ⟨b, 1, none⟩), .pointer (some ⟨b, 2, none⟩), .pointer (some ⟨b, 3, none⟩), .pointer (some ⟨b, 4, none⟩), .pointer (some ⟨b, 5, none⟩), .pointer (some ⟨b, 6, none⟩), .pointer (some ⟨b, 7, none⟩), .pointer (some ⟨b, 8, none⟩), .pointer (some ⟨b, 9, none⟩)]) (.int .i64 7)).run pP w' = .ok (.pointer (some ⟨b, 7, none⟩)) w' := by kernel_rfl
theorem yHc (b : Nat) (w' : World) : (Instr.index 108 (.agg #[.pointer (some ⟨b, 0, none⟩), .pointer (some ⟨b, 1, none⟩), .pointer (some ⟨b, 2, none⟩), .pointer (some ⟨b, 3, none⟩), .pointer (some ⟨b, 4, none⟩), .pointer (some ⟨b, 5, none⟩), .pointer (some ⟨b, 6, none⟩), .pointer (some ⟨b, 7, none⟩), .pointer (some ⟨b, 8, none⟩), .pointer (some ⟨b, 9, none⟩)]) (.int .i64 8)).run pP w' = .ok (.pointer (some ⟨b, 8, none⟩)) w' := by kernel_rfl
theorem yHd (b : Nat) (w' : World) : (Instr.index 108 (.agg #[.pointer (some ⟨b, 0, none⟩), .pointer (some ⟨b, 1, none⟩), .pointer (some ⟨b, 2, none⟩), .pointer (some ⟨b, 3, none⟩), .pointer (some ⟨b, 4, none⟩), .pointer (some ⟨b, 5, none⟩), .pointer (some ⟨b, 6, none⟩), .pointer (some ⟨b, 7, none⟩), .pointer (some ⟨b, 8, none⟩), .pointer (some ⟨b, 9, none⟩)]) (.int .i64 9)).run pP w' = .ok (.pointer (some ⟨b, 9, none⟩)) w' := by kernel_rfl
theorem yHe (b : Nat) {k : Nat} (hk : k < 10) (w' : World) : (Instr.index 108 (.agg #[.pointer (some ⟨b, 0, none⟩), .pointer (some ⟨b, 1, none⟩), .pointer (some ⟨b, 2, none⟩), .pointer (some ⟨b, 3, none⟩), .pointer (some ⟨b, 4, none⟩), .pointer (some ⟨b, 5, none⟩), .pointer (some ⟨b, 6, none⟩), .pointer (some ⟨b, 7, none⟩), .pointer (some ⟨b, 8, none⟩), .pointer (some ⟨b, 9, none⟩)]) (.int .i64 (k : Nat))).run pP w' = .ok (.pointer (some ⟨b, k, none⟩)) w' := by
 have e : k = 0 ∨ k = 1 ∨ k = 2 ∨ k = 3 ∨ k = 4 ∨ k = 5 ∨ k = 6 ∨ k = 7 ∨ k = 8 ∨ k = 9 := by omega
 rcases e with rfl | rfl | rfl | rfl | rfl | rfl | rfl | rfl | rfl | rfl
 ·exact yG4 b w'
 ·exact yG5 b w'
 ·exact yG6 b w'
 ·exact yG7 b w'
 ·exact yG8 b w'
 ·exact yG9 b w'
 ·exact yHa b w'
 ·exact yHb b w'
 ·exact yHc b w'
 ·exact yHd b w'
section
set_option maxRecDepth 100000
variable {R : VWP} {w w0 : World} {m : Nat} {i0 i1 i2 i3 i4 i5 i6 i7 i8 i9 j0 j1 j2 j3 j4 j5 j6 j7 j8 j9 k0 k1 k2 k3 k4 k5 k6 k7 k8 k9 l0 l1 l2 l3 l4 l5 l6 l7 l8 l9 : Int} {s0 s1 s2 s3 s4 s5 s6 s7 s8 s9 t0 t1 t2 t3 t4 t5 t6 t7 t8 t9 : BA} {n0 n1 n2 n3 n4 n5 n6 n7 n8 n9 o0 o1 o2 o3 o4 o5 o6 o7 o8 o9 p0 p1 p2 p3 p4 p5 p6 p7 p8 p9 : Nat} {q0 q1 q2 q3 q4 q5 q6 q7 q8 q9 r0 r1 r2 r3 r4 r5 r6 r7 r8 r9 : OA} {B0 B1 B2 B3 B4 B5 B6 B7 B8 B9 : Bool} {M0 M1 M2 M3 : Option Nat} {V0 V1 V2 V3 V4 V5 : Value} {A0 A1 A2 : Addr}
def ytQ : LA := ⟨[0, 0, 1, 0, 1, 1, 1], [1, 5, 24, 25, 26], [(1, 0, 0), (5, 1, 0)], 2, [1]⟩
def ytR : LA := ⟨[0, 0, 1, 0, 1, 1, 1, 1], [5, 36, 37, 38], [(5, 1, 0)], 2, [1]⟩
def yv6 : List LA := [ytQ, ytR]
abbrev yEc := dnF pP yv6 (code Tryz.f188)
abbrev yNM := yaO pP yv6 (code Tryz.f188)
abbrev yEd (p : List Nat) (K : List Kh) (R : VWP) := yaO pP yv6 (code Tryz.f188) p K (ya7 pP Tryz.f188 [] R)
def ymY (b0 : OA) (b2 b1 bm0 : Nat) (a7 a8 a9 : Int) (a0 : OA) (a4 a2 bm1 : Nat) : Int × (Option Addr) × (Option Addr) × Nat × Nat → List Value × List TB := fun (b3, a6, a1, a5, a3) => ([(.pointer (some ⟨bm0, 0, none⟩)), (.pointer (some ⟨bm1, 0, none⟩)), .slice b0 b2 b1, (.int .i64 (4 : Int)), .int .i64 b3], [⟨bm0, 45, [.int .i64 a7, .int .i64 a8, .int .i64 a9, .slice a0 a4 a2], false⟩, ⟨bm1, 106, [.pointer a6, .slice a1 a5 a3], true⟩])
def ymZ (b0 : OA) (b2 b1 : Nat) (b3 : Int) (bm0 : Nat) (a7 a8 a9 : Int) (a0 : OA) (a4 a2 bm1 : Nat) : Int × (Option Addr) × (Option Addr) × Nat × Nat → List Value × List TB := fun (b4, a6, a1, a5, a3) => ([(.pointer (some ⟨bm1, 0, none⟩)), .slice b0 b2 b1, .int .i64 b3, .int .i64 b4], [⟨bm0, 45, [.int .i64 a7, .int .i64 a8, .int .i64 a9, .slice a0 a4 a2], false⟩, ⟨bm1, 106, [.pointer a6, .slice a1 a5 a3], true⟩])
abbrev yFF (a6 : OA) (a8 a7 bm0 : Nat) (a3 a4 a5 : Int) (a0 : OA) (a2 a1 bm1 : Nat) (I : Nat → Int → Option Addr → Option Addr → Nat → Nat → World → Prop) (m : Nat) : Kh := KG (ymY a6 a8 a7 bm0 a3 a4 a5 a0 a2 a1 bm1) (U5 I) m
theorem yBR {I : Nat → Int → Option Addr → Option Addr → Nat → Nat → World → Prop} (m' : Nat) (h1 : m' < m) (h2 : I m' i3 q2 q3 n6 n7 w) : KS (yFF q0 n0 n1 n2 i0 i1 i2 q1 n3 n4 n5 I m) (ymY q0 n0 n1 n2 i0 i1 i2 q1 n3 n4 n5 (i3, q2, q3, n6, n7)) w := ⟨m', h1, _, rfl, rfl, h2⟩
theorem yBS {b1 : OA} {a1 : OA} {b6 b3 : OA} (I : Nat → Int → Option Addr → Option Addr → Nat → Nat → World → Prop) (m0 : Nat) (h0 : I m0 i3 b6 b3 n6 n7 w0)
 (hr : ∀ m b0 a6 a3 a5 a4 w, I m b0 a6 a3 a5 a4 w →
 w.heap[n5]? = some (.cells #[.pointer a6, .slice a3 a5 a4] 106) →
 brB (decide (b0 < (4 : Int))) (
 ixA b1 n0 b0 1 fun q9 =>
 yaF .i64 w q9 fun d1 =>
 Calls pP 52 #[(.int .u64 (IntKind.wrap .u64 d1))] w fun e b8 => ∃ c5, e = .returned (.string c5) ∧ ya4 [n5] [(n2, 45)] [n2] w b8 ∧ ∃ c9 c6 c8 c7, b8.heap[n5]? = some (.cells #[.pointer c9, .slice c6 c8 c7] 106) ∧
 Calls pP 51 #[(.pointer (some ⟨n5, 0, none⟩)), .string c5] b8 fun e c0 => ∃ d2 d0, e = .returned (.tuple #[.int .i64 d2, d0]) ∧ ya4 [n5] [(n2, 45)] [n2] b8 c0 ∧ ∃ c4 c1 c3 c2, c0.heap[n5]? = some (.cells #[.pointer c4, .slice c1 c3 c2] 106) ∧
 KS (yFF b1 n0 n1 n2 i0 i1 i2 a1 n3 n4 n5 I m) (ymY b1 n0 n1 n2 i0 i1 i2 a1 n3 n4 n5 ((IntKind.wrap .i64 (b0 + 1)), c4, c1, c3, c2)) c0)
 (
 yaJ ytR (yEc 394 [0, 0, 1, 0, 1, 1, 1, 1]) (yEd [1, 1, 1, 1, 0, 1, 0] [] R) (ymZ a1 n3 n4 (n3 : Int) n2 i0 i1 i2 a1 n3 n4 n5 (0, a6, a3, a5, a4)) w)) :
 yaJ ytQ (yEc 395 [0, 0, 1, 0, 1, 1, 1]) (yEd [1, 1, 1, 0, 1, 0] [] R) (ymY b1 n0 n1 n2 i0 i1 i2 a1 n3 n4 n5 (i3, b6, b3, n6, n7)) w0 :=
 lrule (ymY b1 n0 n1 n2 i0 i1 i2 a1 n3 n4 n5) (U5 I) h0 (by rintro m ⟨b0, a6, a3, a5, a4⟩ w h; exact ⟨by kernel_rfl, by kernel_rfl, fun js => Eq.mpr (by kernel_rfl) (hr m b0 a6 a3 a5 a4 w h)⟩)
abbrev yFG (a6 : OA) (a8 a7 : Nat) (a9 : Int) (bm0 : Nat) (a3 a4 a5 : Int) (a0 : OA) (a2 a1 bm1 : Nat) (I : Nat → Int → Option Addr → Option Addr → Nat → Nat → World → Prop) (m : Nat) : Kh := KG (ymZ a6 a8 a7 a9 bm0 a3 a4 a5 a0 a2 a1 bm1) (U5 I) m
theorem yBT {I : Nat → Int → Option Addr → Option Addr → Nat → Nat → World → Prop} (m' : Nat) (h1 : m' < m) (h2 : I m' i4 q2 q3 n6 n7 w) : KS (yFG q0 n0 n1 i0 n2 i1 i2 i3 q1 n3 n4 n5 I m) (ymZ q0 n0 n1 i0 n2 i1 i2 i3 q1 n3 n4 n5 (i4, q2, q3, n6, n7)) w := ⟨m', h1, _, rfl, rfl, h2⟩
theorem yBU (I : Nat → Int → Option Addr → Option Addr → Nat → Nat → World → Prop) (m0 : Nat) (h0 : I m0 i4 q2 q3 n6 n7 w0)
 (hr : ∀ m b0 a3 a0 a2 a1 w, I m b0 a3 a0 a2 a1 w →
 w.heap[n5]? = some (.cells #[.pointer a3, .slice a0 a2 a1] 106) →
 brB (decide (b0 < i0)) (
 ixA q0 n0 b0 4 fun c0 =>
 ya1 w c0 fun e2 => yaT w (Addr.add c0 1) fun e0 => ya1 w (Addr.add c0 2) fun e3 => yaT w (Addr.add c0 3) fun e1 =>
 ∀ b5, w.heap.size ≤ b5 →
 ∀ c1, Adv [] [b5] w c1 → c1.heap[n5]? = some (.cells #[.pointer a3, .slice a0 a2 a1] 106) →
 Calls pP 121 #[(.agg (Z5 e2 e0 e3 e1))] c1 fun e c2 => ∃ d0, e = .returned (.string d0) ∧ ya4 [n5] [(n2, 45), (b5, 99)] [n2, b5] c1 c2 ∧ ∃ d8 d2 d6 d4, c2.heap[n5]? = some (.cells #[.pointer d8, .slice d2 d6 d4] 106) ∧
 Calls pP 51 #[(.pointer (some ⟨n5, 0, none⟩)), .string d0] c2 fun e c4 => ∃ e5 e4, e = .returned (.tuple #[.int .i64 e5, e4]) ∧ ya4 [n5] [(n2, 45), (b5, 99)] [n2, b5] c2 c4 ∧ ∃ c9 c6 c8 c7, c4.heap[n5]? = some (.cells #[.pointer c9, .slice c6 c8 c7] 106) ∧
 KS (yFG q0 n0 n1 i0 n2 i1 i2 i3 q1 n3 n4 n5 I m) (ymZ q0 n0 n1 i0 n2 i1 i2 i3 q1 n3 n4 n5 ((IntKind.wrap .i64 (b0 + 1)), c9, c6, c8, c7)) c4)
 (
 Calls pP 55 #[(.pointer (some ⟨n5, 0, none⟩))] w fun e c5 => ∃ d1, e = .returned (.string d1) ∧ ya4 [n5] [(n2, 45)] [n2] w c5 ∧ ∃ d9 d3 d7 d5, c5.heap[n5]? = some (.cells #[.pointer d9, .slice d3 d7 d5] 106) ∧
 R (.tuple #[.string d1, .int .i64 0]) c5)) :
 yaJ ytR (yEc 394 [0, 0, 1, 0, 1, 1, 1, 1]) (yEd [1, 1, 1, 1, 0, 1, 0] [] R) (ymZ q0 n0 n1 i0 n2 i1 i2 i3 q1 n3 n4 n5 (i4, q2, q3, n6, n7)) w0 :=
 lrule (ymZ q0 n0 n1 i0 n2 i1 i2 i3 q1 n3 n4 n5) (U5 I) h0 (by rintro m ⟨b0, a3, a0, a2, a1⟩ w h; exact ⟨by kernel_rfl, by kernel_rfl, fun js => Eq.mpr (by kernel_rfl) (hr m b0 a3 a0 a2 a1 w h)⟩)
theorem yKW (h :
 ∀ b1, w.heap.size ≤ b1 →
 ∀ w2, Adv [] [b1] w w2 →
 Calls pP 189 #[(.agg (Z8 i0 i1 i2 q0 n0 n1))] w2 fun e w3 => ∃ x4, e = .returned (.int .i64 x4) ∧ yaD [b1] w2 w3 ∧
 brB (x4 != 0) (
 R (.tuple #[(.string (⟨#[]⟩ : BA)), .int .i64 x4]) w3)
 (
 ∀ b5, w3.heap.size ≤ b5 →
 ∀ w6, Adv [] [b5] w3 w6 →
 al w6 (.cells (Z10 i0 i1 i2 (n0 : Int)) 3) fun b7 w8 =>
 ∀ a6, Adv [] [] w8 a6 → a6.heap[b5]? = some (.cells #[.pointer none, .slice none 0 0] 106) →
 yaJ ytQ (yEc 395 [0, 0, 1, 0, 1, 1, 1]) (yEd [1, 1, 1, 0, 1, 0] [] R) (ymY (some ⟨b7, 0, none⟩) 4 4 b1 i0 i1 i2 q0 n0 n1 b5 (0, none, none, 0, 0)) a6)) :
 CR pP 188 #[(.agg (Z8 i0 i1 i2 q0 n0 n1))] w R :=
 yaA Tryz.wide_mixed (an := yv6) Tryz.func188 rfl rfl (by kernel_rfl) rfl (Eq.mpr (by kernel_rfl) h)
theorem yKX {b0 : Nat} {o0 : BA} (hb : w.heap[b0]? = some (.cells (Z2 o0 i0 i1) 222)) (h :
 brB (i1 != 0) (
 ∀ w1, Adv [] [] w w1 → w1.heap[b0]? = some (.cells (Z2 o0 i0 i1) 222) →
 R (.string (⟨#[]⟩ : BA)) w1)
 (
 brB (!B0) (
 ∀ w2, Adv [] [] w w2 → w2.heap[b0]? = some (.cells (Z2 o0 i0 i1) 222) →
 R (.string (⟨#[]⟩ : BA)) w2)
 (
 ∀ w3, Adv [] [] w w3 →
 Calls pP 85 (Z2 o0 i0 i2) w3 fun e w4 => ∃ s5 x6 x7, e = .returned (.tuple (Z2 s5 x6 x7)) ∧ yaD [b0] w3 w4 ∧
 ∀ w8, Adv [b0] [] w4 w8 → w8.heap[b0]? = some (.cells (Z2 o0 x6 x7) 222) →
 R (.string s5) w8))) :
 CR pP 163 #[(.pointer (some ⟨b0, 0, none⟩)), .bool B0, .int .i64 i2] w R :=
 yaZ Tryz.wide_mixed (an := []) Tryz.func163 rfl rfl (by kernel_rfl) rfl hb (Eq.mpr (by kernel_rfl) h)
theorem yKY {b0 : Nat} (hb : w.heap[b0]? = some (.cells (Z2 s0 i0 i1) 222)) (h :
 brB (i1 != 0) (
 ∀ w1, Adv [] [] w w1 → w1.heap[b0]? = some (.cells (Z2 s0 i0 i1) 222) →
 R (.int .u64 0) w1)
 (
 ∀ w2, Adv [] [] w w2 →
 Calls pP 86 #[.string s0, .int .i64 i0] w2 fun e w3 => ∃ x4 x5 x6, e = .returned (.tuple #[.int .u64 x4, .int .i64 x5, .int .i64 x6]) ∧ yaD [b0] w2 w3 ∧
 ∀ w7, Adv [b0] [] w3 w7 → w7.heap[b0]? = some (.cells (Z2 s0 x5 x6) 222) →
 R (.int .u64 x4) w7)) :
 CR pP 197 #[(.pointer (some ⟨b0, 0, none⟩))] w R :=
 yaZ Tryz.wide_mixed (an := []) Tryz.func197 rfl rfl (by kernel_rfl) rfl hb (Eq.mpr (by kernel_rfl) h)
theorem yKZ {b0 : Nat} (hb : w.heap[b0]? = some (.cells (Z2 s0 i0 i1) 222)) (h :
 brB (i1 != 0) (
 ∀ w1, Adv [] [] w w1 → w1.heap[b0]? = some (.cells (Z2 s0 i0 i1) 222) →
 R (.int .u8 0) w1)
 (
 brB (decide (i0 < 0)) (
 ∀ w2, Adv [b0] [] w w2 → w2.heap[b0]? = some (.cells (Z2 s0 i0 1) 222) →
 R (.int .u8 0) w2)
 (
 brB (decide (i0 > (s0.size : Int))) (
 ∀ w3, Adv [b0] [] w w3 → w3.heap[b0]? = some (.cells (Z2 s0 i0 1) 222) →
 R (.int .u8 0) w3)
 (
 brB (i0 == (s0.size : Int)) (
 ∀ w4, Adv [b0] [] w w4 → w4.heap[b0]? = some (.cells (Z2 s0 i0 10) 222) →
 R (.int .u8 0) w4)
 (
 ixS s0 i0 fun x5 =>
 brB (x5 != 0) (
 brB (x5 != 1) (
 brB (x5 != 3) (
 ∀ w6, Adv [b0] [] w w6 → w6.heap[b0]? = some (.cells (Z2 s0 (IntKind.wrap .i64 (i0 + 1)) 30) 222) →
 R (.int .u8 x5) w6)
 (
 ∀ w7, Adv [b0] [] w w7 → w7.heap[b0]? = some (.cells (Z2 s0 (IntKind.wrap .i64 (i0 + 1)) i1) 222) →
 R (.int .u8 x5) w7))
 (
 ∀ w8, Adv [b0] [] w w8 → w8.heap[b0]? = some (.cells (Z2 s0 (IntKind.wrap .i64 (i0 + 1)) i1) 222) →
 R (.int .u8 x5) w8))
 (
 ∀ w9, Adv [b0] [] w w9 → w9.heap[b0]? = some (.cells (Z2 s0 (IntKind.wrap .i64 (i0 + 1)) i1) 222) →
 R (.int .u8 x5) w9)))))) :
 CR pP 162 #[(.pointer (some ⟨b0, 0, none⟩))] w R :=
 yaZ Tryz.wide_mixed (an := []) Tryz.func162 rfl rfl (by kernel_rfl) rfl hb (Eq.mpr (by kernel_rfl) h)
theorem yK0 {b0 : Nat} {o0 : BA} (hb : w.heap[b0]? = some (.cells (Z2 o0 i0 i1) 222)) (h :
 ∀ b1, w.heap.size ≤ b1 →
 ∀ w2, Adv [] [b1] w w2 → w2.heap[b0]? = some (.cells (Z2 o0 i0 i1) 222) →
 Calls pP 162 #[(.pointer (some ⟨b0, 0, none⟩))] w2 fun e w3 => ∃ x4, e = .returned (.int .u8 x4) ∧ ya4 [b0] [(b1, 99)] [b1] w2 w3 ∧ ∃ s5 x6 x7, w3.heap[b0]? = some (.cells (Z2 s5 x6 x7) 222) ∧
 ∀ b8, w3.heap.size ≤ b8 →
 ∀ w9, Adv [] [b8] w3 w9 → w9.heap[b0]? = some (.cells (Z2 s5 x6 x7) 222) →
 Calls pP 163 #[(.pointer (some ⟨b0, 0, none⟩)), (.bool ((yh9 .u8 x4 1) != 0)), .int .i64 64] w9 fun e a1 => ∃ a4, e = .returned (.string a4) ∧ ya4 [b0] [(b1, 99), (b8, 99)] [b1, b8] w9 a1 ∧ ∃ a5 a8 a9, a1.heap[b0]? = some (.cells (Z2 a5 a8 a9) 222) ∧
 ∀ a0, Adv [b8] [] a1 a0 → a0.heap[b0]? = some (.cells (Z2 a5 a8 a9) 222) →
 Calls pP 163 #[(.pointer (some ⟨b0, 0, none⟩)), (.bool (!((yh9 .u8 x4 2) != 0))), .int .i64 512] a0 fun e a2 => ∃ a6, e = .returned (.string a6) ∧ ya4 [b0] [(b1, 99), (b8, 99)] [b1, b8] a0 a2 ∧ ∃ a7 b2 b3, a2.heap[b0]? = some (.cells (Z2 a7 b2 b3) 222) ∧
 ∀ a3, Adv [b1, b8] [] a2 a3 → a3.heap[b0]? = some (.cells (Z2 a7 b2 b3) 222) →
 R (.agg (Z5 ((yh9 .u8 x4 1) != 0) a4 ((yh9 .u8 x4 2) != 0) a6)) a3) :
 CR pP 150 #[(.pointer (some ⟨b0, 0, none⟩))] w R :=
 yaZ Tryz.wide_mixed (an := []) Tryz.func150 rfl rfl (by kernel_rfl) rfl hb (Eq.mpr (by kernel_rfl) h)
def ytS : LA := ⟨[0, 0, 1, 0, 1, 1, 1], [0, 2, 3, 4, 7], [(0, 0, 0), (2, 1, 0), (3, 2, 0)], 3, [0, 2]⟩
def yv7 : List LA := [ytS]
abbrev yK1 := dnF pP yv7 (code Tryz.f196)
abbrev yNN := yaO pP yv7 (code Tryz.f196)
abbrev yK2 (p : List Nat) (K : List Kh) (R : VWP) := yaO pP yv7 (code Tryz.f196) p K (ya7 pP Tryz.f196 [0] R)
def yjI (bm0 bm1 bm2 : Nat) : Bool × Int × ByteArray × Int × Int × Int × Int × Int × Int → List Value × List TB := fun (a7, a8, a0, a1, a2, a3, a4, a5, a6) => ([(.pointer (some ⟨bm0, 0, none⟩)), (.pointer (some ⟨bm1, 0, none⟩)), (.pointer (some ⟨bm2, 0, none⟩)), .bool a7, .int .i64 a8], [⟨bm0, 222, [.string a0, .int .i64 a1, .int .i64 a2], true⟩, ⟨bm1, 254, [.int .i64 0, .int .i64 0, .int .i64 0, .int .i64 0], false⟩, ⟨bm2, 254, [.int .i64 a3, .int .i64 a4, .int .i64 a5, .int .i64 a6], true⟩])
abbrev yv8 (bm0 bm1 bm2 : Nat) (I : Nat → Bool → Int → ByteArray → Int → Int → Int → Int → Int → Int → World → Prop) (m : Nat) : Kh := KG (yjI bm0 bm1 bm2) (U9 I) m
theorem ykY {I : Nat → Bool → Int → ByteArray → Int → Int → Int → Int → Int → Int → World → Prop} (m' : Nat) (h1 : m' < m) (h2 : I m' B0 i0 s0 i1 i2 i3 i4 i5 i6 w) : KS (yv8 n0 n1 n2 I m) (yjI n0 n1 n2 (B0, i0, s0, i1, i2, i3, i4, i5, i6)) w := ⟨m', h1, _, rfl, rfl, h2⟩
theorem yBV {a8 : BA} (I : Nat → Bool → Int → ByteArray → Int → Int → Int → Int → Int → Int → World → Prop) (m0 : Nat) (h0 : I m0 B0 i0 a8 i1 i2 i3 i4 i5 i6 w0)
 (hr : ∀ m b5 a6 a4 a5 a7 a1 a2 a3 a0 w, I m b5 a6 a4 a5 a7 a1 a2 a3 a0 w →
 w.heap[n0]? = some (.cells (Z2 a4 a5 a7) 222) →
 w.heap[n2]? = some (.cells (Z10 a1 a2 a3 a0) 254) →
 brB (decide (a6 < 4)) (
 Calls pP 197 #[(.pointer (some ⟨n0, 0, none⟩))] w fun e w3 => ∃ x4, e = .returned (.int .u64 x4) ∧ ya4 [n0, n2] [(n1, 254)] [n1] w w3 ∧ ∃ s5 x6 x7, w3.heap[n0]? = some (.cells (Z2 s5 x6 x7) 222) ∧ ∃ x8 x9 e7 e8, w3.heap[n2]? = some (.cells (Z10 x8 x9 e7 e8) 254) ∧
 brB b5 (0 ≤ a6 ∧ a6 < ((4 : Nat) : Int) ∧
 st w3 (Addr.add ⟨n2, 0, none⟩ (Int.toNat a6 * 1)) [(.int .i64 (IntKind.wrap .i64 (if 1099511627776 < x4 then 1099511627776 else x4)))] fun b6 => ya4 [n0, n2] [(n1, 254)] [n1] w3 b6 ∧ ∃ c6 c9 d0, b6.heap[n0]? = some (.cells (Z2 c6 c9 d0) 222) ∧ ∃ d1 d2 d3 d4, b6.heap[n2]? = some (.cells (Z10 d1 d2 d3 d4) 254) ∧
 KS (yv8 n0 n1 n2 I m) (yjI n0 n1 n2 (true, (IntKind.wrap .i64 (a6 + 1)), c6, c9, d0, d1, d2, d3, d4)) b6)
 (
 brB (decide (a6 < 3)) (0 ≤ a6 ∧ a6 < ((4 : Nat) : Int) ∧
 st w3 (Addr.add ⟨n2, 0, none⟩ (Int.toNat a6 * 1)) [(.int .i64 (IntKind.wrap .i64 (if 1099511627776 < x4 then 1099511627776 else x4)))] fun b7 => ya4 [n0, n2] [(n1, 254)] [n1] w3 b7 ∧ ∃ c7 d5 d6, b7.heap[n0]? = some (.cells (Z2 c7 d5 d6) 222) ∧ ∃ d7 d8 d9 e0, b7.heap[n2]? = some (.cells (Z10 d7 d8 d9 e0) 254) ∧
 KS (yv8 n0 n1 n2 I m) (yjI n0 n1 n2 ((decide (x4 > 1099511627776)), (IntKind.wrap .i64 (a6 + 1)), c7, d5, d6, d7, d8, d9, e0)) b7)
 (0 ≤ a6 ∧ a6 < ((4 : Nat) : Int) ∧
 st w3 (Addr.add ⟨n2, 0, none⟩ (Int.toNat a6 * 1)) [(.int .i64 (IntKind.wrap .i64 (if 1099511627776 < x4 then 1099511627776 else x4)))] fun b8 => ya4 [n0, n2] [(n1, 254)] [n1] w3 b8 ∧ ∃ c8 e1 e2, b8.heap[n0]? = some (.cells (Z2 c8 e1 e2) 222) ∧ ∃ e3 e4 e5 e6, b8.heap[n2]? = some (.cells (Z10 e3 e4 e5 e6) 254) ∧
 KS (yv8 n0 n1 n2 I m) (yjI n0 n1 n2 (false, (IntKind.wrap .i64 (a6 + 1)), c8, e1, e2, e3, e4, e5, e6)) b8)))
 (
 brB (a7 != 0) (
 ∀ b9, Adv [n1] [] w b9 → b9.heap[n0]? = some (.cells (Z2 a4 a5 a7) 222) →
 b9.heap[n2]? = some (.cells (Z10 a1 a2 a3 a0) 254) →
 R (.agg (Z10 a1 a2 a3 a0)) b9)
 (
 brB b5 (
 ∀ c0, Adv [n1, n0] [] w c0 → c0.heap[n0]? = some (.cells (Z2 a4 a5 1) 222) →
 c0.heap[n2]? = some (.cells (Z10 a1 a2 a3 a0) 254) →
 R (.agg (Z10 a1 a2 a3 a0)) c0)
 (
 brB (a0 == 0) (
 ∀ c1, Adv [n1, n0] [] w c1 → c1.heap[n0]? = some (.cells (Z2 a4 a5 30) 222) →
 c1.heap[n2]? = some (.cells (Z10 a1 a2 a3 a0) 254) →
 R (.agg (Z10 a1 a2 a3 a0)) c1)
 (
 brB (decide (a0 > 16)) (
 ∀ c2, Adv [n1, n0] [] w c2 → c2.heap[n0]? = some (.cells (Z2 a4 a5 2) 222) →
 c2.heap[n2]? = some (.cells (Z10 a1 a2 a3 a0) 254) →
 R (.agg (Z10 a1 a2 a3 a0)) c2)
 (
 ∀ c3, Adv [n1] [] w c3 → c3.heap[n0]? = some (.cells (Z2 a4 a5 a7) 222) →
 c3.heap[n2]? = some (.cells (Z10 a1 a2 a3 a0) 254) →
 R (.agg (Z10 a1 a2 a3 a0)) c3)))))) :
 yaJ ytS (yK1 395 [0, 0, 1, 0, 1, 1, 1]) (yK2 [1, 1, 1, 0, 1, 0] [] R) (yjI n0 n1 n2 (B0, i0, a8, i1, i2, i3, i4, i5, i6)) w0 :=
 lrule (yjI n0 n1 n2) (U9 I) h0 (by rintro m ⟨b5, a6, a4, a5, a7, a1, a2, a3, a0⟩ w h; exact ⟨by kernel_rfl, by kernel_rfl, fun js => Eq.mpr (by kernel_rfl) (hr m b5 a6 a4 a5 a7 a1 a2 a3 a0 w h)⟩)
theorem yK3 {b0 : Nat} (hb : w.heap[b0]? = some (.cells (Z2 s0 i0 i1) 222)) (h :
 ∀ b1, w.heap.size ≤ b1 →
 ∀ b2, w.heap.size ≤ b2 →
 ∀ a0, Adv [] [b2, b1] w a0 → a0.heap[b0]? = some (.cells (Z2 s0 i0 i1) 222) →
 a0.heap[b2]? = some (.cells (Z10 0 0 0 0) 254) →
 yaJ ytS (yK1 395 [0, 0, 1, 0, 1, 1, 1]) (yK2 [1, 1, 1, 0, 1, 0] [] R) (yjI b0 b1 b2 (false, 0, s0, i0, i1, 0, 0, 0, 0)) a0) :
 CR pP 196 #[(.pointer (some ⟨b0, 0, none⟩))] w R :=
 yaZ Tryz.wide_mixed (an := yv7) Tryz.func196 rfl rfl (by kernel_rfl) rfl hb (Eq.mpr (by kernel_rfl) h)
def ytT : LA := ⟨[0, 0, 1, 0, 1, 1, 1, 1], [4, 7, 8, 9, 10], [(4, 0, 0), (7, 1, 0), (8, 2, 0), (9, 3, 0)], 4, [1]⟩
def yv9 : List LA := [ytT]
abbrev yK4 := dnF pP yv9 (code Tryz.f195)
abbrev yNO := yaO pP yv9 (code Tryz.f195)
abbrev yK5 (p : List Nat) (K : List Kh) (R : VWP) := yaO pP yv9 (code Tryz.f195) p K (ya7 pP Tryz.f195 [] R)
def ym0 (bm0 bm1 bm2 : Nat) (a6 a7 a8 a9 : Int) (bm3 : Nat) (b0 b1 b2 : Int) : Int × ByteArray × Int × Int × (Option Addr) × Nat × Nat → List Value × List TB := fun (b3, a3, a4, a5, a0, a2, a1) => ([(.pointer (some ⟨bm0, 0, none⟩)), (.pointer (some ⟨bm1, 0, none⟩)), (.pointer (some ⟨bm2, 0, none⟩)), (.pointer (some ⟨bm3, 0, none⟩)), .int .i64 b3], [⟨bm0, 45, [.int .i64 0, .int .i64 0, .int .i64 0, .slice none 0 0], false⟩, ⟨bm1, 222, [.string a3, .int .i64 a4, .int .i64 a5], true⟩, ⟨bm2, 254, [.int .i64 a6, .int .i64 a7, .int .i64 a8, .int .i64 a9], false⟩, ⟨bm3, 45, [.int .i64 b0, .int .i64 b1, .int .i64 b2, .slice a0 a2 a1], false⟩])
abbrev yFH (bm0 bm1 bm2 : Nat) (a0 a1 a2 a3 : Int) (bm3 : Nat) (a4 a5 a6 : Int) (I : Nat → Int → ByteArray → Int → Int → Option Addr → Nat → Nat → World → Prop) (m : Nat) : Kh := KG (ym0 bm0 bm1 bm2 a0 a1 a2 a3 bm3 a4 a5 a6) (U7 I) m
theorem yBW {I : Nat → Int → ByteArray → Int → Int → Option Addr → Nat → Nat → World → Prop} (m' : Nat) (h1 : m' < m) (h2 : I m' i7 s0 i8 i9 q0 n4 n5 w) : KS (yFH n0 n1 n2 i0 i1 i2 i3 n3 i4 i5 i6 I m) (ym0 n0 n1 n2 i0 i1 i2 i3 n3 i4 i5 i6 (i7, s0, i8, i9, q0, n4, n5)) w := ⟨m', h1, _, rfl, rfl, h2⟩
theorem yBX (I : Nat → Int → ByteArray → Int → Int → Option Addr → Nat → Nat → World → Prop) (m0 : Nat) (h0 : I m0 i7 s0 i8 i9 q0 n4 n5 w0)
 (hr : ∀ m b3 a2 a1 a0 a3 a5 a4 w, I m b3 a2 a1 a0 a3 a5 a4 w →
 w.heap[n1]? = some (.cells (Z2 a2 a1 a0) 222) →
 brB (a0 == 0) (
 brB (decide (b3 < i3)) (
 ∀ c0, Adv [] [] w c0 → c0.heap[n1]? = some (.cells (Z2 a2 a1 a0) 222) →
 Calls pP 150 #[(.pointer (some ⟨n1, 0, none⟩))] c0 fun e c3 => ∃ d3 d1 d4 d2, e = .returned (.agg (Z5 d3 d1 d4 d2)) ∧ ya4 [n1] [(n0, 45), (n2, 254), (n3, 45)] [n0, n2, n3] c0 c3 ∧ ∃ c2 c9 d0, c3.heap[n1]? = some (.cells (Z2 c2 c9 d0) 222) ∧ (((.slice a3 a5 a4) : Value) = (.slice a3 a5 a4)) ∧
 al c3 (.cells (Z5 d3 d1 d4 d2) 99) fun d8 d5 =>
 ycE pP (Builtin.append_ #[43, 43] 43 #[.slice a3 a5 a4, (.slice (some ⟨d8, 0, none⟩) 1 1)]) d5 fun d7 e0 d9 d6 => yaD [n0, n1, n2, n3] d5 d6 ∧
 ∀ c4, Adv [n3] [] d6 c4 → c4.heap[n1]? = some (.cells (Z2 c2 c9 d0) 222) →
 KS (yFH n0 n1 n2 i0 i1 i2 i3 n3 i4 i5 i6 I m) (ym0 n0 n1 n2 i0 i1 i2 i3 n3 i4 i5 i6 ((IntKind.wrap .i64 (b3 + 1)), c2, c9, d0, d7, e0, d9)) c4)
 (
 brB (a0 != 0) ((((.int .i64 a0) : Value) = (.int .i64 a0)) ∧
 ∀ c5, Adv [n0] [] w c5 → c5.heap[n1]? = some (.cells (Z2 a2 a1 a0) 222) →
 R (.tuple #[(.agg (Z8 0 0 0 none 0 0)), .int .i64 0, .int .i64 a0]) c5)
 ((((.int .i64 a1) : Value) = (.int .i64 a1)) ∧
 ∀ c6, Adv [n0] [] w c6 → c6.heap[n1]? = some (.cells (Z2 a2 a1 a0) 222) →
 R (.tuple #[(.agg (Z8 i4 i5 i6 a3 a5 a4)), .int .i64 a1, .int .i64 0]) c6)))
 (
 brB (a0 != 0) ((((.int .i64 a0) : Value) = (.int .i64 a0)) ∧
 ∀ c7, Adv [n0] [] w c7 → c7.heap[n1]? = some (.cells (Z2 a2 a1 a0) 222) →
 R (.tuple #[(.agg (Z8 0 0 0 none 0 0)), .int .i64 0, .int .i64 a0]) c7)
 ((((.int .i64 a1) : Value) = (.int .i64 a1)) ∧
 ∀ c8, Adv [n0] [] w c8 → c8.heap[n1]? = some (.cells (Z2 a2 a1 a0) 222) →
 R (.tuple #[(.agg (Z8 i4 i5 i6 a3 a5 a4)), .int .i64 a1, .int .i64 0]) c8))) :
 yaJ ytT (yK4 394 [0, 0, 1, 0, 1, 1, 1, 1]) (yK5 [1, 1, 1, 1, 0, 1, 0] [] R) (ym0 n0 n1 n2 i0 i1 i2 i3 n3 i4 i5 i6 (i7, s0, i8, i9, q0, n4, n5)) w0 :=
 lrule (ym0 n0 n1 n2 i0 i1 i2 i3 n3 i4 i5 i6) (U7 I) h0 (by rintro m ⟨b3, a2, a1, a0, a3, a5, a4⟩ w h; exact ⟨by kernel_rfl, by kernel_rfl, fun js => Eq.mpr (by kernel_rfl) (hr m b3 a2 a1 a0 a3 a5 a4 w h)⟩)
theorem yK6 {a1 : BA} (h :
 ∀ b1, w.heap.size ≤ b1 →
 ∀ b2, w.heap.size ≤ b2 →
 ∀ w3, Adv [] [b2, b1] w w3 → w3.heap[b2]? = some (.cells (Z2 a1 i0 0) 222) →
 Calls pP 196 #[(.pointer (some ⟨b2, 0, none⟩))] w3 fun e w4 => ∃ x5 x6 x7 x8, e = .returned (.agg (Z10 x5 x6 x7 x8)) ∧ ya4 [b2] [(b1, 45)] [b1] w3 w4 ∧ ∃ s9 a5 a6, w4.heap[b2]? = some (.cells (Z2 s9 a5 a6) 222) ∧
 ∀ a2, w4.heap.size ≤ a2 →
 ∀ a3, w4.heap.size ≤ a3 →
 ∀ a4, Adv [] [a3, a2] w4 a4 → a4.heap[b2]? = some (.cells (Z2 s9 a5 a6) 222) →
 yaJ ytT (yK4 394 [0, 0, 1, 0, 1, 1, 1, 1]) (yK5 [1, 1, 1, 1, 0, 1, 0] [] R) (ym0 b1 b2 a2 x5 x6 x7 x8 a3 x5 x6 x7 (0, s9, a5, a6, none, 0, 0)) a4) :
 CR pP 195 #[.string a1, .int .i64 i0] w R :=
 yaA Tryz.wide_mixed (an := yv9) Tryz.func195 rfl rfl (by kernel_rfl) rfl (Eq.mpr (by kernel_rfl) h)
theorem yK7 {a3 : BA} (h :
 ∀ b1, w.heap.size ≤ b1 →
 ∀ b2, w.heap.size ≤ b2 →
 ∀ w3, Adv [] [b2, b1] w w3 → w3.heap[b2]? = some (.cells (Z2 a3 i0 0) 222) →
 Calls pP 150 #[(.pointer (some ⟨b2, 0, none⟩))] w3 fun e w4 => ∃ t5 s6 t7 s8, e = .returned (.agg (Z5 t5 s6 t7 s8)) ∧ ya4 [b2] [(b1, 99)] [b1] w3 w4 ∧ ∃ s9 a1 a0, w4.heap[b2]? = some (.cells (Z2 s9 a1 a0) 222) ∧
 ∀ a4, w4.heap.size ≤ a4 →
 brB (a0 != 0) ((((.int .i64 a0) : Value) = (.int .i64 a0)) ∧
 ∀ a5, Adv [b1] [a4] w4 a5 → a5.heap[b2]? = some (.cells (Z2 s9 a1 a0) 222) →
 R (.tuple #[(.agg (Z5 false ByteArray.empty false ByteArray.empty)), .int .i64 0, .int .i64 a0]) a5)
 ((((.int .i64 a1) : Value) = (.int .i64 a1)) ∧
 ∀ a6, Adv [b1] [a4] w4 a6 → a6.heap[b2]? = some (.cells (Z2 s9 a1 a0) 222) →
 R (.tuple #[(.agg (Z5 t5 s6 t7 s8)), .int .i64 a1, .int .i64 0]) a6)) :
 CR pP 126 #[.string a3, .int .i64 i0] w R :=
 yaA Tryz.wide_mixed (an := []) Tryz.func126 rfl rfl (by kernel_rfl) rfl (Eq.mpr (by kernel_rfl) h)
end
def ycH (b : PBatch) : List Nat := [b.prod.toNat, b.epoch.toNat, b.seq.toNat, b.recs.length]
def ydS (b : PBatch) : List UInt8 := (ycH b).flatMap yaL ++ b.recs.flatMap ygW
structure BatGood (b : PBatch) : Prop where
 hd : 0 ≤ b.prod ∧ b.prod ≤ 1099511627776 ∧ 0 ≤ b.epoch ∧ b.epoch ≤ 1099511627776 ∧ 0 ≤ b.seq ∧ b.seq ≤ 1099511627776
 r : ∀ x ∈ b.recs, ygF x = 0
 lr : 1 ≤ b.recs.length ∧ b.recs.length ≤ 16
theorem BatGood.of {b : PBatch} (h : ybG b = 0) : BatGood b := by
 unfold ybG at h
 split at h
 ·omega
 rename_i h1
 split at h
 ·omega
 split at h
 ·omega
 rename_i h2 h3
 have h1 := Bool.not_eq_false _ ▸ h1
 simp only [Bool.and_eq_true] at h1
 have nb : ∀ {x : Int}, num x = true → 0 ≤ x ∧ x ≤ 1099511627776 := fun h => by simpa [num] using h
 have a1 := nb h1.1.1
 have a2 := nb h1.1.2
 have a3 := nb h1.2
 refine ⟨by omega, fun x hx => ?_, by omega⟩
 split at h
 ·rename_i hn
  have := List.find?_eq_none.1 hn x hx
  simpa using this
 ·rename_i r hr
  have := List.find?_some hr
  simp [h] at this
theorem BatGood.le {b : PBatch} (h : BatGood b) : ∀ x ∈ ycH b, x ≤ 1099511627776 := by
 intro x hx
 have := h.hd
 have := h.lr
 simp [ycH] at hx
 omega
theorem BatGood.len1 {b : PBatch} (h : BatGood b) (k : Nat) : (((ycH b).take k).flatMap yaL).length ≤ 40 := by
 have := ydD (f := yaL) (c := 10) (l := (ycH b).take k) fun x hx => (yaM x (by have := h.le x (List.mem_of_mem_take hx); omega)).2
 have e : ((ycH b).take k).length ≤ 4 := by rw [List.length_take]; simp [ycH]; omega
 omega
theorem BatGood.len2 {b : PBatch} (h : BatGood b) (k : Nat) : ((b.recs.take k).flatMap ygW).length ≤ 9600 := by
 have := ydD (f := ygW) (c := 600) (l := b.recs.take k) fun x hx => yhY (h.r x (List.mem_of_mem_take hx))
 have e : (b.recs.take k).length ≤ 16 := by rw [List.length_take]; have := h.lr; omega
 omega
theorem BatGood.len {b : PBatch} (h : BatGood b) : (ydS b).length ≤ 10000 ∧ 1 ≤ (ydS b).length := by
 have h1 := h.len1 4
 have h2 := h.len2 b.recs.length
 have e : (ycH b).take 4 = ycH b := List.take_of_length_le (by simp [ycH])
 rw [e] at h1
 rw [List.take_length] at h2
 have h3 := (yaM b.recs.length (by have := h.lr; omega)).1
 have h4 : (yaL b.recs.length).length ≤ ((ycH b).flatMap yaL).length := by simp [ycH]; omega
 unfold ydS; rw [List.length_append]; omega
theorem yEe {w : World} {b : PBatch} {rs : Sl} (h : ycD w 4 yfW rs.a rs.n b.recs) (hl : b.recs.length ≤ 1000000) :
  Calls pP 188 #[b.v rs] w fun e w' => e = .returned (.tuple #[.string (if ybG b = 0 then bs (ydS b) else bs []), .int .i64 (ybG b)]) ∧ Mod [] w w' := by
 refine yaQ (yKW ?_)
 intro b1 f1 w1 A1
 have l1 := A1.lt b1 (by simp)
 refine (yrE (b := b) (rs := rs) (h.keep0 A1.mod) hl).mono ?_
 rintro e w2 ⟨rfl, M2⟩
 refine ⟨_, rfl, yaD.of0 M2, ?_⟩
 have N2 := A1.mod.go0 M2 (by simp)
 have s2 := N2.size
 have s2' := M2.size
 refine yaC (fun g1 => ?_) fun g1 => ?_
 ·have g : ¬ ybG b = 0 := by simpa using g1
  rw [if_neg g]; exact ⟨rfl, N2⟩
 have g : ybG b = 0 := by simpa using g1
 have G := BatGood.of g
 have hhd := G.hd
 have hlr := G.lr
 intro b3 f3 w3 A3
 have l3 := A3.lt b3 (by simp)
 refine ycR fun b4 w4 c4 M4 f4 => ?_
 intro w5 A5 hb5
 have s3 := A3.mod.size
 have s4 := M4.size
 have s5 := A5.mod.size
 have M5 := (A3.mod.go0 M4 (by simp)).go0 A5.mod (by simp)
 have c5 := A5.mod.keep0 c4
 have hbd : Sb w2.heap.size b3 [] w5 := Sb.fresh f3 hb5
 have hne : b4 ≠ b3 := by omega
 have Wr0 : Wr w2.heap.size b3 w2 w5 := Wr.of0 M5 (Nat.le_refl _)
 have mod0 : ∀ {w'}, Wr w2.heap.size b3 w5 w' → Mod [] w w' := fun W => (Wr0.trans W).mod N2 s2
 have hcell : ∀ {w' : World}, Wr w2.heap.size b3 w5 w' → ycD w' 1 yIE (some ⟨b4, 0, none⟩) 4 (ycH b) := fun {w'} W => by
  have c6 := W.keep c5 hne (by decide)
  refine ⟨rfl, fun i x hx => ⟨_, rfl, fun j v hv => ?_⟩⟩
  have hj : j = 0 := by have := (List.getElem?_eq_some_iff.1 hv).1; simp [yIE] at this; omega
  subst hj
  rw [ya6, ya6, yaY c6]
  simp [yIE] at hv
  subst hv
  have hi := (List.getElem?_eq_some_iff.1 hx).1
  simp [ycH] at hi
  have e4 := h.1
  match i, hi, hx with
  | 0, _, hx => simp [ycH] at hx; subst hx; simp; omega
  | 1, _, hx => simp [ycH] at hx; subst hx; simp; omega
  | 2, _, hx => simp [ycH] at hx; subst hx; simp; omega
  | 3, _, hx => simp [ycH] at hx; subst hx; simp; omega
 refine yBS (fun mm x p0 a0 n0 c0 w' => ∃ k : Nat, x = k ∧ k ≤ 4 ∧ Sb w2.heap.size b3 (((ycH b).take k).flatMap yaL) w' ∧ Wr w2.heap.size b3 w5 w' ∧ mm = 4 - k) 4 ⟨0, rfl, by omega, by simpa using hbd, Wr.of0 (Mod.refl _) (by omega), rfl⟩ ?_
 rintro mm x p0 a0 n0 c0 w6 ⟨k, rfl, hk, hB6, W6, rfl⟩ hc6
 have s6 := W6.bel.size
 refine yaE (fun hlt => ?_) fun hge => ?_
 ·obtain ⟨x, hx⟩ : ∃ x, (ycH b)[k]? = some x := ⟨_, List.getElem?_eq_getElem (by simp [ycH]; omega)⟩
  have hx2 := G.le x (List.mem_of_getElem? hx)
  refine (hcell W6).ix hx fun q hq => yaB (x := (x : Nat)) (by simpa [add_zero] using hq 0 _ rfl) ?_
  rw [yeR (by omega)]
  refine (ykN x (by omega) w6).mono ?_
  rintro e w7 ⟨rfl, M7⟩
  have hB7 := hB6.keep0 M7
  have s7 := M7.size
  obtain ⟨p7, a7, n7, c7, hc7⟩ := Sb.cells hB7
  refine ⟨_, rfl, yaD.of0 M7, p7, a7, n7, c7, hc7, ?_⟩
  refine (yBP (l2 := yaL x) hB7 (by have := G.len1 k; have := yaM x (by omega); omega) (by omega)).mono ?_
  rintro e w8 ⟨rfl, hB8, W8⟩
  obtain ⟨p8, a8, n8, c8, hc8⟩ := Sb.cells hB8
  refine ⟨_, _, rfl, W8.keepE fun k hk he => ?_, p8, a8, n8, c8, hc8, ?_⟩
  ·simp at hk he; omega
  refine yBR (4 - (k + 1)) (by omega) ⟨k + 1, by rw [yaH (by omega) (by omega)]; omega, by omega, ?_, (W6.trans (Wr.of0 M7 (by omega))).trans W8, rfl⟩
  rw [ybD hx]
  exact hB8
 have hk4 : k = 4 := by omega
 subst hk4
 have e1 : (ycH b).take 4 = ycH b := List.take_of_length_le (by simp [ycH])
 have len1 := G.len1 4
 rw [e1] at hB6 len1
 have e4 := h.1
 refine yBU (fun mm x p0 a0 n0 c0 w' => ∃ k : Nat, x = k ∧ k ≤ b.recs.length ∧ Sb w2.heap.size b3 ((ycH b).flatMap yaL ++ (b.recs.take k).flatMap ygW) w' ∧ Wr w2.heap.size b3 w5 w' ∧ mm = b.recs.length - k) b.recs.length ⟨0, rfl, by omega, by simpa using hB6, W6, rfl⟩ ?_
 clear hB6 W6 hc6 s6
 rintro mm x p0 a0 n0 c0 w6 ⟨k, rfl, hk, hB6, W6, rfl⟩ hc6
 have s6 := W6.bel.size
 have len2 := G.len2 k
 refine yaE (fun hlt => ?_) fun hge => ?_
 ·obtain ⟨x, hx⟩ : ∃ x, b.recs[k]? = some x := ⟨_, List.getElem?_eq_getElem (by omega)⟩
  have hx2 := G.r x (List.mem_of_getElem? hx)
  refine (h.keep0 (mod0 W6)).ix hx fun q hq => yaP (by simpa [add_zero] using hq 0 _ rfl) (yaI (hq 1 _ rfl) (yaP (hq 2 _ rfl) (yaI (hq 3 _ rfl) ?_)))
  intro b7 f7 w7 A7 hb7
  have s7 := A7.mod.size
  refine (yAV x hx2 w7).mono ?_
  rintro e w8 ⟨rfl, M8⟩
  have hB8 := (hB6.keep0 A7.mod).keep0 M8
  have s8 := M8.size
  obtain ⟨p8, a8, n8, c8, hc8⟩ := Sb.cells hB8
  refine ⟨_, rfl, yaD.of0 M8, p8, a8, n8, c8, hc8, ?_⟩
  refine (yBP (l2 := ygW x) hB8 (by rw [List.length_append]; have := yhY hx2; omega) (by omega)).mono ?_
  rintro e w9 ⟨rfl, hB9, W9⟩
  obtain ⟨p9, a9, n9, c9, hc9⟩ := Sb.cells hB9
  refine ⟨_, _, rfl, W9.keepE fun k hk he => ?_, p9, a9, n9, c9, hc9, ?_⟩
  ·simp at hk he
   rcases hk with rfl | rfl
   ·omega
   ·exact ⟨he, .inr ⟨_, by simp; exact .inr rfl, by decide⟩⟩
  refine yBT (b.recs.length - (k + 1)) (by omega) ⟨k + 1, by rw [yaH (by omega) (by omega)]; omega, by omega, ?_, (W6.trans ((Wr.of0 A7.mod (by omega)).trans (Wr.of0 M8 (by omega)))).trans W9, rfl⟩
  rw [ybD hx, ← List.append_assoc]
  exact hB9
 ·have hk : k = b.recs.length := by omega
  subst hk
  rw [List.take_length] at hB6
  have hlen := G.len
  refine (yG3 (l := ydS b) hB6 (by intro h; rw [h] at hlen; simp at hlen)).mono ?_
  rintro e w7 ⟨rfl, hB7, W7⟩
  obtain ⟨p7, a7, n7, c7, hc7⟩ := Sb.cells hB7
  refine ⟨_, rfl, W7.keepE fun k hk he => ?_, p7, a7, n7, c7, hc7, ?_, mod0 (W6.trans W7)⟩
  ·simp at hk he; omega
  rw [if_pos g, g]
section
set_option maxRecDepth 100000
variable {R : VWP} {w w0 : World} {m : Nat} {i0 i1 i2 i3 i4 i5 i6 i7 i8 i9 j0 j1 j2 j3 j4 j5 j6 j7 j8 j9 k0 k1 k2 k3 k4 k5 k6 k7 k8 k9 l0 l1 l2 l3 l4 l5 l6 l7 l8 l9 : Int} {s0 s1 s2 s3 s4 s5 s6 s7 s8 s9 t0 t1 t2 t3 t4 t5 t6 t7 t8 t9 : BA} {n0 n1 n2 n3 n4 n5 n6 n7 n8 n9 o0 o1 o2 o3 o4 o5 o6 o7 o8 o9 p0 p1 p2 p3 p4 p5 p6 p7 p8 p9 : Nat} {q0 q1 q2 q3 q4 q5 q6 q7 q8 q9 r0 r1 r2 r3 r4 r5 r6 r7 r8 r9 : OA} {B0 B1 B2 B3 B4 B5 B6 B7 B8 B9 : Bool} {M0 M1 M2 M3 : Option Nat} {V0 V1 V2 V3 V4 V5 : Value} {A0 A1 A2 : Addr}
theorem yK8 (h :
 ∀ b1, w.heap.size ≤ b1 →
 ∀ w2, Adv [] [b1] w w2 →
 ya1 w2 A1 fun t3 =>
 brB t3 (
 ∀ w4, Adv [b1] [] w2 w4 → w4.heap[b1]? = some (.cells #[.int .i64 1] 3) →
 Calls pP 80 #[(.pointer (some A0)), (.pointer (some ⟨b1, 0, none⟩))] w4 fun e w5 => e = .returned (.tuple #[]) ∧ ∃ x6, w5.heap[b1]? = some (.cells #[.int .i64 x6] 3) ∧
 R (.tuple #[]) w5)
 (
 ∀ w7, Adv [] [] w2 w7 → w7.heap[b1]? = some (.cells #[.int .i64 0] 3) →
 Calls pP 80 #[(.pointer (some A0)), (.pointer (some ⟨b1, 0, none⟩))] w7 fun e w8 => e = .returned (.tuple #[]) ∧ ∃ x9, w8.heap[b1]? = some (.cells #[.int .i64 x9] 3) ∧
 R (.tuple #[]) w8)) :
 CR pP 185 #[(.pointer (some A0)), (.pointer (some A1))] w R :=
 yaA Tryz.wide_mixed (an := []) Tryz.func185 rfl rfl (by kernel_rfl) rfl (Eq.mpr (by kernel_rfl) h)
theorem yK9 (h :
 yaF .i64 w A1 fun x1 => yaF .i64 w (Addr.add A1 1) fun x2 => yaF .i64 w (Addr.add A1 2) fun x3 => yaS w (Addr.add A1 3) fun a4 n5 c6 =>
 Calls pP 188 #[(.agg (Z8 x1 x2 x3 a4 n5 c6))] w fun e w7 => ∃ s8 x9, e = .returned (.tuple #[.string s8, .int .i64 x9]) ∧
 Calls pP 51 #[(.pointer (some A0)), .string s8] w7 fun e a3 => ∃ a5 a2, e = .returned (.tuple #[.int .i64 a5, a2]) ∧
 R (.tuple #[]) a3) :
 CR pP 184 #[(.pointer (some A0)), (.pointer (some A1))] w R :=
 yaA Tryz.wide_mixed (an := []) Tryz.func184 rfl rfl (by kernel_rfl) rfl (Eq.mpr (by kernel_rfl) h)
def ytU : LA := ⟨[0, 0, 1, 1, 1], [0, 15, 16, 17], [], 1, [0]⟩
def ywA : List LA := [ytU]
abbrev yLa := dnF pP ywA (code Tryz.f187)
abbrev yNP := yaO pP ywA (code Tryz.f187)
abbrev yLb (p : List Nat) (K : List Kh) (R : VWP) := yaO pP ywA (code Tryz.f187) p K (ya7 pP Tryz.f187 [] R)
def ym1 (a6 : Addr) (a1 : OA) (a3 a2 : Nat) (a4 : Int) (bm0 : Nat) : Int × Int → List Value × List TB := fun (a5, a0) => ([(.pointer (some a6)), .slice a1 a3 a2, .int .i64 a4, .int .i64 a5], [⟨bm0, 3, [.int .i64 a0], true⟩])
abbrev yFI (a4 : Addr) (a0 : OA) (a2 a1 : Nat) (a3 : Int) (bm0 : Nat) (I : Nat → Int → Int → World → Prop) (m : Nat) : Kh := KG (ym1 a4 a0 a2 a1 a3 bm0) (U2 I) m
theorem yBY {I : Nat → Int → Int → World → Prop} (m' : Nat) (h1 : m' < m) (h2 : I m' i1 i2 w) : KS (yFI A0 q0 n0 n1 i0 n2 I m) (ym1 A0 q0 n0 n1 i0 n2 (i1, i2)) w := ⟨m', h1, _, rfl, rfl, h2⟩
theorem yBZ (I : Nat → Int → Int → World → Prop) (m0 : Nat) (h0 : I m0 i1 i2 w0)
 (hr : ∀ m a1 a0 w, I m a1 a0 w →
 w.heap[n2]? = some (.cells #[.int .i64 a0] 3) →
 brB (decide (a1 < i0)) (
 ixA q0 n0 a1 1 fun b3 =>
 yaT w b3 fun b4 =>
 ∀ a7, w.heap.size ≤ a7 →
 ∀ a9, Adv [] [a7] w a9 → a9.heap[n2]? = some (.cells #[.int .i64 a0] 3) →
 a9.heap[a7]? = some (.cells #[.string b4] 9) →
 Calls pP 186 #[(.pointer (some A0)), (.pointer (some ⟨a7, 0, none⟩))] a9 fun e b1 => e = .returned (.tuple #[]) ∧ ∃ b2, b1.heap[n2]? = some (.cells #[.int .i64 b2] 3) ∧ ∃ b5, b1.heap[a7]? = some (.cells #[.string b5] 9) ∧
 KS (yFI A0 q0 n0 n1 i0 n2 I m) (ym1 A0 q0 n0 n1 i0 n2 ((IntKind.wrap .i64 (a1 + 1)), b2)) b1)
 (
 R (.tuple #[]) w)) :
 yaJ ytU (yLa 396 [0, 0, 1, 1, 1]) (yLb [1, 1, 1, 0] [] R) (ym1 A0 q0 n0 n1 i0 n2 (i1, i2)) w0 :=
 lrule (ym1 A0 q0 n0 n1 i0 n2) (U2 I) h0 (by rintro m ⟨a1, a0⟩ w h; exact ⟨by kernel_rfl, by kernel_rfl, fun js => Eq.mpr (by kernel_rfl) (hr m a1 a0 w h)⟩)
theorem yLc (h :
 yaS w A1 fun a1 n2 c3 =>
 ∀ b4, w.heap.size ≤ b4 →
 ∀ w5, Adv [] [b4] w w5 → w5.heap[b4]? = some (.cells #[(.int .i64 (n2 : Int))] 3) →
 Calls pP 80 #[(.pointer (some A0)), (.pointer (some ⟨b4, 0, none⟩))] w5 fun e w6 => e = .returned (.tuple #[]) ∧ ∃ x7, w6.heap[b4]? = some (.cells #[.int .i64 x7] 3) ∧
 yaS w6 A1 fun a8 n9 a3 =>
 yaJ ytU (yLa 396 [0, 0, 1, 1, 1]) (yLb [1, 1, 1, 0] [] R) (ym1 A0 a8 n9 a3 (n9 : Int) b4 (0, x7)) w6) :
 CR pP 187 #[(.pointer (some A0)), (.pointer (some A1))] w R :=
 yaA Tryz.wide_mixed (an := ywA) Tryz.func187 rfl rfl (by kernel_rfl) rfl (Eq.mpr (by kernel_rfl) h)
theorem yLd (h :
 ∀ w1, Adv [] [] w w1 →
 Calls pP 186 #[(.pointer (some A1)), (.pointer (some A0))] w1 fun e w2 => e = .returned (.tuple #[]) ∧
 ∀ w3, Adv [] [] w2 w3 →
 Calls pP 80 #[(.pointer (some A1)), (.pointer (some (Addr.add A0 1)))] w3 fun e w4 => e = .returned (.tuple #[]) ∧
 R (.tuple #[]) w4) :
 CR pP 82 #[(.iface 139 (.pointer (some A1))), (.pointer (some A0))] w R :=
 yaA Tryz.wide_mixed (an := []) Tryz.func82 rfl rfl (by kernel_rfl) rfl (Eq.mpr (by kernel_rfl) h)
theorem yLe (h :
 ∀ w1, Adv [] [] w w1 →
 Calls pP 186 #[(.pointer (some A1)), (.pointer (some (Addr.add A0 9)))] w1 fun e w2 => e = .returned (.tuple #[]) ∧
 ∀ w3, Adv [] [] w2 w3 →
 Calls pP 186 #[(.pointer (some A1)), (.pointer (some (Addr.add A0 10)))] w3 fun e w4 => e = .returned (.tuple #[]) ∧
 R (.tuple #[]) w4) :
 CR pP 144 #[(.iface 139 (.pointer (some A1))), (.pointer (some A0))] w R :=
 yaA Tryz.wide_mixed (an := []) Tryz.func144 rfl rfl (by kernel_rfl) rfl (Eq.mpr (by kernel_rfl) h)
theorem yLf (h :
 yaF .i64 w A0 fun x1 =>
 brB (x1 == 0) (
 ∀ w2, Adv [] [] w w2 →
 Calls pP 186 #[(.pointer (some A1)), (.pointer (some (Addr.add A0 1)))] w2 fun e w3 => e = .returned (.tuple #[]) ∧
 ∀ w4, Adv [] [] w3 w4 →
 Calls pP 80 #[(.pointer (some A1)), (.pointer (some (Addr.add A0 3)))] w4 fun e w5 => e = .returned (.tuple #[]) ∧
 R (.tuple #[]) w5)
 (
 brB (x1 == 1) (
 brB (x1 == 1) (
 ∀ w6, Adv [] [] w w6 →
 Calls pP 80 #[(.pointer (some A1)), (.pointer (some (Addr.add A0 3)))] w6 fun e w7 => e = .returned (.tuple #[]) ∧
 R (.tuple #[]) w7)
 (
 brB (x1 == 2) (
 Calls pP 82 #[(.iface 139 (.pointer (some A1))), (.pointer (some (Addr.add A0 1)))] w fun e w8 => e = .returned (.tuple #[]) ∧
 ∀ w9, Adv [] [] w8 w9 →
 Calls pP 184 #[(.pointer (some A1)), (.pointer (some (Addr.add A0 5)))] w9 fun e f3 => e = .returned (.tuple #[]) ∧
 R (.tuple #[]) f3)
 (
 brB (x1 == 3) (
 Calls pP 82 #[(.iface 139 (.pointer (some A1))), (.pointer (some (Addr.add A0 1)))] w fun e f4 => e = .returned (.tuple #[]) ∧
 ∀ a9, Adv [] [] f4 a9 →
 Calls pP 80 #[(.pointer (some A1)), (.pointer (some (Addr.add A0 4)))] a9 fun e f5 => e = .returned (.tuple #[]) ∧
 ∀ b0, Adv [] [] f5 b0 →
 Calls pP 80 #[(.pointer (some A1)), (.pointer (some (Addr.add A0 3)))] b0 fun e f6 => e = .returned (.tuple #[]) ∧
 R (.tuple #[]) f6)
 (
 brB (x1 == 4) (
 Calls pP 82 #[(.iface 139 (.pointer (some A1))), (.pointer (some (Addr.add A0 1)))] w fun e f7 => e = .returned (.tuple #[]) ∧
 ∀ b1, Adv [] [] f7 b1 →
 Calls pP 80 #[(.pointer (some A1)), (.pointer (some (Addr.add A0 4)))] b1 fun e f8 => e = .returned (.tuple #[]) ∧
 R (.tuple #[]) f8)
 (
 brB (x1 == 5) (
 Calls pP 82 #[(.iface 139 (.pointer (some A1))), (.pointer (some (Addr.add A0 1)))] w fun e f9 => e = .returned (.tuple #[]) ∧
 R (.tuple #[]) f9)
 (
 brB (x1 == 6) (
 Calls pP 144 #[(.iface 139 (.pointer (some A1))), (.pointer (some A0))] w fun e g0 => e = .returned (.tuple #[]) ∧
 ∀ b2, Adv [] [] g0 b2 →
 Calls pP 80 #[(.pointer (some A1)), (.pointer (some (Addr.add A0 3)))] b2 fun e g1 => e = .returned (.tuple #[]) ∧
 ∀ b3, Adv [] [] g1 b3 →
 Calls pP 185 #[(.pointer (some A1)), (.pointer (some (Addr.add A0 12)))] b3 fun e g2 => e = .returned (.tuple #[]) ∧
 ∀ b4, Adv [] [] g2 b4 →
 Calls pP 187 #[(.pointer (some A1)), (.pointer (some (Addr.add A0 13)))] b4 fun e g3 => e = .returned (.tuple #[]) ∧
 R (.tuple #[]) g3)
 (
 brB (x1 == 7) (
 brB (x1 == 7) (
 Calls pP 144 #[(.iface 139 (.pointer (some A1))), (.pointer (some A0))] w fun e g4 => e = .returned (.tuple #[]) ∧
 ∀ b5, Adv [] [] g4 b5 →
 Calls pP 80 #[(.pointer (some A1)), (.pointer (some (Addr.add A0 11)))] b5 fun e g5 => e = .returned (.tuple #[]) ∧
 R (.tuple #[]) g5)
 (
 brB (x1 == 10) (
 Calls pP 144 #[(.iface 139 (.pointer (some A1))), (.pointer (some A0))] w fun e g6 => e = .returned (.tuple #[]) ∧
 ∀ b6, Adv [] [] g6 b6 →
 Calls pP 80 #[(.pointer (some A1)), (.pointer (some (Addr.add A0 11)))] b6 fun e g7 => e = .returned (.tuple #[]) ∧
 Calls pP 82 #[(.iface 139 (.pointer (some A1))), (.pointer (some (Addr.add A0 1)))] g7 fun e g8 => e = .returned (.tuple #[]) ∧
 ∀ b7, Adv [] [] g8 b7 →
 Calls pP 80 #[(.pointer (some A1)), (.pointer (some (Addr.add A0 4)))] b7 fun e g9 => e = .returned (.tuple #[]) ∧
 R (.tuple #[]) g9)
 (
 brB (x1 == 11) (
 ∀ b8, Adv [] [] w b8 →
 Calls pP 186 #[(.pointer (some A1)), (.pointer (some (Addr.add A0 9)))] b8 fun e h0 => e = .returned (.tuple #[]) ∧
 Calls pP 82 #[(.iface 139 (.pointer (some A1))), (.pointer (some (Addr.add A0 1)))] h0 fun e h1 => e = .returned (.tuple #[]) ∧
 R (.tuple #[]) h1)
 (
 R (.tuple #[]) w))))
 (
 brB (x1 == 8) (
 brB (x1 == 8) (
 Calls pP 144 #[(.iface 139 (.pointer (some A1))), (.pointer (some A0))] w fun e h2 => e = .returned (.tuple #[]) ∧
 ∀ b9, Adv [] [] h2 b9 →
 Calls pP 80 #[(.pointer (some A1)), (.pointer (some (Addr.add A0 11)))] b9 fun e h3 => e = .returned (.tuple #[]) ∧
 R (.tuple #[]) h3)
 (
 brB (x1 == 10) (
 Calls pP 144 #[(.iface 139 (.pointer (some A1))), (.pointer (some A0))] w fun e h4 => e = .returned (.tuple #[]) ∧
 ∀ c0, Adv [] [] h4 c0 →
 Calls pP 80 #[(.pointer (some A1)), (.pointer (some (Addr.add A0 11)))] c0 fun e h5 => e = .returned (.tuple #[]) ∧
 Calls pP 82 #[(.iface 139 (.pointer (some A1))), (.pointer (some (Addr.add A0 1)))] h5 fun e h6 => e = .returned (.tuple #[]) ∧
 ∀ c1, Adv [] [] h6 c1 →
 Calls pP 80 #[(.pointer (some A1)), (.pointer (some (Addr.add A0 4)))] c1 fun e h7 => e = .returned (.tuple #[]) ∧
 R (.tuple #[]) h7)
 (
 brB (x1 == 11) (
 ∀ c2, Adv [] [] w c2 →
 Calls pP 186 #[(.pointer (some A1)), (.pointer (some (Addr.add A0 9)))] c2 fun e h8 => e = .returned (.tuple #[]) ∧
 Calls pP 82 #[(.iface 139 (.pointer (some A1))), (.pointer (some (Addr.add A0 1)))] h8 fun e h9 => e = .returned (.tuple #[]) ∧
 R (.tuple #[]) h9)
 (
 R (.tuple #[]) w))))
 (
 brB (x1 == 9) (
 Calls pP 144 #[(.iface 139 (.pointer (some A1))), (.pointer (some A0))] w fun e u0 => e = .returned (.tuple #[]) ∧
 ∀ c3, Adv [] [] u0 c3 →
 Calls pP 80 #[(.pointer (some A1)), (.pointer (some (Addr.add A0 11)))] c3 fun e u1 => e = .returned (.tuple #[]) ∧
 R (.tuple #[]) u1)
 (
 brB (x1 == 10) (
 Calls pP 144 #[(.iface 139 (.pointer (some A1))), (.pointer (some A0))] w fun e u2 => e = .returned (.tuple #[]) ∧
 ∀ c4, Adv [] [] u2 c4 →
 Calls pP 80 #[(.pointer (some A1)), (.pointer (some (Addr.add A0 11)))] c4 fun e u3 => e = .returned (.tuple #[]) ∧
 Calls pP 82 #[(.iface 139 (.pointer (some A1))), (.pointer (some (Addr.add A0 1)))] u3 fun e u4 => e = .returned (.tuple #[]) ∧
 ∀ c5, Adv [] [] u4 c5 →
 Calls pP 80 #[(.pointer (some A1)), (.pointer (some (Addr.add A0 4)))] c5 fun e u5 => e = .returned (.tuple #[]) ∧
 R (.tuple #[]) u5)
 (
 brB (x1 == 11) (
 ∀ c6, Adv [] [] w c6 →
 Calls pP 186 #[(.pointer (some A1)), (.pointer (some (Addr.add A0 9)))] c6 fun e u6 => e = .returned (.tuple #[]) ∧
 Calls pP 82 #[(.iface 139 (.pointer (some A1))), (.pointer (some (Addr.add A0 1)))] u6 fun e u7 => e = .returned (.tuple #[]) ∧
 R (.tuple #[]) u7)
 (
 R (.tuple #[]) w))))))))))))
 (
 brB (x1 == 12) (
 ∀ c7, Adv [] [] w c7 →
 Calls pP 80 #[(.pointer (some A1)), (.pointer (some (Addr.add A0 3)))] c7 fun e u9 => e = .returned (.tuple #[]) ∧
 R (.tuple #[]) u9)
 (
 brB (x1 == 2) (
 Calls pP 82 #[(.iface 139 (.pointer (some A1))), (.pointer (some (Addr.add A0 1)))] w fun e v0 => e = .returned (.tuple #[]) ∧
 ∀ c8, Adv [] [] v0 c8 →
 Calls pP 184 #[(.pointer (some A1)), (.pointer (some (Addr.add A0 5)))] c8 fun e v1 => e = .returned (.tuple #[]) ∧
 R (.tuple #[]) v1)
 (
 brB (x1 == 3) (
 Calls pP 82 #[(.iface 139 (.pointer (some A1))), (.pointer (some (Addr.add A0 1)))] w fun e v2 => e = .returned (.tuple #[]) ∧
 ∀ c9, Adv [] [] v2 c9 →
 Calls pP 80 #[(.pointer (some A1)), (.pointer (some (Addr.add A0 4)))] c9 fun e v3 => e = .returned (.tuple #[]) ∧
 ∀ d0, Adv [] [] v3 d0 →
 Calls pP 80 #[(.pointer (some A1)), (.pointer (some (Addr.add A0 3)))] d0 fun e v4 => e = .returned (.tuple #[]) ∧
 R (.tuple #[]) v4)
 (
 brB (x1 == 4) (
 Calls pP 82 #[(.iface 139 (.pointer (some A1))), (.pointer (some (Addr.add A0 1)))] w fun e v5 => e = .returned (.tuple #[]) ∧
 ∀ d1, Adv [] [] v5 d1 →
 Calls pP 80 #[(.pointer (some A1)), (.pointer (some (Addr.add A0 4)))] d1 fun e v6 => e = .returned (.tuple #[]) ∧
 R (.tuple #[]) v6)
 (
 brB (x1 == 5) (
 Calls pP 82 #[(.iface 139 (.pointer (some A1))), (.pointer (some (Addr.add A0 1)))] w fun e v7 => e = .returned (.tuple #[]) ∧
 R (.tuple #[]) v7)
 (
 brB (x1 == 6) (
 Calls pP 144 #[(.iface 139 (.pointer (some A1))), (.pointer (some A0))] w fun e v8 => e = .returned (.tuple #[]) ∧
 ∀ d2, Adv [] [] v8 d2 →
 Calls pP 80 #[(.pointer (some A1)), (.pointer (some (Addr.add A0 3)))] d2 fun e v9 => e = .returned (.tuple #[]) ∧
 ∀ d3, Adv [] [] v9 d3 →
 Calls pP 185 #[(.pointer (some A1)), (.pointer (some (Addr.add A0 12)))] d3 fun e w0 => e = .returned (.tuple #[]) ∧
 ∀ d4, Adv [] [] w0 d4 →
 Calls pP 187 #[(.pointer (some A1)), (.pointer (some (Addr.add A0 13)))] d4 fun e w1 => e = .returned (.tuple #[]) ∧
 R (.tuple #[]) w1)
 (
 brB (x1 == 7) (
 brB (x1 == 7) (
 Calls pP 144 #[(.iface 139 (.pointer (some A1))), (.pointer (some A0))] w fun e x0 => e = .returned (.tuple #[]) ∧
 ∀ d5, Adv [] [] x0 d5 →
 Calls pP 80 #[(.pointer (some A1)), (.pointer (some (Addr.add A0 11)))] d5 fun e x2 => e = .returned (.tuple #[]) ∧
 R (.tuple #[]) x2)
 (
 brB (x1 == 10) (
 Calls pP 144 #[(.iface 139 (.pointer (some A1))), (.pointer (some A0))] w fun e x3 => e = .returned (.tuple #[]) ∧
 ∀ d6, Adv [] [] x3 d6 →
 Calls pP 80 #[(.pointer (some A1)), (.pointer (some (Addr.add A0 11)))] d6 fun e x4 => e = .returned (.tuple #[]) ∧
 Calls pP 82 #[(.iface 139 (.pointer (some A1))), (.pointer (some (Addr.add A0 1)))] x4 fun e x5 => e = .returned (.tuple #[]) ∧
 ∀ d7, Adv [] [] x5 d7 →
 Calls pP 80 #[(.pointer (some A1)), (.pointer (some (Addr.add A0 4)))] d7 fun e x6 => e = .returned (.tuple #[]) ∧
 R (.tuple #[]) x6)
 (
 brB (x1 == 11) (
 ∀ d8, Adv [] [] w d8 →
 Calls pP 186 #[(.pointer (some A1)), (.pointer (some (Addr.add A0 9)))] d8 fun e x7 => e = .returned (.tuple #[]) ∧
 Calls pP 82 #[(.iface 139 (.pointer (some A1))), (.pointer (some (Addr.add A0 1)))] x7 fun e x8 => e = .returned (.tuple #[]) ∧
 R (.tuple #[]) x8)
 (
 R (.tuple #[]) w))))
 (
 brB (x1 == 8) (
 brB (x1 == 8) (
 Calls pP 144 #[(.iface 139 (.pointer (some A1))), (.pointer (some A0))] w fun e x9 => e = .returned (.tuple #[]) ∧
 ∀ d9, Adv [] [] x9 d9 →
 Calls pP 80 #[(.pointer (some A1)), (.pointer (some (Addr.add A0 11)))] d9 fun e y0 => e = .returned (.tuple #[]) ∧
 R (.tuple #[]) y0)
 (
 brB (x1 == 10) (
 Calls pP 144 #[(.iface 139 (.pointer (some A1))), (.pointer (some A0))] w fun e y1 => e = .returned (.tuple #[]) ∧
 ∀ a2, Adv [] [] y1 a2 →
 Calls pP 80 #[(.pointer (some A1)), (.pointer (some (Addr.add A0 11)))] a2 fun e e0 => e = .returned (.tuple #[]) ∧
 Calls pP 82 #[(.iface 139 (.pointer (some A1))), (.pointer (some (Addr.add A0 1)))] e0 fun e e1 => e = .returned (.tuple #[]) ∧
 ∀ a3, Adv [] [] e1 a3 →
 Calls pP 80 #[(.pointer (some A1)), (.pointer (some (Addr.add A0 4)))] a3 fun e e2 => e = .returned (.tuple #[]) ∧
 R (.tuple #[]) e2)
 (
 brB (x1 == 11) (
 ∀ a4, Adv [] [] w a4 →
 Calls pP 186 #[(.pointer (some A1)), (.pointer (some (Addr.add A0 9)))] a4 fun e e3 => e = .returned (.tuple #[]) ∧
 Calls pP 82 #[(.iface 139 (.pointer (some A1))), (.pointer (some (Addr.add A0 1)))] e3 fun e e4 => e = .returned (.tuple #[]) ∧
 R (.tuple #[]) e4)
 (
 R (.tuple #[]) w))))
 (
 brB (x1 == 9) (
 Calls pP 144 #[(.iface 139 (.pointer (some A1))), (.pointer (some A0))] w fun e e5 => e = .returned (.tuple #[]) ∧
 ∀ a5, Adv [] [] e5 a5 →
 Calls pP 80 #[(.pointer (some A1)), (.pointer (some (Addr.add A0 11)))] a5 fun e e6 => e = .returned (.tuple #[]) ∧
 R (.tuple #[]) e6)
 (
 brB (x1 == 10) (
 Calls pP 144 #[(.iface 139 (.pointer (some A1))), (.pointer (some A0))] w fun e e7 => e = .returned (.tuple #[]) ∧
 ∀ a6, Adv [] [] e7 a6 →
 Calls pP 80 #[(.pointer (some A1)), (.pointer (some (Addr.add A0 11)))] a6 fun e e8 => e = .returned (.tuple #[]) ∧
 Calls pP 82 #[(.iface 139 (.pointer (some A1))), (.pointer (some (Addr.add A0 1)))] e8 fun e e9 => e = .returned (.tuple #[]) ∧
 ∀ a7, Adv [] [] e9 a7 →
 Calls pP 80 #[(.pointer (some A1)), (.pointer (some (Addr.add A0 4)))] a7 fun e f0 => e = .returned (.tuple #[]) ∧
 R (.tuple #[]) f0)
 (
 brB (x1 == 11) (
 ∀ a8, Adv [] [] w a8 →
 Calls pP 186 #[(.pointer (some A1)), (.pointer (some (Addr.add A0 9)))] a8 fun e f1 => e = .returned (.tuple #[]) ∧
 Calls pP 82 #[(.iface 139 (.pointer (some A1))), (.pointer (some (Addr.add A0 1)))] f1 fun e f2 => e = .returned (.tuple #[]) ∧
 R (.tuple #[]) f2)
 (
 R (.tuple #[]) w)))))))))))))) :
 CR pP 117 #[(.iface 139 (.pointer (some A1))), (.pointer (some A0))] w R :=
 yaA Tryz.wide_mixed (an := []) Tryz.func117 rfl rfl (by kernel_rfl) rfl (Eq.mpr (by kernel_rfl) h)
theorem yLg {b0 : BA} {b9 a6 : BA} (h :
 ∀ b1, w.heap.size ≤ b1 →
 ∀ w2, Adv [] [b1] w w2 →
 Calls pP 116 #[(.agg (Z1 i0 b0 i1 i2 i3 i4 i5 i6 q0 n0 n1 b9 a6 i7 B0 q1 n2 n3))] w2 fun e w3 => ∃ x4, e = .returned (.int .i64 x4) ∧ yaD [b1] w2 w3 ∧
 brB (x4 != 0) (
 R (.tuple #[(.string (⟨#[]⟩ : BA)), .int .i64 x4]) w3)
 (
 ∀ b5, w3.heap.size ≤ b5 →
 ∀ w6, Adv [] [b5] w3 w6 → w6.heap[b1]? = some (.cells (Z1 i0 b0 i1 i2 i3 i4 i5 i6 q0 n0 n1 b9 a6 i7 B0 q1 n2 n3) 48) →
 w6.heap[b5]? = some (.cells #[.pointer none, .slice none 0 0] 141) →
 Calls pP 80 #[(.pointer (some ⟨b5, 0, none⟩)), (.pointer (some ⟨b1, 0, none⟩))] w6 fun e w7 => e = .returned (.tuple #[]) ∧ ∃ x8 s9 g4 g5 g6 g7 g8 g9 c3 e1 d2 f3 f4 h0 g1 c4 e2 d3, w7.heap[b1]? = some (.cells (Z1 x8 s9 g4 g5 g6 g7 g8 g9 c3 e1 d2 f3 f4 h0 g1 c4 e2 d3) 48) ∧ ∃ f0 c5 e3 d4, w7.heap[b5]? = some (.cells #[.pointer f0, .slice c5 e3 d4] 141) ∧
 Calls pP 117 #[(.iface 139 (.pointer (some ⟨b5, 0, none⟩))), (.pointer (some ⟨b1, 0, none⟩))] w7 fun e c0 => e = .returned (.tuple #[]) ∧ ∃ h1 f5 h2 h3 h4 h5 h6 h7 c6 e4 d5 f6 f7 h8 g2 c7 e5 d6, c0.heap[b1]? = some (.cells (Z1 h1 f5 h2 h3 h4 h5 h6 h7 c6 e4 d5 f6 f7 h8 g2 c7 e5 d6) 48) ∧ ∃ f1 c8 e6 d7, c0.heap[b5]? = some (.cells #[.pointer f1, .slice c8 e6 d7] 141) ∧
 Calls pP 55 #[(.pointer (some ⟨b5, 0, none⟩))] c0 fun e c1 => ∃ c2, e = .returned (.string c2) ∧ ∃ h9 f8 u0 u1 u2 u3 u4 u5 c9 e7 d8 f9 g0 u6 g3 d0 e8 d9, c1.heap[b1]? = some (.cells (Z1 h9 f8 u0 u1 u2 u3 u4 u5 c9 e7 d8 f9 g0 u6 g3 d0 e8 d9) 48) ∧ ∃ f2 d1 e9 e0, c1.heap[b5]? = some (.cells #[.pointer f2, .slice d1 e9 e0] 141) ∧
 R (.tuple #[.string c2, .int .i64 0]) c1)) :
 CR pP 78 #[(.agg (Z1 i0 b0 i1 i2 i3 i4 i5 i6 q0 n0 n1 b9 a6 i7 B0 q1 n2 n3))] w R :=
 yaA Tryz.wide_mixed (an := []) Tryz.func78 rfl rfl (by kernel_rfl) rfl (Eq.mpr (by kernel_rfl) h)
end
def yg7 (b : Bool) : Nat := if b then 1 else 0
def yf2 (l : List ByteArray) : List UInt8 := yaL l.length ++ l.flatMap yb3
def ybI (o : POp) : List UInt8 :=
 if o.kind = 0 then yb3 o.part.t ++ yaL o.n.toNat
 else if o.kind = 1 then yaL o.n.toNat
 else if o.kind = 2 then yc4 o.part ++ ydS o.b
 else if o.kind = 3 then yc4 o.part ++ yaL o.off.toNat ++ yaL o.n.toNat
 else if o.kind = 4 then yc4 o.part ++ yaL o.off.toNat
 else if o.kind = 5 then yc4 o.part
 else if o.kind = 6 then yb3 o.g ++ yb3 o.m ++ yaL o.n.toNat ++ yaL (yg7 o.robin) ++ yf2 o.topics
 else if o.kind = 7 ∨ o.kind = 8 ∨ o.kind = 9 then yb3 o.g ++ yb3 o.m ++ yaL o.gen.toNat
 else if o.kind = 10 then yb3 o.g ++ yb3 o.m ++ yaL o.gen.toNat ++ yc4 o.part ++ yaL o.off.toNat
 else if o.kind = 11 then yb3 o.g ++ yc4 o.part
 else yaL o.n.toNat
def opB (o : POp) : List UInt8 := yaL o.kind.toNat ++ ybI o
structure OpGood (o : POp) : Prop where
 k : 0 ≤ o.kind ∧ o.kind ≤ 12
 nn : num o.part.n = true ∧ num o.n = true ∧ num o.off = true ∧ num o.gen = true
 nt : (ha o.kind 112 || ha o.kind 116) = true → ybR o.part.t = true
 ng : ha o.kind 103 = true → ybR o.g = true
 nm : ha o.kind 109 = true → ybR o.m = true
 nl : ha o.kind 108 = true → yb9 o.topics = true
 b : o.kind = 2 → ybG o.b = 0
 only : yeT o = true
theorem OpGood.of {o : POp} (h : opE o = 0) : OpGood o := by
 unfold opE at h
 split at h
 ·omega
 rename_i hk
 split at h
 ·omega
 rename_i hf
 split at h
 ·omega
 rename_i hn
 have hf := Bool.not_eq_false _ ▸ hf
 have hn := Bool.not_eq_false _ ▸ hn
 simp only [Bool.and_eq_true] at hn
 simp only [yrA, Bool.and_eq_true] at hf
 obtain ⟨⟨⟨⟨f1, f2⟩, f3⟩, f4⟩, f5⟩ := hf
 refine ⟨by omega, ⟨hn.1.1.1, hn.1.1.2, hn.1.2, hn.2⟩, fun g => ?_, fun g => ?_, fun g => ?_, fun g => ?_, fun g => ?_, f1⟩
 ·rw [g] at f2; simpa using f2
 ·rw [g] at f3; simpa using f3
 ·rw [g] at f4; simpa using f4
 ·rw [g] at f5; simpa using f5
 ·rw [if_pos g] at h; exact h
theorem ycA {s : ByteArray} (h : ybR s = true) : s.size ≤ 16 ∧ 1 ≤ s.size := by simp [ybR] at h; omega
theorem yeO {x : Int} (h : num x = true) : 0 ≤ x ∧ x ≤ 1099511627776 := by simpa [num] using h
structure WSt (w0 w : World) (B bw bo M : Nat) (l : List UInt8) (cs : List Value) : Prop where
 b : Bd B bw l w
 o : w.heap[bo]? = some (.cells cs.toArray 48)
 m : Mod [] w0 w
 hB : w0.heap.size ≤ B
 ne : bo ≠ bw
 len : l.length ≤ M
 hM : M ≤ 1000000
theorem WSt.adv {w0 w w' : World} {B bw bo M : Nat} {l : List UInt8} {cs : List Value} {N : List Nat} (H : WSt w0 w B bw bo M l cs) (A : Adv [] N w w') : WSt w0 w' B bw bo M l cs :=
 ⟨H.b.keep0 A.mod, A.mod.keep0 H.o, H.m.go0 A.mod (by simp), H.hB, H.ne, H.len, H.hM⟩
theorem WSt.size {w0 w : World} {B bw bo M : Nat} {l : List UInt8} {cs : List Value} (H : WSt w0 w B bw bo M l cs) : B ≤ w.heap.size := by
 have := H.b.lt; omega
theorem WSt.put {w0 w w' : World} {B bw bo M M' : Nat} {l l' : List UInt8} {cs : List Value} (H : WSt w0 w B bw bo M l cs) (hb : Bd B bw (l ++ l') w') (W : Wr B bw w w') (hl : l'.length + M ≤ M') (hM : M' ≤ 1000000) : WSt w0 w' B bw bo M' (l ++ l') cs :=
 ⟨hb, W.keep H.o H.ne (by decide), W.mod H.m H.hB, H.hB, H.ne, by rw [List.length_append]; have := H.len; omega, hM⟩
theorem WSt.cell {w0 w : World} {B bw bo M : Nat} {l : List UInt8} {cs : List Value} (H : WSt w0 w B bw bo M l cs) {i : Nat} {v : Value} (hc : cs[i]? = some v) : w.cell? ⟨bo, i, none⟩ = some v := by
 rw [yaY H.o]; simpa using hc
theorem ykZ {w0 w : World} {B bw bo M off : Nat} {l : List UInt8} {cs : List Value} {x : Int} {R : World → Prop} (H : WSt w0 w B bw bo M l cs) (hc : cs[off]? = some (.int .i64 x)) (hx : num x = true) (hM : M + 20 ≤ 1000000)
  (k : ∀ w', WSt w0 w' B bw bo (M + 20) (l ++ yaL x.toNat) cs → R w') :
  Calls pP 80 #[.pointer (some ⟨bw, 0, none⟩), .pointer (some ⟨bo, off, none⟩)] w fun e w' => e = .returned (.tuple #[]) ∧ R w' := by
 have hx := yeO hx
 obtain ⟨n, rfl⟩ := Int.eq_ofNat_of_zero_le hx.1
 have hl := H.len
 refine (yg5 H.b (by omega) H.size (x := n) (H.cell hc) (by omega)).mono ?_
 rintro e w' ⟨rfl, hb, W⟩
 have := yaM n (by omega)
 exact ⟨rfl, k w' (H.put hb W (by rw [Int.toNat_natCast]; omega) hM)⟩
theorem ygI {w0 w : World} {B bw bo M off : Nat} {l : List UInt8} {cs : List Value} {s : ByteArray} {R : World → Prop} (H : WSt w0 w B bw bo M l cs) (hc : cs[off]? = some (.string s)) (hs : s.size ≤ 16) (hM : M + 30 ≤ 1000000)
  (k : ∀ w', WSt w0 w' B bw bo (M + 30) (l ++ yb3 s) cs → R w') :
  Calls pP 186 #[.pointer (some ⟨bw, 0, none⟩), .pointer (some ⟨bo, off, none⟩)] w fun e w' => e = .returned (.tuple #[]) ∧ R w' := by
 have hl := H.len
 refine (yoA H.b (by omega) H.size (s := s) (H.cell hc) (by omega)).mono ?_
 rintro e w' ⟨rfl, hb, W⟩
 have := yaV s (by omega)
 exact ⟨rfl, k w' (H.put hb W (by omega) hM)⟩
theorem yxY {w0 w : World} {B bw bo M off : Nat} {l : List UInt8} {cs : List Value} {t : Bool} {R : World → Prop} (H : WSt w0 w B bw bo M l cs) (hc : cs[off]? = some (.bool t)) (hM : M + 20 ≤ 1000000)
  (k : ∀ w', WSt w0 w' B bw bo (M + 20) (l ++ yaL (yg7 t)) cs → R w') :
  Calls pP 185 #[.pointer (some ⟨bw, 0, none⟩), .pointer (some ⟨bo, off, none⟩)] w fun e w' => e = .returned (.tuple #[]) ∧ R w' := by
 refine yaQ (yK8 ?_)
 intro b1 f1 w1 A1
 have H1 := H.adv A1
 have l1 := A1.lt b1 (by simp)
 have hb0 := H.b.lt
 refine yaP (x := t) (H1.cell hc) ?_
 have hl := H.len
 have go : ∀ {w2 : World} {S : List Nat} (hS : ∀ i ∈ S, i = b1), Adv S [] w1 w2 → w2.heap[b1]? = some (.cells #[.int .i64 (yg7 t : Nat)] 3) → Calls pP 80 #[.pointer (some ⟨bw, 0, none⟩), .pointer (some ⟨b1, 0, none⟩)] w2 fun e w5 => e = .returned (.tuple #[]) ∧ ∃ x6 : Int, w5.heap[b1]? = some (.cells #[.int .i64 x6] 3) ∧ (Value.tuple #[] = Value.tuple #[] ∧ R w5) := fun {w2 S} hS A2 h2 => by
  have hne : b1 ≠ bw := by omega
  have hM2 : Mod [] w w2 := A1.mod.go0 A2.mod fun i hi => by rw [hS i hi]; exact f1
  have H2 : WSt w0 w2 B bw bo M l cs := ⟨H.b.keep0 hM2, hM2.keep0 H.o, H.m.go0 hM2 (by simp), H.hB, H.ne, H.len, H.hM⟩
  refine (yg5 H2.b (by omega) H2.size (a := ⟨b1, 0, none⟩) (x := yg7 t) (by rw [yaY h2]; rfl) (by cases t <;> decide)).mono ?_
  rintro e w3 ⟨rfl, hb, W⟩
  have := yaM (yg7 t) (by cases t <;> decide)
  exact ⟨rfl, _, W.keep h2 hne (by decide), rfl, k w3 (H2.put hb W (by omega) hM)⟩
 refine yaC (fun g => ?_) fun g => ?_
 ·subst g; exact fun w2 A2 h2 => go (by simp) A2 h2
 ·subst g; exact fun w2 A2 h2 => go (by simp) A2 h2
theorem ytV {w0 w : World} {B bw bo M : Nat} {l : List UInt8} {cs : List Value} {b : PBatch} {rs : Sl} {R : World → Prop} (H : WSt w0 w B bw bo M l cs) (h5 : cs[5]? = some (.int .i64 b.prod)) (h6 : cs[6]? = some (.int .i64 b.epoch)) (h7 : cs[7]? = some (.int .i64 b.seq)) (h8 : cs[8]? = some (.slice rs.a rs.n rs.c))
  (hs : ycD w0 4 yfW rs.a rs.n b.recs) (hE : ybG b = 0) (hM : M + 20000 ≤ 1000000) (k : ∀ w', WSt w0 w' B bw bo (M + 20000) (l ++ ydS b) cs → R w') :
  Calls pP 184 #[.pointer (some ⟨bw, 0, none⟩), .pointer (some ⟨bo, 5, none⟩)] w fun e w' => e = .returned (.tuple #[]) ∧ R w' := by
 have G := BatGood.of hE
 have hl := H.len
 have hbl := G.len
 have hr := G.lr
 refine yaQ (yK9 ?_)
 refine yaB (x := b.prod) (H.cell h5) (yaB (x := b.epoch) (H.cell h6) (yaB (x := b.seq) (H.cell h7) (ya5 (H.cell h8) ?_)))
 refine (yEe (b := b) (rs := rs) (hs.keep0 H.m) (by omega)).mono ?_
 rintro e w1 ⟨rfl, M1⟩
 have H1 : WSt w0 w1 B bw bo M l cs := ⟨H.b.keep0 M1, M1.keep0 H.o, H.m.go0 M1 (by simp), H.hB, H.ne, H.len, H.hM⟩
 refine ⟨_, _, rfl, ?_⟩
 rw [if_pos hE]
 refine (yDX H1.b (l2 := ydS b) (by omega) H1.size).mono ?_
 rintro e w2 ⟨rfl, hb, W⟩
 exact ⟨_, _, rfl, rfl, k w2 (H1.put hb W (by omega) hM)⟩
theorem ytW {w0 w : World} {B bw bo M : Nat} {l : List UInt8} {cs : List Value} {tl : List ByteArray} {ts : Sl} {R : World → Prop} (H : WSt w0 w B bw bo M l cs) (hc : cs[13]? = some (.slice ts.a ts.n ts.c))
  (hs : ycD w0 1 ykT ts.a ts.n tl) (hn : yb9 tl = true) (hM : M + 300 ≤ 1000000) (k : ∀ w', WSt w0 w' B bw bo (M + 300) (l ++ yf2 tl) cs → R w') :
  Calls pP 187 #[.pointer (some ⟨bw, 0, none⟩), .pointer (some ⟨bo, 13, none⟩)] w fun e w' => e = .returned (.tuple #[]) ∧ R w' := by
 have hl := H.len
 simp only [yb9, Bool.and_eq_true, decide_eq_true_eq] at hn
 obtain ⟨⟨⟨n1, n2⟩, n3⟩, _⟩ := hn
 have hnm : ∀ s ∈ tl, s.size ≤ 16 := fun s hs => (ycA (List.all_eq_true.1 n3 s hs)).1
 have e4 := hs.1
 refine yaQ (yLc ?_)
 refine ya5 (H.cell hc) ?_
 intro b1 f1 w1 A1 h1
 have H1 := H.adv A1
 have hb0 := H.b.lt
 refine (yg5 H1.b (by omega) H1.size (a := ⟨b1, 0, none⟩) (x := tl.length) (by rw [yaY h1, e4]; rfl) (by omega)).mono ?_
 rintro e w2 ⟨rfl, hb2, W2⟩
 have hv := yaM tl.length (by omega)
 have H2 := H1.put hb2 W2 (M' := M + 20) (by omega) (by omega)
 refine ⟨rfl, _, W2.keep h1 (by omega) (by decide), ?_⟩
 have h2 := W2.keep h1 (by omega) (by decide)
 refine ya5 (H2.cell hc) ?_
 refine yBZ (fun mm x y w' => ∃ k : Nat, x = k ∧ k ≤ tl.length ∧ WSt w0 w' B bw bo (M + 20 + k * 30) (l ++ yaL tl.length ++ (tl.take k).flatMap yb3) cs ∧ b1 < w'.heap.size ∧ mm = tl.length - k) tl.length ⟨0, rfl, by omega, by simpa using H2, yaK h2, rfl⟩ ?_
 rintro mm x y w3 ⟨k', rfl, hk, H3, hb13, rfl⟩ h3
 refine yaE (fun hlt => ?_) fun hge => ?_
 ·obtain ⟨s, hs'⟩ : ∃ s, tl[k']? = some s := ⟨_, List.getElem?_eq_getElem (by omega)⟩
  have hsz := hnm s (List.mem_of_getElem? hs')
  refine (hs.keep0 H3.m).ix hs' fun q hq => yaI (x := s) (by simpa [add_zero] using hq 0 _ rfl) ?_
  intro b4 f4 w4 A4 h4a h4
  have H4 := H3.adv A4
  have hb3 := H3.b.lt
  have hl4 := H4.len
  refine (yoA H4.b (by omega) H4.size (a := ⟨b4, 0, none⟩) (s := s) (by rw [yaY h4]; rfl) (by omega)).mono ?_
  rintro e w5 ⟨rfl, hb5, W5⟩
  have hp := yaV s (by omega)
  have H5 := H4.put hb5 W5 (M' := M + 20 + (k' + 1) * 30) (by omega) (by omega)
  have k5 := W5.keep h4a (by omega) (by decide)
  refine ⟨rfl, _, k5, _, W5.keep h4 (by omega) (by decide), ?_⟩
  refine yBY (tl.length - (k' + 1)) (by omega) ⟨k' + 1, by rw [yaH (by omega) (by omega)]; omega, by omega, ?_, yaK k5, rfl⟩
  rw [ybD hs', ← List.append_assoc]
  exact H5
 ·have hk' : k' = tl.length := by omega
  subst hk'
  rw [List.take_length, List.append_assoc] at H3
  exact ⟨rfl, k w3 ⟨H3.b, H3.o, H3.m, H3.hB, H3.ne, by have := H3.len; exact Nat.le_trans this (by omega), hM⟩⟩
theorem yxZ {w0 w : World} {B bw bo M : Nat} {l : List UInt8} {cs : List Value} {p : PPart} {R : World → Prop} (H : WSt w0 w B bw bo M l cs) (h1 : cs[1]? = some (.string p.t)) (h2 : cs[2]? = some (.int .i64 p.n)) (hs : p.t.size ≤ 16) (hx : num p.n = true) (hM : M + 50 ≤ 1000000)
  (k : ∀ w', WSt w0 w' B bw bo (M + 50) (l ++ yc4 p) cs → R w') :
  Calls pP 82 #[.iface 139 (.pointer (some ⟨bw, 0, none⟩)), .pointer (some ⟨bo, 1, none⟩)] w fun e w' => e = .returned (.tuple #[]) ∧ R w' := by
 refine yaQ (yLd ?_)
 intro w1 A1
 refine ygI (off := 1) (H.adv A1) h1 hs (by omega) fun w2 H2 => ?_
 intro w3 A3
 refine ykZ (off := 2) (H2.adv A3) h2 hx (by omega) fun w4 H4 => ⟨rfl, k w4 ?_⟩
 rw [List.append_assoc] at H4
 exact H4
theorem yrJ {w0 w : World} {B bw bo M : Nat} {l : List UInt8} {cs : List Value} {g m : ByteArray} {R : World → Prop} (H : WSt w0 w B bw bo M l cs) (h1 : cs[9]? = some (.string g)) (h2 : cs[10]? = some (.string m)) (hs : g.size ≤ 16) (hs2 : m.size ≤ 16) (hM : M + 60 ≤ 1000000)
  (k : ∀ w', WSt w0 w' B bw bo (M + 60) (l ++ yb3 g ++ yb3 m) cs → R w') :
  Calls pP 144 #[.iface 139 (.pointer (some ⟨bw, 0, none⟩)), .pointer (some ⟨bo, 0, none⟩)] w fun e w' => e = .returned (.tuple #[]) ∧ R w' := by
 refine yaQ (yLe ?_)
 intro w1 A1
 refine ygI (off := 9) (H.adv A1) h1 hs (by omega) fun w2 H2 => ?_
 intro w3 A3
 refine ygI (off := 10) (H2.adv A3) h2 hs2 (by omega) fun w4 H4 => ⟨rfl, k w4 H4⟩
theorem Mod.via {S T : List Nat} {a b c : World} (h : Mod S a b) (k : Mod T b c) (hs : ∀ i ∈ T, i < a.heap.size → i ∈ S) : Mod S a c :=
 (h.trans k).less fun i hi hl => by
  rcases List.mem_append.1 hi with h1 | h1
  ·exact h1
  ·exact hs i h1 hl
def yfS (l : List UInt8) (a : Nat) : Option (Nat × Nat) := (vg 0 (l.drop a)).map fun p => (p.1, a + p.2)
def ym2 (lim : Nat) (l : List UInt8) (a : Nat) : Option (ByteArray × Nat) := (tg lim (l.drop a)).map fun p => (p.1, a + p.2)
def yk0 (has : Bool) (lim : Nat) (l : List UInt8) (a : Nat) : Option (ByteArray × Nat) := if has then ym2 lim l a else some (⟨#[]⟩, a)
def yEf (l : List UInt8) (a : Nat) : Option (Nat × Nat) := match l[a]? with
 | none => none
 | some c => if c.toNat = 0 ∨ c.toNat = 1 ∨ c.toNat = 3 then some (c.toNat, a + 1) else none
def yrK (l : List UInt8) (a : Nat) : Option (PRec × Nat) :=
 (yEf l a).bind fun p => (yk0 (decide (p.1 % 2 = 1)) 64 l p.2).bind fun q => (yk0 (decide (p.1 / 2 % 2 = 0)) 512 l q.2).bind fun r =>
  some (⟨decide (p.1 % 2 = 1), q.1, decide (p.1 / 2 % 2 = 1), r.1⟩, r.2)
def many (α : Type) : Type := List UInt8 → Nat → Option (α × Nat)
def ycB {α : Type} (f : many α) (l : List UInt8) : Nat → Nat → Option (List α × Nat)
 | 0, a => some ([], a)
 | k + 1, a => (f l a).bind fun p => (ycB f l k p.2).map fun q => (p.1 :: q.1, q.2)
def hdA (l : List UInt8) (a : Nat) : Option (List Nat × Nat) := (ycB yfS l 4 a).bind fun p => match p.1 with
 | [x, y, z, k] => if x ≤ 1099511627776 ∧ y ≤ 1099511627776 ∧ z ≤ 1099511627776 ∧ 1 ≤ k ∧ k ≤ 16 then some p else none
 | _ => none
def yx0 (l : List UInt8) (a : Nat) : Option (PBatch × Nat) := (hdA l a).bind fun p => match p.1 with
 | [x, y, z, k] => (ycB yrK l k p.2).map fun q => (⟨(x : Nat), (y : Nat), (z : Nat), q.1⟩, q.2)
 | _ => none
theorem yaU {l x r : List UInt8} {a : Nat} (h : l.drop a = x ++ r) : l.drop (a + x.length) = r := by
 rw [← List.drop_drop, h, List.drop_left']
 rfl
theorem ygJ {l r : List UInt8} {a n : Nat} (hn : n < 18446744073709551616) (h : l.drop a = yaL n ++ r) : yfS l a = some (n, a + (yaL n).length) := by
 unfold yfS; rw [h, yA8 9 0 n r rfl (by simpa using hn) (by omega)]; rfl
theorem yfJ {l r : List UInt8} {a lim : Nat} {s : ByteArray} (hn : s.size ≤ lim) (hs : s.size < 18446744073709551616) (h : l.drop a = yb3 s ++ r) : ym2 lim l a = some (s, a + (yb3 s).length) := by
 unfold ym2; rw [h, yFo s r hn hs]; rfl
theorem yiH {α : Type} {f : many α} {enc : α → List UInt8} {l : List UInt8} : ∀ (xs : List α) (hf : ∀ x ∈ xs, ∀ a r, l.drop a = enc x ++ r → f l a = some (x, a + (enc x).length)) (a : Nat) (r : List UInt8),
  l.drop a = xs.flatMap enc ++ r → ycB f l xs.length a = some (xs, a + (xs.flatMap enc).length)
 | [], hf, a, r, h => rfl
 | x :: xs, hf, a, r, h => by
  rw [List.flatMap_cons, List.append_assoc] at h
  have h2 := yaU h
  simp only [List.length_cons, ycB, hf x (by simp) a _ h, Option.bind_some, yiH xs (fun y hy => hf y (by simp [hy])) _ r h2, Option.map_some, List.flatMap_cons, List.length_append]
  simp; omega
theorem ywB {l r : List UInt8} {a : Nat} {x : PRec} (hx : ygF x = 0) (h : l.drop a = ygW x ++ r) : yrK l a = some (x, a + (ygW x).length) := by
 obtain ⟨hk, hv⟩ := ygH hx
 obtain ⟨k, key, t, val⟩ := x
 have hk : key.size ≤ 64 := hk
 have hv : val.size ≤ 512 := hv
 have h0 : l[a]? = some (yg4 ⟨k, key, t, val⟩) := by
  have := congrArg List.head? h
  rw [List.head?_drop] at this
  simpa [ygW] using this
 have hf : yEf l a = some ((yg4 ⟨k, key, t, val⟩).toNat, a + 1) := by
  unfold yEf; rw [h0]
  cases k <;> cases t <;> simp [yg4]
 have h1 : l.drop (a + 1) = (if k then yb3 key else []) ++ ((if t then [] else yb3 val) ++ r) := by
  have e : ygW ⟨k, key, t, val⟩ ++ r = [yg4 ⟨k, key, t, val⟩] ++ ((if k then yb3 key else []) ++ ((if t then [] else yb3 val) ++ r)) := by simp [ygW]
  rw [e] at h
  exact yaU h
 have hkE : (k = false → key = ⟨#[]⟩) ∧ (t = true → k = true ∧ val = ⟨#[]⟩) := by
  unfold ygF yIC at hx
  constructor
  ·rintro rfl
   rw [yn3]
   by_cases hk0 : key.size = 0
   ·exact hk0
   ·simp [hk0] at hx
  ·rintro rfl
   rw [yn3]
   cases k with
   | false => simp at hx
   | true =>
    by_cases hv0 : val.size = 0
    ·exact ⟨rfl, hv0⟩
    ·simp [hv0] at hx
 unfold yrK
 rw [hf, Option.bind_some]
 cases k with
 | false =>
  cases t with
  | true => have := hkE.2 rfl; simp at this
  | false =>
   have hkey := hkE.1 rfl
   simp only [Bool.false_eq_true, if_false, List.nil_append] at h1
   have ht := yfJ (lim := 512) hv (by omega) h1
   subst hkey
   simp [yg4, yk0, ht, ygW]
   omega
 | true =>
  simp only [if_true] at h1
  have hk1 := yfJ (lim := 64) hk (by omega) h1
  cases t with
  | true =>
   obtain ⟨_, rfl⟩ := hkE.2 rfl
   simp [yg4, yk0, hk1, ygW]
   omega
  | false =>
   have h2 := yaU h1
   simp only [Bool.false_eq_true, if_false] at h2
   have ht := yfJ (lim := 512) hv (by omega) h2
   simp [yg4, yk0, hk1, ht, ygW]
   omega
theorem yEg {l r : List UInt8} {a : Nat} {b : PBatch} (hb : ybG b = 0) (h : l.drop a = ydS b ++ r) : yx0 l a = some (b, a + (ydS b).length) := by
 have G := BatGood.of hb
 have hhd := G.hd
 have hlr := G.lr
 unfold ydS at h
 rw [List.append_assoc] at h
 have h2 := yaU h
 have t1 := yiH (f := yfS) (enc := yaL) (ycH b) (fun x hx a r hh => ygJ (by have := G.le x hx; omega) hh) a _ h
 have t2 := yiH (f := yrK) (enc := ygW) b.recs (fun x hx a r hh => ywB (G.r x hx) hh) _ _ h2
 have e4 : (ycH b).length = 4 := rfl
 rw [e4] at t1
 unfold yx0 hdA
 rw [t1]
 simp only [Option.bind_some, ycH]
 rw [if_pos (by omega)]
 simp only [Option.bind_some]
 simp only [ycH] at t2
 rw [t2, Option.map_some]
 have e1 : ((b.prod.toNat : Nat) : Int) = b.prod := by omega
 have e2 : ((b.epoch.toNat : Nat) : Int) = b.epoch := by omega
 have e3 : ((b.seq.toNat : Nat) : Int) = b.seq := by omega
 rw [e1, e2, e3]
 show some (b, _) = _
 simp only [ydS, ycH, List.length_append, Nat.add_assoc]
theorem yoG {α : Type} {f : many α} {l : List UInt8} (hf : ∀ a x b, f l a = some (x, b) → a ≤ b ∧ b ≤ l.length) : ∀ (k a : Nat) {xs : List α} {b : Nat}, a ≤ l.length → ycB f l k a = some (xs, b) → a ≤ b ∧ b ≤ l.length ∧ xs.length = k
 | 0, a, xs, b, ha, h => by simp [ycB] at h; obtain ⟨rfl, rfl⟩ := h; simp; omega
 | k + 1, a, xs, b, ha, h => by
  simp only [ycB] at h
  cases hp : f l a with
  | none => rw [hp] at h; cases h
  | some p =>
   rw [hp, Option.bind_some] at h
   have h1 := hf a p.1 p.2 hp
   cases hq : ycB f l k p.2 with
   | none => rw [hq] at h; cases h
   | some q =>
    rw [hq] at h
    have h2 := yoG hf k p.2 h1.2 (xs := q.1) (b := q.2) hq
    simp at h
    obtain ⟨rfl, rfl⟩ := h
    simp; omega
theorem yg8 {l : List UInt8} {a n b : Nat} (h : yfS l a = some (n, b)) : a < b ∧ b ≤ l.length ∧ n < 18446744073709551616 := by
 unfold yfS at h
 cases hv : vg 0 (l.drop a) with
 | none => rw [hv] at h; cases h
 | some p =>
  have h1 := yq6 _ (n := p.1) (m := p.2) hv
  have h2 := yGS _ (n := p.1) (m := p.2) (by omega) hv
  rw [hv] at h
  rw [List.length_drop] at h1
  simp at h h2
  omega
theorem yoH {l : List UInt8} {a b lim : Nat} {t : ByteArray} (h : ym2 lim l a = some (t, b)) : a < b ∧ b ≤ l.length ∧ t.size ≤ lim := by
 unfold ym2 at h
 cases hv : tg lim (l.drop a) with
 | none => rw [hv] at h; cases h
 | some p =>
  have h1 := ymG (t := p.1) (m := p.2) hv
  rw [hv] at h
  rw [List.length_drop] at h1
  simp at h
  obtain ⟨rfl, rfl⟩ := h
  omega
def Rd (T : TypeId) (s : ByteArray) (br : Nat) (st : Option Nat) (w : World) : Prop :=
 ∃ (a : Nat) (e : Int), w.heap[br]? = some (.cells #[.string s, .int .i64 (a : Nat), .int .i64 e] T) ∧ a ≤ s.size ∧ st = if e = 0 then some a else none
theorem Rd.keep0 {T : TypeId} {s : ByteArray} {br : Nat} {st : Option Nat} {w w' : World} (h : Rd T s br st w) (M : Mod [] w w') : Rd T s br st w' := by
 obtain ⟨a, e, h1, h2, h3⟩ := h; exact ⟨a, e, M.keep0 h1, h2, h3⟩
theorem Rd.keep {T : TypeId} {s : ByteArray} {br : Nat} {st : Option Nat} {S : List Nat} {w w' : World} (h : Rd T s br st w) (M : Mod S w w') (hS : br ∉ S) : Rd T s br st w' := by
 obtain ⟨a, e, h1, h2, h3⟩ := h; exact ⟨a, e, M.keep h1 hS, h2, h3⟩
theorem Rd.lt {T : TypeId} {s : ByteArray} {br : Nat} {st : Option Nat} {w : World} (h : Rd T s br st w) : br < w.heap.size := by
 obtain ⟨a, e, h1, _⟩ := h; exact yaK h1
theorem stB {α β : Type} {st st1 : Option Nat} {c : α} {f : Nat → Option (α × Nat)} {g : α × Nat → Option β} (h : st.bind f = st1.map fun a => (c, a)) : (st.bind fun a => (f a).bind g) = st1.bind fun a => g (c, a) := by
 have e : (st.bind fun a => (f a).bind g) = (st.bind f).bind g := (Option.bind_assoc ..).symm
 rw [e, h]
 cases st1 <;> rfl
abbrev RT : TypeId := 222
abbrev RdC {α : Type} (T : TypeId) (s : ByteArray) (br : Nat) (w : World) (r : Option (α × Nat)) (w' : World) (v : α) : Prop := Mod [br] w w' ∧ ∃ st', Rd T s br st' w' ∧ r = st'.map fun a => (v, a)
theorem yx1 {s : ByteArray} {br : Nat} {st : Option Nat} {w : World} (hs : s.size ≤ 1000000000000) (h : Rd RT s br st w) :
  Calls pP 197 #[.pointer (some ⟨br, 0, none⟩)] w fun e w' => ∃ v, e = .returned v ∧ ∃ n : Nat, v = .int .u64 (n : Nat) ∧ n < 18446744073709551616 ∧ RdC RT s br w (st.bind (yfS s.data.toList)) w' n := by
 obtain ⟨a, e, h1, ha, rfl⟩ := h
 refine yKY h1 ?_
 refine yaC (fun g => ?_) fun g => ?_
 ·have g : e ≠ 0 := by simpa using g
  intro w1 A1 h2
  exact ⟨0, rfl, by omega, A1.mod.less (by simp), none, ⟨a, e, h2, ha, by rw [if_neg g]⟩, by rw [if_neg g]; rfl⟩
 have g : e = 0 := by simpa using g
 subst g
 intro w2 A2
 refine (yg6 s a hs ha w2).mono ?_
 rintro e w3 ⟨v, rfl, hv, rfl⟩
 rw [if_pos rfl]
 cases hg : vg 0 (s.data.toList.drop a) with
 | none =>
  rw [hg] at hv
  obtain ⟨e, he, rfl⟩ := hv
  refine ⟨_, _, _, rfl, yaD.of0 (Mod.refl _), fun w7 A7 h7 => ⟨0, rfl, by omega, (A2.mod.trans A7.mod).less (by simp), none, ⟨0, e, h7, by omega, by rw [if_neg he]⟩, ?_⟩⟩
  simp [yfS, hg]
 | some p =>
  rw [hg] at hv
  have hv : v = .tuple #[.int .u64 (p.1 : Nat), .int .i64 ((a + p.2 : Nat) : Int), .int .i64 0] := hv
  subst hv
  have h8 := yg8 (l := s.data.toList) (a := a) (n := p.1) (b := a + p.2) (by simp [yfS, hg])
  have el : s.data.toList.length = s.size := by simp
  refine ⟨_, _, _, rfl, yaD.of0 (Mod.refl _), fun w7 A7 h7 => ⟨p.1, rfl, h8.2.2, (A2.mod.trans A7.mod).less (by simp), some (a + p.2), ⟨a + p.2, 0, h7, by omega, rfl⟩, ?_⟩⟩
  simp [yfS, hg]
theorem ywC {s : ByteArray} {br : Nat} {st : Option Nat} {w : World} (hs : s.size ≤ 1000000000000) (h : Rd RT s br st w) (has : Bool) (lim : Nat) (hl : lim ≤ 1000000) :
  Calls pP 163 #[.pointer (some ⟨br, 0, none⟩), .bool has, .int .i64 (lim : Nat)] w fun e w' => ∃ v, e = .returned v ∧ ∃ t : ByteArray, v = .string t ∧ RdC RT s br w (st.bind (yk0 has lim s.data.toList)) w' t := by
 obtain ⟨a, e, h1, ha, rfl⟩ := h
 refine yKX h1 ?_
 refine yaC (fun g => ?_) fun g => ?_
 ·have g : e ≠ 0 := by simpa using g
  intro w1 A1 h2
  exact ⟨_, rfl, A1.mod.less (by simp), none, ⟨a, e, h2, ha, by rw [if_neg g]⟩, by rw [if_neg g]; rfl⟩
 have g : e = 0 := by simpa using g
 subst g
 rw [if_pos rfl]
 refine yaC (fun g => ?_) fun g => ?_
 ·have g : has = false := by simpa using g
  subst g
  intro w1 A1 h2
  exact ⟨_, rfl, A1.mod.less (by simp), some a, ⟨a, 0, h2, ha, by rw [if_pos rfl]⟩, rfl⟩
 have g : has = true := by simpa using g
 subst g
 intro w2 A2
 refine (yd1 s a lim hs ha (by omega) w2).mono ?_
 rintro e w3 ⟨v, rfl, hv, rfl⟩
 cases hg : tg lim (s.data.toList.drop a) with
 | none =>
  rw [hg] at hv
  obtain ⟨e, he, rfl⟩ := hv
  refine ⟨_, _, _, rfl, yaD.of0 (Mod.refl _), fun w7 A7 h7 => ⟨_, rfl, (A2.mod.trans A7.mod).less (by simp), none, ⟨0, e, h7, by omega, by rw [if_neg he]⟩, ?_⟩⟩
  simp [yk0, ym2, hg]
 | some p =>
  rw [hg] at hv
  have hv : v = .tuple #[.string p.1, .int .i64 ((a + p.2 : Nat) : Int), .int .i64 0] := hv
  subst hv
  have h8 := yoH (lim := lim) (l := s.data.toList) (a := a) (t := p.1) (b := a + p.2) (by simp [ym2, hg])
  have el : s.data.toList.length = s.size := by simp
  refine ⟨_, _, _, rfl, yaD.of0 (Mod.refl _), fun w7 A7 h7 => ⟨p.1, rfl, (A2.mod.trans A7.mod).less (by simp), some (a + p.2), ⟨a + p.2, 0, h7, by omega, rfl⟩, ?_⟩⟩
  simp [yk0, ym2, hg]
theorem yB0 {s : ByteArray} {br : Nat} {st : Option Nat} {w : World} (hs : s.size ≤ 1000000000000) (h : Rd RT s br st w) :
  Calls pP 162 #[.pointer (some ⟨br, 0, none⟩)] w fun e w' => ∃ v, e = .returned v ∧ ∃ c : Nat, v = .int .u8 (c : Nat) ∧ c < 256 ∧ RdC RT s br w (st.bind (yEf s.data.toList)) w' c := by
 obtain ⟨a, e, h1, ha, rfl⟩ := h
 refine yKZ h1 ?_
 refine yaC (fun g => ?_) fun g => ?_
 ·have g : e ≠ 0 := by simpa using g
  intro w1 A1 h2
  exact ⟨0, rfl, by omega, A1.mod.less (by simp), none, ⟨a, e, h2, ha, by rw [if_neg g]⟩, by rw [if_neg g]; rfl⟩
 have g : e = 0 := by simpa using g
 subst g
 rw [if_pos rfl]
 refine yaE (fun g => by omega) fun _ => yaE (fun g => by omega) fun _ => ?_
 refine yaC (fun g => ?_) fun g => ?_
 ·have g : (a : Int) = s.size := by simpa using g
  have g : a = s.size := by omega
  intro w1 A1 h2
  refine ⟨0, rfl, by omega, A1.mod.less (by simp), none, ⟨a, 10, h2, ha, by rw [if_neg (by decide)]⟩, ?_⟩
  simp [yEf, g]
 have g : ¬ (a : Int) = s.size := by simpa using g
 have hlt : a < s.size := by omega
 obtain ⟨c, hc, hcv⟩ := ycS hlt
 have hc8 := c.toNat_lt
 refine ⟨by omega, by omega, ?_⟩
 rw [Int.toNat_natCast, hcv]
 have ew : IntKind.wrap .i64 ((a : Int) + 1) = ((a + 1 : Nat) : Int) := by rw [yaH (by omega) (by omega)]; omega
 rw [ew]
 have ok : ∀ {w1}, Adv [br] [] w w1 → w1.heap[br]? = some (.cells #[.string s, .int .i64 ((a + 1 : Nat) : Int), .int .i64 0] RT) → (c.toNat = 0 ∨ c.toNat = 1 ∨ c.toNat = 3) → ∃ k : Nat, Value.int .u8 (c.toNat : Nat) = .int .u8 (k : Nat) ∧ k < 256 ∧ RdC RT s br w ((some a).bind (yEf s.data.toList)) w1 k := fun {w1} A1 h2 h3 => by
  refine ⟨c.toNat, rfl, by omega, A1.mod, some (a + 1), ⟨a + 1, 0, h2, by omega, rfl⟩, ?_⟩
  simp only [Option.bind_some, yEf, hc, if_pos h3]; rfl
 refine yaC (fun g0 => ?_) fun g0 => ?_
 ·have g0 : ¬ (c.toNat : Int) = 0 := by simpa using g0
  refine yaC (fun g1 => ?_) fun g1 => ?_
  ·have g1 : ¬ (c.toNat : Int) = 1 := by simpa using g1
   refine yaC (fun g2 => ?_) fun g2 => ?_
   ·have g2 : ¬ (c.toNat : Int) = 3 := by simpa using g2
    intro w1 A1 h2
    refine ⟨c.toNat, rfl, by omega, A1.mod, none, ⟨a + 1, 30, h2, by omega, by rw [if_neg (by decide)]⟩, ?_⟩
    simp only [Option.bind_some, yEf, hc]
    rw [if_neg (by omega)]; rfl
   ·have g2 : (c.toNat : Int) = 3 := by simpa using g2
    intro w1 A1 h2
    exact ok A1 h2 (by omega)
  ·have g1 : (c.toNat : Int) = 1 := by simpa using g1
   intro w1 A1 h2
   exact ok A1 h2 (by omega)
 ·have g0 : (c.toNat : Int) = 0 := by simpa using g0
  intro w1 A1 h2
  exact ok A1 h2 (by omega)
theorem yNQ : ∀ c : Fin 256, (yh9 .u8 ((c.val : Nat) : Int) 1 != 0) = decide (c.val % 2 = 1) := by decide +kernel
theorem yNR : ∀ c : Fin 256, (yh9 .u8 ((c.val : Nat) : Int) 2 != 0) = decide (c.val / 2 % 2 = 1) := by decide +kernel
theorem ym3 {s : ByteArray} {br : Nat} {st : Option Nat} {w : World} (hs : s.size ≤ 1000000000000) (h : Rd RT s br st w) :
  Calls pP 150 #[.pointer (some ⟨br, 0, none⟩)] w fun e w' => ∃ v, e = .returned v ∧ ∃ x : PRec, v = x.v ∧ RdC RT s br w (st.bind (yrK s.data.toList)) w' x := by
 have hlt := h.lt
 obtain ⟨a, e, h1, ha, hst⟩ := h
 refine yK0 h1 ?_
 intro b1 f1 w2 A2 h2
 have h : Rd RT s br st w2 := ⟨a, e, h2, ha, hst⟩
 have l1 := A2.lt b1 (by simp)
 have s2 := A2.mod.size
 refine (yB0 hs h).mono ?_
 rintro _ w3 ⟨_, rfl, c, rfl, hc, M3, st1, ⟨a3, e3, h3, ha3, he3⟩, q1⟩
 refine ⟨_, rfl, yaD.ofE M3 fun k hk hl he => by simp at hk ⊢ <;> omega, _, _, _, h3, ?_⟩
 have s3 := M3.size
 have b0 : (yh9 .u8 (c : Int) 1 != 0) = decide (c % 2 = 1) := yNQ ⟨c, hc⟩
 have b1' : (yh9 .u8 (c : Int) 2 != 0) = decide (c / 2 % 2 = 1) := yNR ⟨c, hc⟩
 have b2' : (!decide (c / 2 % 2 = 1)) = decide (c / 2 % 2 = 0) := by
  rw [Bool.eq_iff_iff]; simp
 rw [b0, b1', b2']
 intro b8 f8 w9 A9 h9
 have l9 := A9.lt b8 (by simp)
 have s9 := A9.mod.size
 refine (ywC hs (st := st1) ⟨a3, e3, h9, ha3, he3⟩ (decide (c % 2 = 1)) 64 (by omega)).mono ?_
 rintro _ w10 ⟨_, rfl, key, rfl, M10, st2, ⟨a10, e10, h10, ha10, he10⟩, q2⟩
 refine ⟨_, rfl, yaD.ofE M10 fun k hk hl he => by simp at hk ⊢ <;> omega, _, _, _, h10, ?_⟩
 intro w15 A15 h15
 refine (ywC hs (st := st2) ⟨a10, e10, h15, ha10, he10⟩ (decide (c / 2 % 2 = 0)) 512 (by omega)).mono ?_
 rintro _ w16 ⟨_, rfl, val, rfl, M16, st3, ⟨a16, e16, h16, ha16, he16⟩, q3⟩
 have s10 := M10.size
 have s15 := A15.mod.size
 refine ⟨_, rfl, yaD.ofE M16 fun k hk hl he => by simp at hk ⊢ <;> omega, _, _, _, h16, ?_⟩
 intro w21 A21 h21
 refine ⟨⟨decide (c % 2 = 1), key, decide (c / 2 % 2 = 1), val⟩, rfl, ?_, st3, ⟨a16, e16, h21, ha16, he16⟩, ?_⟩
 ·refine ((((((A2.mod.trans M3).trans A9.mod).trans M10).trans A15.mod).trans M16).trans A21.mod).less fun k hk hl => ?_
  simp at hk ⊢
  omega
 ·unfold yrK
  have r3 := stB (g := fun r : ByteArray × Nat => some ((⟨decide (c % 2 = 1), key, decide (c / 2 % 2 = 1), r.1⟩ : PRec), r.2)) q3
  have r2 := stB (g := fun q : ByteArray × Nat => (yk0 (decide (c / 2 % 2 = 0)) 512 s.data.toList q.2).bind fun r => some ((⟨decide (c % 2 = 1), q.1, decide (c / 2 % 2 = 1), r.1⟩ : PRec), r.2)) q2
  refine (stB q1).trans (r2.trans (r3.trans ?_))
  cases st3 <;> rfl
def ysC (xs : List Nat) (j : Nat) : Nat := min (xs.getD j 0)  1099511627776
theorem yMA (n : Nat) (h : n < 18446744073709551616) : IntKind.wrap .i64 (if (1099511627776 : Int) < (n : Nat) then 1099511627776 else (n : Nat)) = ((min n 1099511627776 : Nat) : Int) := by
 split
 ·rw [yaH (by omega) (by omega)]; omega
 ·rw [yaH (by omega) (by omega)]; omega
theorem stT {α : Type} {st st1 : Option Nat} {x : α} {xs : List α} {k : Nat} {f : many α} {l : List UInt8} (h : st.bind (f l) = st1.map fun a => (x, a)) :
  (st.bind fun a => (ycB f l (k + 1) a).map fun p => (xs ++ p.1, p.2)) = st1.bind fun a => (ycB f l k a).map fun p => ((xs ++ [x]) ++ p.1, p.2) := by
 have e : (st.bind fun a => (ycB f l (k + 1) a).map fun p => (xs ++ p.1, p.2)) = st.bind fun a => (f l a).bind fun q => (ycB f l k q.2).map fun p => ((xs ++ [q.1]) ++ p.1, p.2) := by
  cases st with
  | none => rfl
  | some a =>
   simp only [Option.bind_some, ycB]
   cases f l a with
   | none => rfl
   | some q =>
    simp only [Option.bind_some, Option.map_map]
    congr 1
    funext p
    simp
 rw [e, stB h]
theorem yNS {xs : List Nat} {n : Nat} (h : ((xs.take 3).any fun x => decide (x > 1099511627776)) = true) : true = (((xs ++ [n]).take 3).any fun x => decide (x > 1099511627776)) := by
 rw [List.take_append, List.any_append, h]; rfl
theorem yNT {xs : List Nat} {n : Nat} (h : ((xs.take 3).any fun x => decide (x > 1099511627776)) = false) (hl : xs.length < 3) : decide ((n : Int) > 1099511627776) = (((xs ++ [n]).take 3).any fun x => decide (x > 1099511627776)) := by
 rw [List.take_append, List.any_append, h]
 have e : 3 - xs.length = (2 - xs.length) + 1 := by omega
 rw [e, List.take_succ_cons]
 simp
 omega
theorem yMB {xs : List Nat} {n : Nat} (h : ((xs.take 3).any fun x => decide (x > 1099511627776)) = false) (hl : ¬ xs.length < 3) : false = (((xs ++ [n]).take 3).any fun x => decide (x > 1099511627776)) := by
 rw [List.take_append, List.any_append, h]
 have e : 3 - xs.length = 0 := by omega
 rw [e]; rfl
set_option maxHeartbeats 1000000 in
theorem ytX {s : ByteArray} {br : Nat} {st : Option Nat} {w : World} (hs : s.size ≤ 1000000000000) (h : Rd RT s br st w) :
  Calls pP 196 #[.pointer (some ⟨br, 0, none⟩)] w fun e w' => ∃ v, e = .returned v ∧ ∃ x y z k : Nat, v = .agg #[.int .i64 (x : Nat), .int .i64 (y : Nat), .int .i64 (z : Nat), .int .i64 (k : Nat)] ∧ k ≤  1099511627776 ∧
   Mod [br] w w' ∧ ∃ st', Rd RT s br st' w' ∧ (st.bind (hdA s.data.toList) = st'.map fun a => ([x, y, z, k], a)) ∧ (st' = none ∨ 1 ≤ k ∧ k ≤ 16) := by
 have hlt := h.lt
 obtain ⟨a, e, h1, ha, hst⟩ := h
 refine yK3 h1 ?_
 intro b1 f1 b2 f2 w2 A2 h2 h3
 have s2 := A2.mod.size
 refine yBV (fun mm big i s0 a0 e0 c0 c1 c2 c3 w' => ∃ (xs : List Nat) (a : Nat) (st1 : Option Nat), i = xs.length ∧ xs.length ≤ 4 ∧ s0 = s ∧ a0 = a ∧ a ≤ s.size ∧ (st1 = if e0 = 0 then some a else none) ∧ Mod [br] w w' ∧
  (st.bind (ycB yfS s.data.toList 4) = st1.bind fun a => (ycB yfS s.data.toList (4 - xs.length) a).map fun p => (xs ++ p.1, p.2)) ∧ big = ((xs.take 3).any fun x => decide (x >  1099511627776)) ∧
  c0 = (ysC xs 0 : Nat) ∧ c1 = (ysC xs 1 : Nat) ∧ c2 = (ysC xs 2 : Nat) ∧ c3 = (ysC xs 3 : Nat) ∧ mm = 4 - xs.length) 4
  ⟨[], a, st, rfl, by decide, rfl, rfl, ha, hst, A2.mod.less (by simp), by simp, rfl, rfl, rfl, rfl, rfl, rfl⟩ ?_
 rintro mm big i s0 a0 e0 c0 c1 c2 c3 w3 ⟨xs, a3, st3, rfl, hx4, rfl, rfl, ha3, he3, M3, q3, rfl, rfl, rfl, rfl, rfl, rfl⟩ h31 h32
 have s3 := M3.size
 refine yaE (fun hlt4 => ?_) fun hge => ?_
 ·have hlt4 : xs.length < 4 := by omega
  refine (yx1 hs (st := st3) ⟨a3, e0, h31, ha3, he3⟩).mono ?_
  rintro _ w4 ⟨_, rfl, n, rfl, hn, M4, st4, ⟨a4, e4, h4, ha4, he4⟩, q4⟩
  have s4 := M4.size
  have hk4 : 4 - xs.length = (4 - (xs.length + 1)) + 1 := by omega
  have q5 : st.bind (ycB yfS s0.data.toList 4) = st4.bind fun a => (ycB yfS s0.data.toList (4 - (xs ++ [n]).length) a).map fun p => ((xs ++ [n]) ++ p.1, p.2) := by
   rw [q3, hk4, List.length_append]
   exact stT q4
  by_cases hb20 : b2 = br
  ·omega
  refine ⟨_, rfl, yaD.ofE M4 fun k hk hl he => by simp at hk he ⊢; omega, _, _, _, h4, _, _, _, _, M4.keep h32 (by simpa using hb20), ?_⟩
  have h42 := M4.keep h32 (by simpa using hb20)
  have key : ∀ {F : ByteArray → Int → Int → Int → Int → Int → Int → World → Prop}, (∀ w5, w5.heap[br]? = some (.cells #[.string s0, (.int .i64 (a4 : Nat)), .int .i64 e4] 222) → Mod [br] w w5 →
    F s0 (a4 : Nat) e4 (ysC (xs ++ [n]) 0 : Nat) (ysC (xs ++ [n]) 1 : Nat) (ysC (xs ++ [n]) 2 : Nat) (ysC (xs ++ [n]) 3 : Nat) w5) → 0 ≤ (xs.length : Int) ∧ (xs.length : Int) < ((4 : Nat) : Int) ∧
   Go.Proofs.YtjellhflalbbmaaGreat.st w4 (Addr.add ⟨b2, 0, none⟩ (Int.toNat (xs.length : Int) * 1)) [(.int .i64 (IntKind.wrap .i64 (if 1099511627776 < (n : Int) then 1099511627776 else (n : Int))))] fun w12 => ya4 [br, b2] [(b1, 254)] [b1] w4 w12 ∧ ∃ (s13 : ByteArray) (x14 x15 : Int), w12.heap[br]? = some (.cells #[.string s13, .int .i64 x14, .int .i64 x15] 222) ∧ ∃ x16 x17 x18 x19 : Int, w12.heap[b2]? = some (.cells #[.int .i64 x16, .int .i64 x17, .int .i64 x18, .int .i64 x19] 254) ∧ F s13 x14 x15 x16 x17 x18 x19 w12 := by
   intro F hF
   refine ⟨by omega, by omega, ?_⟩
   rw [yMA n hn, ya6]
   have hi : 0 + Int.toNat (xs.length : Int) * 1 = xs.length := by omega
   rw [hi]
   refine ydX h42 rfl (by simp; omega) fun w5 h5 M5 => ⟨yaD.ofE M5 fun k hk hl he => by simp at hk he ⊢; omega, _, _, _, M5.keep h4 (by simpa using Ne.symm hb20), (ysC (xs ++ [n]) 0 : Nat), (ysC (xs ++ [n]) 1 : Nat), (ysC (xs ++ [n]) 2 : Nat), (ysC (xs ++ [n]) 3 : Nat), ?_, hF w5 (M5.keep h4 (by simpa using Ne.symm hb20)) ?_⟩
   ·rw [h5]
    rcases xs with _ | ⟨x0, _ | ⟨x1, _ | ⟨x2, _ | ⟨x3, xs⟩⟩⟩⟩
    ·rfl
    ·rfl
    ·rfl
    ·rfl
    ·simp at hlt4; omega
   ·exact (M3.via M4 (by simp)).via M5 (by simp; omega)
  refine yaC (fun g => ?_) fun g => yaE (fun g2 => ?_) fun g2 => ?_
  ·refine key fun w5 h5 M5 => ykY (4 - (xs ++ [n]).length) (by rw [List.length_append]; simp; omega) ⟨xs ++ [n], a4, st4, by rw [yaH (by omega) (by omega), List.length_append]; simp, by rw [List.length_append]; simp; omega, rfl, rfl, ha4, he4, M5, q5, ?_, rfl, rfl, rfl, rfl, rfl⟩
   exact yNS g
  ·refine key fun w5 h5 M5 => ykY (4 - (xs ++ [n]).length) (by rw [List.length_append]; simp; omega) ⟨xs ++ [n], a4, st4, by rw [yaH (by omega) (by omega), List.length_append]; simp, by rw [List.length_append]; simp; omega, rfl, rfl, ha4, he4, M5, q5, ?_, rfl, rfl, rfl, rfl, rfl⟩
   exact yNT g (by omega)
  ·refine key fun w5 h5 M5 => ykY (4 - (xs ++ [n]).length) (by rw [List.length_append]; simp; omega) ⟨xs ++ [n], a4, st4, by rw [yaH (by omega) (by omega), List.length_append]; simp, by rw [List.length_append]; simp; omega, rfl, rfl, ha4, he4, M5, q5, ?_, rfl, rfl, rfl, rfl, rfl⟩
   exact yMB g (by omega)
 ·have hx : xs.length = 4 := by omega
  obtain ⟨x, y, z, k, rfl⟩ : ∃ x y z k, xs = [x, y, z, k] := by
   rcases xs with _ | ⟨x0, _ | ⟨x1, _ | ⟨x2, _ | ⟨x3, _ | ⟨x4, xs⟩⟩⟩⟩⟩ <;> simp at hx
   exact ⟨_, _, _, _, rfl⟩
  have q4 : st.bind (hdA s0.data.toList) = st3.bind fun a => if x ≤ 1099511627776 ∧ y ≤ 1099511627776 ∧ z ≤ 1099511627776 ∧ 1 ≤ k ∧ k ≤ 16 then some ([x, y, z, k], a) else none := by
   unfold hdA
   have e := Option.bind_assoc (x := st) (f := ycB yfS s0.data.toList 4) (g := fun p => match p.1 with
    | [x, y, z, k] => if x ≤ 1099511627776 ∧ y ≤ 1099511627776 ∧ z ≤ 1099511627776 ∧ 1 ≤ k ∧ k ≤ 16 then some p else none
    | _ => none)
   refine e.symm.trans ?_
   rw [q3]
   cases st3 with
   | none => rfl
   | some a => rfl
  have hbig : (([x, y, z, k].take 3).any fun x => decide (x > 1099511627776)) = false → x ≤ 1099511627776 ∧ y ≤ 1099511627776 ∧ z ≤ 1099511627776 := by
   intro h; simp at h; omega
  have hbig2 : (([x, y, z, k].take 3).any fun x => decide (x > 1099511627776)) = true → ¬ (x ≤ 1099511627776 ∧ y ≤ 1099511627776 ∧ z ≤ 1099511627776) := by
   intro h; simp at h; omega
  have hcut : ∀ x, x ≤ 1099511627776 → min x 1099511627776 = x := fun x h => by omega
  have c0 : ysC [x, y, z, k] 0 = min x 1099511627776 := rfl
  have c1 : ysC [x, y, z, k] 1 = min y 1099511627776 := rfl
  have c2 : ysC [x, y, z, k] 2 = min z 1099511627776 := rfl
  have c3 : ysC [x, y, z, k] 3 = min k 1099511627776 := rfl
  rw [c0, c1, c2, c3]
  have bad : ∀ {w5 : World} {e5 : Int}, Mod [br] w w5 → w5.heap[br]? = some (.cells #[.string s0, (.int .i64 (a3 : Nat)), .int .i64 e5] RT) → e5 ≠ 0 → st3.bind (fun a => if x ≤ 1099511627776 ∧ y ≤ 1099511627776 ∧ z ≤ 1099511627776 ∧ 1 ≤ k ∧ k ≤ 16 then some ([x, y, z, k], a) else none) = none →
    ∃ x' y' z' k' : Nat, Value.agg #[.int .i64 ((min x 1099511627776 : Nat) : Int), .int .i64 ((min y 1099511627776 : Nat) : Int), .int .i64 ((min z 1099511627776 : Nat) : Int), .int .i64 ((min k 1099511627776 : Nat) : Int)] = .agg #[.int .i64 (x' : Nat), .int .i64 (y' : Nat), .int .i64 (z' : Nat), .int .i64 (k' : Nat)] ∧ k' ≤ 1099511627776 ∧
    Mod [br] w w5 ∧ ∃ st', Rd RT s0 br st' w5 ∧ (st.bind (hdA s0.data.toList) = st'.map fun a => ([x', y', z', k'], a)) ∧ (st' = none ∨ 1 ≤ k' ∧ k' ≤ 16) := fun {w5 e5} M5 h5 he hn => by
   refine ⟨min x 1099511627776, min y 1099511627776, min z 1099511627776, min k 1099511627776, rfl, by omega, M5, none, ⟨a3, e5, h5, ha3, by rw [if_neg he]⟩, ?_, .inl rfl⟩
   rw [q4, hn]; rfl
  refine yaC (fun g => ?_) fun g => ?_
  ·have g : e0 ≠ 0 := by simpa using g
   intro w5 A5 h5 _
   refine bad (M3.via A5.mod (by simp; omega)) h5 g ?_
   rw [he3, if_neg g]; rfl
  have g : e0 = 0 := by simpa using g
  rw [if_pos g] at he3
  subst he3
  refine yaC (fun g1 => ?_) fun g1 => ?_
  ·intro w5 A5 h5 _
   refine bad (M3.via A5.mod (by simp; omega)) h5 (by decide) ?_
   have := hbig2 g1
   exact if_neg (by omega)
  have g1 := hbig g1
  refine yaC (fun g2 => ?_) fun g2 => ?_
  ·have g2 : ((min k 1099511627776 : Nat) : Int) = 0 := by simpa using g2
   intro w5 A5 h5 _
   refine bad (M3.via A5.mod (by simp; omega)) h5 (by decide) ?_
   exact if_neg (by omega)
  have g2 : ¬ ((min k 1099511627776 : Nat) : Int) = 0 := by simpa using g2
  refine yaE (fun g3 => ?_) fun g3 => ?_
  ·intro w5 A5 h5 _
   refine bad (M3.via A5.mod (by simp; omega)) h5 (by decide) ?_
   exact if_neg (by omega)
  ·intro w5 A5 h5 _
   rw [hcut x (by omega), hcut y (by omega), hcut z (by omega), hcut k (by omega)]
   refine ⟨x, y, z, k, rfl, by omega, M3.via A5.mod (by simp; omega), some a3, ⟨a3, 0, by rw [h5, g], ha3, rfl⟩, ?_, .inr (by omega)⟩
   rw [q4]
   exact if_pos (by omega)
def yFJ (w0 w : World) : Option (PBatch × Nat) → Value → Prop
 | some (b, a), v => ∃ rs : Sl, v = .tuple #[b.v rs, .int .i64 (a : Nat), .int .i64 0] ∧ Row w w0.heap.size 99 4 yfW rs.a rs.n rs.c b.recs ∧ b.recs.length ≤ 16
 | none, v => ∃ e : Int, e ≠ 0 ∧ v = .tuple #[.agg #[.int .i64 0, .int .i64 0, .int .i64 0, .slice none 0 0], .int .i64 0, .int .i64 e]
set_option maxHeartbeats 1000000 in
theorem yEh (s : ByteArray) (a : Nat) (hs : s.size ≤ 1000000000000) (ha : a ≤ s.size) (w : World) :
  Calls pP 195 #[.string s, .int .i64 (a : Nat)] w fun e w' => ∃ v, e = .returned v ∧ yFJ w w' (yx0 s.data.toList a) v ∧ Mod [] w w' := by
 refine yK6 ?_
 intro b1 f1 b2 f2 w3 A3 h3
 have l3 := A3.lt b2 (by simp)
 have l31 := A3.lt b1 (by simp)
 have s3 := A3.mod.size
 refine (ytX (st := some a) hs ⟨a, 0, h3, ha, rfl⟩).mono ?_
 rintro _ w4 ⟨_, rfl, x, y, z, k, rfl, hk, M4, st4, ⟨a4, e4, h4, ha4, he4⟩, q4, hst4⟩
 have s4 := M4.size
 refine ⟨_, _, _, _, rfl, yaD.ofE M4 fun k hk hl he => by simp at hk he ⊢; omega, _, _, _, h4, ?_⟩
 intro b12 f12 b13 f13 w5 A5 h5
 have l13 := A5.lt b13 (by simp)
 have l12 := A5.lt b12 (by simp)
 have s5 := A5.mod.size
 have N5 : Mod [] w w5 := (A3.mod.go0 M4 (by simp; omega)).go0 A5.mod (by simp)
 have qb : yx0 s.data.toList a = (st4.bind fun a => (ycB yrK s.data.toList k a).map fun q => (q.1, q.2)).map fun q => (⟨(x : Nat), (y : Nat), (z : Nat), q.1⟩, q.2) := by
  have q4 : hdA s.data.toList a = st4.map fun a => ([x, y, z, k], a) := q4
  unfold yx0
  rw [q4]
  cases st4 with
  | none => rfl
  | some a =>
   show Option.map _ _ = _
   simp only [Option.bind_some, Option.map_map]
   congr 1
 refine yBX (fun mm i s0 a0 e0 ar nr cr w' => ∃ (j : Nat) (xs : List PRec) (a1 : Nat) (st1 : Option Nat), i = j ∧ xs.length = j ∧ j ≤ k ∧ (st1 = none ∨ k ≤ 16) ∧ s0 = s ∧ a0 = a1 ∧ a1 ≤ s.size ∧ (st1 = if e0 = 0 then some a1 else none) ∧ Mod [] w w' ∧ w5.heap.size ≤ w'.heap.size ∧
  (st4.bind fun a => (ycB yrK s.data.toList k a).map fun q => (q.1, q.2)) = (st1.bind fun a => (ycB yrK s.data.toList (k - j) a).map fun p => (xs ++ p.1, p.2)) ∧ Row w' w5.heap.size 99 4 yfW ar nr cr xs ∧ mm = k - j) k
  ⟨0, [], a4, st4, rfl, rfl, by omega, by rcases hst4 with h | h; exact .inl h; exact .inr h.2, rfl, rfl, ha4, he4, N5, Nat.le_refl _, by simp, Row.nil .., rfl⟩ ?_
 rintro mm i s0 a0 e0 ar nr cr w6 ⟨j, xs, a1, st1, rfl, hxl, hjk, hk16, rfl, rfl, ha1, he1, N6, s6, q6, hRow, rfl⟩ h6
 have fin0 : ∀ {w7}, e0 ≠ 0 → Adv [b1] [] w6 w7 → yFJ w w7 (yx0 s0.data.toList a) (.tuple #[.agg #[.int .i64 0, .int .i64 0, .int .i64 0, .slice none 0 0], .int .i64 0, .int .i64 e0]) ∧ Mod [] w w7 := fun {w7} he A7 => by
  rw [he1, if_neg he] at q6
  rw [qb, q6]
  exact ⟨⟨e0, he, rfl⟩, N6.go0 A7.mod (by simpa using f1)⟩
 refine yaC (fun g => ?_) fun g => ?_
 ·have g : e0 = 0 := by simpa using g
  subst g
  rw [if_pos rfl] at he1
  subst he1
  have hk16 : k ≤ 16 := by simpa using hk16
  refine yaE (fun hlt => ?_) fun hge => ?_
  ·have hlt : j < k := by omega
   intro w7 A7 h7
   have s7 := A7.mod.size
   refine (ym3 (st := some a1) hs ⟨a1, 0, h7, ha1, rfl⟩).mono ?_
   rintro _ w8 ⟨_, rfl, r, rfl, M8, st8, ⟨a8, e8, h8, ha8, he8⟩, q8⟩
   have s8 := M8.size
   refine ⟨_, _, _, _, rfl, yaD.ofE M8 fun k hk hl he => by simp at hk he ⊢; omega, _, _, _, h8, rfl, ?_⟩
   refine ycR fun b9 w9 c9 M9 f9 => ?_
   have s9 := M9.size
   have K9 : Mod [b2] w6 w9 := ((A7.mod.trans M8).trans M9).less fun i hi hl => by simp at hi ⊢; omega
   have hR9 : Row w9 w5.heap.size 99 4 yfW ar nr cr xs := hRow.keep K9 fun ad ha hk => by have := hRow.base ad ha; simp at hk; omega
   have N9 : Mod [] w w9 := N6.go0 K9 (by simpa using f2)
   obtain ⟨i0, hi, hz0, hz1, hz2⟩ := info_parts yKU
   refine ybQ (x := r) hR9 Tryz.underlying43 hi hz0 hz1 hz2 rfl (by decide) c9 rfl (yvD _) (by omega) (by unfold maxLen; omega) (by omega) fun a' c' w10 hR10 hM10 => ?_
   have M10 := hM10 _ (ybY ar)
   have s10 := M10.size
   have hrow := ya0 hR9
   refine ⟨yaD.of M10 fun b hb _ hb' => ?_, ?_⟩
   ·have := hrow b hb'; simp at hb; omega
   intro w11 A11 h11
   have s11 := A11.mod.size
   have hkj : k - j = (k - (j + 1)) + 1 := by omega
   refine yBW (k - (j + 1)) (by omega) ⟨j + 1, xs ++ [r], a8, st8, by rw [yaH (by omega) (by omega)]; omega, by rw [List.length_append, hxl]; rfl, by omega, .inr hk16, rfl, rfl, ha8, he8, ?_, by omega, ?_, ?_, rfl⟩
   ·refine (N9.go0 M10 fun i hi => ?_).go0 A11.mod (by simp; omega)
    have := hrow i hi; omega
   ·rw [q6, hkj]
    exact stT q8
   ·refine hR10.keep A11.mod fun ad ha hk => ?_
    have := hR10.base ad ha; simp at hk; omega
  ·refine yaC (fun g => absurd g (by decide)) fun _ => ⟨rfl, fun w7 A7 h7 => ?_⟩
   have hkj : k - j = 0 := by omega
   rw [qb, q6, hkj]
   refine ⟨⟨⟨ar, nr, cr⟩, rfl, ?_, ?_⟩, N6.go0 A7.mod (by simpa using f1)⟩
   ·show Row w7 w.heap.size 99 4 yfW ar nr cr (xs ++ [])
    rw [List.append_nil]
    refine (hRow.keep A7.mod fun ad ha hk => ?_).rebase (by omega)
    have := hRow.base ad ha; simp at hk; omega
   ·show (xs ++ []).length ≤ 16
    rw [List.append_nil]; omega
 ·have g : e0 ≠ 0 := by simpa using g
  refine yaC (fun _ => ⟨rfl, fun w7 A7 h7 => fin0 g A7⟩) fun g2 => absurd g (by simpa using g2)
section
set_option maxRecDepth 100000
variable {R : VWP} {w w0 : World} {m : Nat} {i0 i1 i2 i3 i4 i5 i6 i7 i8 i9 j0 j1 j2 j3 j4 j5 j6 j7 j8 j9 k0 k1 k2 k3 k4 k5 k6 k7 k8 k9 l0 l1 l2 l3 l4 l5 l6 l7 l8 l9 : Int} {s0 s1 s2 s3 s4 s5 s6 s7 s8 s9 t0 t1 t2 t3 t4 t5 t6 t7 t8 t9 : BA} {n0 n1 n2 n3 n4 n5 n6 n7 n8 n9 o0 o1 o2 o3 o4 o5 o6 o7 o8 o9 p0 p1 p2 p3 p4 p5 p6 p7 p8 p9 : Nat} {q0 q1 q2 q3 q4 q5 q6 q7 q8 q9 r0 r1 r2 r3 r4 r5 r6 r7 r8 r9 : OA} {B0 B1 B2 B3 B4 B5 B6 B7 B8 B9 : Bool} {M0 M1 M2 M3 : Option Nat} {V0 V1 V2 V3 V4 V5 : Value} {A0 A1 A2 : Addr}
theorem yLh {b0 : Nat} (hb : w.heap[b0]? = some (.cells (Z2 s0 i0 i1) 191)) (h :
 brB (i1 == 0) (
 ∀ w1, Adv [b0] [] w w1 → w1.heap[b0]? = some (.cells (Z2 s0 i2 i3) 191) →
 R (.bool (i3 == 0)) w1)
 (
 ∀ w2, Adv [] [] w w2 → w2.heap[b0]? = some (.cells (Z2 s0 i0 i1) 191) →
 R (.bool (i1 == 0)) w2)) :
 CR pP 127 (Z11 (some ⟨b0, 0, none⟩) i2 i3) w R :=
 yaZ Tryz.wide_mixed (an := []) Tryz.func127 rfl rfl (by kernel_rfl) rfl hb (Eq.mpr (by kernel_rfl) h)
theorem yLi {b0 : Nat} {o0 : BA} (hb : w.heap[b0]? = some (.cells (Z2 o0 i0 i1) 191)) (h :
 ∀ w1, Adv [] [] w w1 →
 Calls pP 86 #[.string o0, .int .i64 i0] w1 fun e w2 => ∃ x3 x4 x5, e = .returned (.tuple #[.int .u64 x3, .int .i64 x4, .int .i64 x5]) ∧ yaD [b0] w1 w2 ∧
 ∀ w6, Adv [] [] w2 w6 → w6.heap[b0]? = some (.cells (Z2 o0 i0 i1) 191) →
 Calls pP 127 (Z11 (some ⟨b0, 0, none⟩) x4 x5) w6 fun e w7 => ∃ t8, e = .returned (.bool t8) ∧ ∃ s9 a3 a4, w7.heap[b0]? = some (.cells (Z2 s9 a3 a4) 191) ∧
 brB t8 (
 st w7 A0 [(.int .i64 (IntKind.wrap .i64 x3))] fun a1 => ∃ a2 a5 a6, a1.heap[b0]? = some (.cells (Z2 a2 a5 a6) 191) ∧
 R (.tuple #[]) a1)
 (
 R (.tuple #[]) w7)) :
 CR pP 125 #[(.pointer (some ⟨b0, 0, none⟩)), (.pointer (some A0))] w R :=
 yaZ Tryz.wide_mixed (an := []) Tryz.func125 rfl rfl (by kernel_rfl) rfl hb (Eq.mpr (by kernel_rfl) h)
theorem yLj {b0 : Nat} {o0 : BA} (hb : w.heap[b0]? = some (.cells (Z2 o0 i0 i1) 191)) (h :
 ∀ w1, Adv [] [] w w1 →
 Calls pP 85 (Z2 o0 i0 16) w1 fun e w2 => ∃ s3 x4 x5, e = .returned (.tuple (Z2 s3 x4 x5)) ∧ yaD [b0] w1 w2 ∧
 ∀ w6, Adv [] [] w2 w6 → w6.heap[b0]? = some (.cells (Z2 o0 i0 i1) 191) →
 Calls pP 127 (Z11 (some ⟨b0, 0, none⟩) x4 x5) w6 fun e w7 => ∃ t8, e = .returned (.bool t8) ∧ ∃ s9 a3 a4, w7.heap[b0]? = some (.cells (Z2 s9 a3 a4) 191) ∧
 brB t8 (
 st w7 A0 [.string s3] fun a1 => ∃ a2 a5 a6, a1.heap[b0]? = some (.cells (Z2 a2 a5 a6) 191) ∧
 R (.tuple #[]) a1)
 (
 R (.tuple #[]) w7)) :
 CR pP 193 #[(.pointer (some ⟨b0, 0, none⟩)), (.pointer (some A0))] w R :=
 yaZ Tryz.wide_mixed (an := []) Tryz.func193 rfl rfl (by kernel_rfl) rfl hb (Eq.mpr (by kernel_rfl) h)
theorem yLk {b0 : Nat} {o0 : BA} (hb : w.heap[b0]? = some (.cells (Z2 o0 i0 i1) 191)) (h :
 ∀ b1, w.heap.size ≤ b1 →
 ∀ w2, Adv [] [b1] w w2 → w2.heap[b0]? = some (.cells (Z2 o0 i0 i1) 191) →
 w2.heap[b1]? = some (.cells #[.int .i64 0] 3) →
 Calls pP 125 #[(.pointer (some ⟨b0, 0, none⟩)), (.pointer (some ⟨b1, 0, none⟩))] w2 fun e w3 => e = .returned (.tuple #[]) ∧ ∃ s4 x5 x6, w3.heap[b0]? = some (.cells (Z2 s4 x5 x6) 191) ∧ ∃ x7, w3.heap[b1]? = some (.cells #[.int .i64 x7] 3) ∧
 st w3 A0 [(.bool (x7 != 0))] fun w8 => ∃ s9 a1 a2, w8.heap[b0]? = some (.cells (Z2 s9 a1 a2) 191) ∧ ∃ a3, w8.heap[b1]? = some (.cells #[.int .i64 a3] 3) ∧
 R (.tuple #[]) w8) :
 CR pP 192 #[(.pointer (some ⟨b0, 0, none⟩)), (.pointer (some A0))] w R :=
 yaZ Tryz.wide_mixed (an := []) Tryz.func192 rfl rfl (by kernel_rfl) rfl hb (Eq.mpr (by kernel_rfl) h)
theorem yLl {b0 : Nat} (hb : w.heap[b0]? = some (.cells (Z2 s0 i0 i1) 191)) (h :
 ((
 ∀ b1, w.heap.size ≤ b1 →
 ∀ w2, Adv [] [b1] w w2 →
 Calls pP 195 #[.string s0, .int .i64 i0] w2 fun e w3 => ∃ x4 x5 x6 a7 n8 c9 b8 b9, e = .returned (.tuple #[(.agg (Z8 x4 x5 x6 a7 n8 c9)), .int .i64 b8, .int .i64 b9]) ∧ yaD [b0, b1] w2 w3 ∧
 ∀ a4, Adv [b1] [] w3 a4 → a4.heap[b0]? = some (.cells (Z2 s0 i0 i1) 191) →
 Calls pP 127 (Z11 (some ⟨b0, 0, none⟩) b8 b9) a4 fun e a1 => ∃ b6, e = .returned (.bool b6) ∧ ya4 [b0] [(b1, 45)] [b1] a4 a1 ∧ ∃ c5 d0 d1, a1.heap[b0]? = some (.cells (Z2 c5 d0 d1) 191) ∧
 brB b6 (
 st a1 A0 [.int .i64 x4, .int .i64 x5, .int .i64 x6, .slice a7 n8 c9] fun a6 => ya4 [b0] [(b1, 45)] [b1] a1 a6 ∧ ∃ c6 d2 d3, a6.heap[b0]? = some (.cells (Z2 c6 d2 d3) 191) ∧
 R (.tuple #[]) a6)
 (
 R (.tuple #[]) a1)) ∧
 (
 ∀ a8, Adv [] [] w a8 →
 Calls pP 195 #[.string s0, .int .i64 i0] a8 fun e a9 => ∃ c0 c1 c2 b3 b5 b4 c3 c4, e = .returned (.tuple #[(.agg (Z8 c0 c1 c2 b3 b5 b4)), .int .i64 c3, .int .i64 c4]) ∧ yaD [b0] a8 a9 ∧
 ∀ a0, a9.heap.size ≤ a0 →
 ∀ a5, Adv [] [a0] a9 a5 → a5.heap[b0]? = some (.cells (Z2 s0 i0 i1) 191) →
 Calls pP 127 (Z11 (some ⟨b0, 0, none⟩) c3 c4) a5 fun e a2 => ∃ b7, e = .returned (.bool b7) ∧ ya4 [b0] [(a0, 45)] [a0] a5 a2 ∧ ∃ c7 d4 d5, a2.heap[b0]? = some (.cells (Z2 c7 d4 d5) 191) ∧
 brB b7 (
 st a2 A0 [.int .i64 c0, .int .i64 c1, .int .i64 c2, .slice b3 b5 b4] fun b2 => ya4 [b0] [(a0, 45)] [a0] a2 b2 ∧ ∃ c8 d6 d7, b2.heap[b0]? = some (.cells (Z2 c8 d6 d7) 191) ∧
 R (.tuple #[]) b2)
 (
 R (.tuple #[]) a2)))) :
 CR pP 191 #[(.pointer (some ⟨b0, 0, none⟩)), (.pointer (some A0))] w R :=
 yaZ Tryz.wide_mixed (an := []) Tryz.func191 rfl rfl (by kernel_rfl) rfl hb (Eq.mpr (by kernel_rfl) h)
def ytY : LA := ⟨[0, 0, 1, 1, 1], [0, 1, 4, 5], [(0, 0, 0), (4, 1, 0)], 2, [0, 1]⟩
def ywD : List LA := [ytY]
abbrev yLm := dnF pP ywD (code Tryz.f194)
abbrev yNU := yaO pP ywD (code Tryz.f194)
abbrev yLn (p : List Nat) (K : List Kh) (R : VWP) := yaO pP ywD (code Tryz.f194) p K (ya7 pP Tryz.f194 [0] R)
def ym4 (a4 : Addr) (bm0 bm1 : Nat) : Int × ByteArray × Int × Int × Int → List Value × List TB := fun (a5, a0, a1, a2, a3) => ([(.pointer (some ⟨bm0, 0, none⟩)), (.pointer (some a4)), (.pointer (some ⟨bm1, 0, none⟩)), .int .i64 a5], [⟨bm0, 191, [.string a0, .int .i64 a1, .int .i64 a2], true⟩, ⟨bm1, 3, [.int .i64 a3], true⟩])
abbrev yFK (a0 : Addr) (bm0 bm1 : Nat) (I : Nat → Int → ByteArray → Int → Int → Int → World → Prop) (m : Nat) : Kh := KG (ym4 a0 bm0 bm1) (U5 I) m
theorem yB1 {I : Nat → Int → ByteArray → Int → Int → Int → World → Prop} (m' : Nat) (h1 : m' < m) (h2 : I m' i0 s0 i1 i2 i3 w) : KS (yFK A0 n0 n1 I m) (ym4 A0 n0 n1 (i0, s0, i1, i2, i3)) w := ⟨m', h1, _, rfl, rfl, h2⟩
theorem yB2 (I : Nat → Int → ByteArray → Int → Int → Int → World → Prop) (m0 : Nat) (h0 : I m0 i0 s0 i1 i2 i3 w0)
 (hr : ∀ m b0 a2 a3 a0 a1 w, I m b0 a2 a3 a0 a1 w →
 w.heap[n0]? = some (.cells (Z2 a2 a3 a0) 191) →
 w.heap[n1]? = some (.cells #[.int .i64 a1] 3) →
 brB (decide (b0 < a1)) (
 brB (a0 == 0) (
 ∀ b8, w.heap.size ≤ b8 →
 ∀ w9, Adv [] [b8] w w9 → w9.heap[n0]? = some (.cells (Z2 a2 a3 a0) 191) →
 w9.heap[n1]? = some (.cells #[.int .i64 a1] 3) →
 w9.heap[b8]? = some (.cells #[(.string (⟨#[]⟩ : BA))] 9) →
 Calls pP 193 #[(.pointer (some ⟨n0, 0, none⟩)), (.pointer (some ⟨b8, 0, none⟩))] w9 fun e b1 => e = .returned (.tuple #[]) ∧ ∃ b5 c0 c1, b1.heap[n0]? = some (.cells (Z2 b5 c0 c1) 191) ∧ ∃ c2, b1.heap[n1]? = some (.cells #[.int .i64 c2] 3) ∧ ∃ b3, b1.heap[b8]? = some (.cells #[.string b3] 9) ∧
 ∀ a6, Adv [] [] b1 a6 → a6.heap[n0]? = some (.cells (Z2 b5 c0 c1) 191) →
 a6.heap[n1]? = some (.cells #[.int .i64 c2] 3) →
 a6.heap[b8]? = some (.cells #[.string b3] 9) →
 yaS a6 A0 fun c6 d1 c9 =>
 al a6 (.cells #[.string b3] 9) fun c8 b7 =>
 ycE pP (Builtin.append_ #[46, 46] 46 #[.slice c6 d1 c9, (.slice (some ⟨c8, 0, none⟩) 1 1)]) b7 fun c7 d2 d0 b9 => yaD [n0, n1, b8] b7 b9 ∧
 st b9 A0 [.slice c7 d2 d0] fun b2 => ∃ b6 c3 c4, b2.heap[n0]? = some (.cells (Z2 b6 c3 c4) 191) ∧ ∃ c5, b2.heap[n1]? = some (.cells #[.int .i64 c5] 3) ∧ ∃ d3, b2.heap[b8]? = some (.cells #[.string d3] 9) ∧
 KS (yFK A0 n0 n1 I m) (ym4 A0 n0 n1 ((IntKind.wrap .i64 (b0 + 1)), b6, c3, c4, c5)) b2)
 (
 R (.tuple #[]) w))
 (
 R (.tuple #[]) w)) :
 yaJ ytY (yLm 396 [0, 0, 1, 1, 1]) (yLn [1, 1, 1, 0] [] R) (ym4 A0 n0 n1 (i0, s0, i1, i2, i3)) w0 :=
 lrule (ym4 A0 n0 n1) (U5 I) h0 (by rintro m ⟨b0, a2, a3, a0, a1⟩ w h; exact ⟨by kernel_rfl, by kernel_rfl, fun js => Eq.mpr (by kernel_rfl) (hr m b0 a2 a3 a0 a1 w h)⟩)
theorem yLo {b0 : Nat} {o0 : BA} (hb : w.heap[b0]? = some (.cells (Z2 o0 i0 i1) 191)) (h :
 ∀ b1, w.heap.size ≤ b1 →
 ∀ w2, Adv [] [b1] w w2 → w2.heap[b0]? = some (.cells (Z2 o0 i0 i1) 191) →
 w2.heap[b1]? = some (.cells #[.int .i64 0] 3) →
 Calls pP 125 #[(.pointer (some ⟨b0, 0, none⟩)), (.pointer (some ⟨b1, 0, none⟩))] w2 fun e w3 => e = .returned (.tuple #[]) ∧ ∃ s4 x5 x6, w3.heap[b0]? = some (.cells (Z2 s4 x5 x6) 191) ∧ ∃ x7, w3.heap[b1]? = some (.cells #[.int .i64 x7] 3) ∧
 yaJ ytY (yLm 396 [0, 0, 1, 1, 1]) (yLn [1, 1, 1, 0] [] R) (ym4 A0 b0 b1 (0, s4, x5, x6, x7)) w3) :
 CR pP 194 #[(.pointer (some ⟨b0, 0, none⟩)), (.pointer (some A0))] w R :=
 yaZ Tryz.wide_mixed (an := ywD) Tryz.func194 rfl rfl (by kernel_rfl) rfl hb (Eq.mpr (by kernel_rfl) h)
theorem yFL (h :
 ∀ w1, Adv [] [] w w1 →
 Calls pP 193 #[(.pointer (some A1)), (.pointer (some A0))] w1 fun e w2 => e = .returned (.tuple #[]) ∧
 ∀ w3, Adv [] [] w2 w3 →
 Calls pP 125 #[(.pointer (some A1)), (.pointer (some (Addr.add A0 1)))] w3 fun e w4 => e = .returned (.tuple #[]) ∧
 R (.tuple #[]) w4) :
 CR pP 82 #[(.iface 189 (.pointer (some A1))), (.pointer (some A0))] w R :=
 yaA Tryz.wide_mixed (an := []) Tryz.func82 rfl rfl (by kernel_rfl) rfl (Eq.mpr (by kernel_rfl) h)
theorem yLp (h :
 ∀ w1, Adv [] [] w w1 →
 Calls pP 193 #[(.pointer (some A1)), (.pointer (some (Addr.add A0 9)))] w1 fun e w2 => e = .returned (.tuple #[]) ∧
 ∀ w3, Adv [] [] w2 w3 →
 Calls pP 193 #[(.pointer (some A1)), (.pointer (some (Addr.add A0 10)))] w3 fun e w4 => e = .returned (.tuple #[]) ∧
 R (.tuple #[]) w4) :
 CR pP 144 #[(.iface 189 (.pointer (some A1))), (.pointer (some A0))] w R :=
 yaA Tryz.wide_mixed (an := []) Tryz.func144 rfl rfl (by kernel_rfl) rfl (Eq.mpr (by kernel_rfl) h)
theorem yLq (h :
 yaF .i64 w A0 fun x1 =>
 brB (x1 == 0) (
 ∀ w2, Adv [] [] w w2 →
 Calls pP 193 #[(.pointer (some A1)), (.pointer (some (Addr.add A0 1)))] w2 fun e w3 => e = .returned (.tuple #[]) ∧
 ∀ w4, Adv [] [] w3 w4 →
 Calls pP 125 #[(.pointer (some A1)), (.pointer (some (Addr.add A0 3)))] w4 fun e w5 => e = .returned (.tuple #[]) ∧
 R (.tuple #[]) w5)
 (
 brB (x1 == 1) (
 brB (x1 == 1) (
 ∀ w6, Adv [] [] w w6 →
 Calls pP 125 #[(.pointer (some A1)), (.pointer (some (Addr.add A0 3)))] w6 fun e w7 => e = .returned (.tuple #[]) ∧
 R (.tuple #[]) w7)
 (
 brB (x1 == 2) (
 Calls pP 82 #[(.iface 189 (.pointer (some A1))), (.pointer (some (Addr.add A0 1)))] w fun e w8 => e = .returned (.tuple #[]) ∧
 ∀ w9, Adv [] [] w8 w9 →
 Calls pP 191 #[(.pointer (some A1)), (.pointer (some (Addr.add A0 5)))] w9 fun e f3 => e = .returned (.tuple #[]) ∧
 R (.tuple #[]) f3)
 (
 brB (x1 == 3) (
 Calls pP 82 #[(.iface 189 (.pointer (some A1))), (.pointer (some (Addr.add A0 1)))] w fun e f4 => e = .returned (.tuple #[]) ∧
 ∀ a9, Adv [] [] f4 a9 →
 Calls pP 125 #[(.pointer (some A1)), (.pointer (some (Addr.add A0 4)))] a9 fun e f5 => e = .returned (.tuple #[]) ∧
 ∀ b0, Adv [] [] f5 b0 →
 Calls pP 125 #[(.pointer (some A1)), (.pointer (some (Addr.add A0 3)))] b0 fun e f6 => e = .returned (.tuple #[]) ∧
 R (.tuple #[]) f6)
 (
 brB (x1 == 4) (
 Calls pP 82 #[(.iface 189 (.pointer (some A1))), (.pointer (some (Addr.add A0 1)))] w fun e f7 => e = .returned (.tuple #[]) ∧
 ∀ b1, Adv [] [] f7 b1 →
 Calls pP 125 #[(.pointer (some A1)), (.pointer (some (Addr.add A0 4)))] b1 fun e f8 => e = .returned (.tuple #[]) ∧
 R (.tuple #[]) f8)
 (
 brB (x1 == 5) (
 Calls pP 82 #[(.iface 189 (.pointer (some A1))), (.pointer (some (Addr.add A0 1)))] w fun e f9 => e = .returned (.tuple #[]) ∧
 R (.tuple #[]) f9)
 (
 brB (x1 == 6) (
 Calls pP 144 #[(.iface 189 (.pointer (some A1))), (.pointer (some A0))] w fun e g0 => e = .returned (.tuple #[]) ∧
 ∀ b2, Adv [] [] g0 b2 →
 Calls pP 125 #[(.pointer (some A1)), (.pointer (some (Addr.add A0 3)))] b2 fun e g1 => e = .returned (.tuple #[]) ∧
 ∀ b3, Adv [] [] g1 b3 →
 Calls pP 192 #[(.pointer (some A1)), (.pointer (some (Addr.add A0 12)))] b3 fun e g2 => e = .returned (.tuple #[]) ∧
 ∀ b4, Adv [] [] g2 b4 →
 Calls pP 194 #[(.pointer (some A1)), (.pointer (some (Addr.add A0 13)))] b4 fun e g3 => e = .returned (.tuple #[]) ∧
 R (.tuple #[]) g3)
 (
 brB (x1 == 7) (
 brB (x1 == 7) (
 Calls pP 144 #[(.iface 189 (.pointer (some A1))), (.pointer (some A0))] w fun e g4 => e = .returned (.tuple #[]) ∧
 ∀ b5, Adv [] [] g4 b5 →
 Calls pP 125 #[(.pointer (some A1)), (.pointer (some (Addr.add A0 11)))] b5 fun e g5 => e = .returned (.tuple #[]) ∧
 R (.tuple #[]) g5)
 (
 brB (x1 == 10) (
 Calls pP 144 #[(.iface 189 (.pointer (some A1))), (.pointer (some A0))] w fun e g6 => e = .returned (.tuple #[]) ∧
 ∀ b6, Adv [] [] g6 b6 →
 Calls pP 125 #[(.pointer (some A1)), (.pointer (some (Addr.add A0 11)))] b6 fun e g7 => e = .returned (.tuple #[]) ∧
 Calls pP 82 #[(.iface 189 (.pointer (some A1))), (.pointer (some (Addr.add A0 1)))] g7 fun e g8 => e = .returned (.tuple #[]) ∧
 ∀ b7, Adv [] [] g8 b7 →
 Calls pP 125 #[(.pointer (some A1)), (.pointer (some (Addr.add A0 4)))] b7 fun e g9 => e = .returned (.tuple #[]) ∧
 R (.tuple #[]) g9)
 (
 brB (x1 == 11) (
 ∀ b8, Adv [] [] w b8 →
 Calls pP 193 #[(.pointer (some A1)), (.pointer (some (Addr.add A0 9)))] b8 fun e h0 => e = .returned (.tuple #[]) ∧
 Calls pP 82 #[(.iface 189 (.pointer (some A1))), (.pointer (some (Addr.add A0 1)))] h0 fun e h1 => e = .returned (.tuple #[]) ∧
 R (.tuple #[]) h1)
 (
 R (.tuple #[]) w))))
 (
 brB (x1 == 8) (
 brB (x1 == 8) (
 Calls pP 144 #[(.iface 189 (.pointer (some A1))), (.pointer (some A0))] w fun e h2 => e = .returned (.tuple #[]) ∧
 ∀ b9, Adv [] [] h2 b9 →
 Calls pP 125 #[(.pointer (some A1)), (.pointer (some (Addr.add A0 11)))] b9 fun e h3 => e = .returned (.tuple #[]) ∧
 R (.tuple #[]) h3)
 (
 brB (x1 == 10) (
 Calls pP 144 #[(.iface 189 (.pointer (some A1))), (.pointer (some A0))] w fun e h4 => e = .returned (.tuple #[]) ∧
 ∀ c0, Adv [] [] h4 c0 →
 Calls pP 125 #[(.pointer (some A1)), (.pointer (some (Addr.add A0 11)))] c0 fun e h5 => e = .returned (.tuple #[]) ∧
 Calls pP 82 #[(.iface 189 (.pointer (some A1))), (.pointer (some (Addr.add A0 1)))] h5 fun e h6 => e = .returned (.tuple #[]) ∧
 ∀ c1, Adv [] [] h6 c1 →
 Calls pP 125 #[(.pointer (some A1)), (.pointer (some (Addr.add A0 4)))] c1 fun e h7 => e = .returned (.tuple #[]) ∧
 R (.tuple #[]) h7)
 (
 brB (x1 == 11) (
 ∀ c2, Adv [] [] w c2 →
 Calls pP 193 #[(.pointer (some A1)), (.pointer (some (Addr.add A0 9)))] c2 fun e h8 => e = .returned (.tuple #[]) ∧
 Calls pP 82 #[(.iface 189 (.pointer (some A1))), (.pointer (some (Addr.add A0 1)))] h8 fun e h9 => e = .returned (.tuple #[]) ∧
 R (.tuple #[]) h9)
 (
 R (.tuple #[]) w))))
 (
 brB (x1 == 9) (
 Calls pP 144 #[(.iface 189 (.pointer (some A1))), (.pointer (some A0))] w fun e u0 => e = .returned (.tuple #[]) ∧
 ∀ c3, Adv [] [] u0 c3 →
 Calls pP 125 #[(.pointer (some A1)), (.pointer (some (Addr.add A0 11)))] c3 fun e u1 => e = .returned (.tuple #[]) ∧
 R (.tuple #[]) u1)
 (
 brB (x1 == 10) (
 Calls pP 144 #[(.iface 189 (.pointer (some A1))), (.pointer (some A0))] w fun e u2 => e = .returned (.tuple #[]) ∧
 ∀ c4, Adv [] [] u2 c4 →
 Calls pP 125 #[(.pointer (some A1)), (.pointer (some (Addr.add A0 11)))] c4 fun e u3 => e = .returned (.tuple #[]) ∧
 Calls pP 82 #[(.iface 189 (.pointer (some A1))), (.pointer (some (Addr.add A0 1)))] u3 fun e u4 => e = .returned (.tuple #[]) ∧
 ∀ c5, Adv [] [] u4 c5 →
 Calls pP 125 #[(.pointer (some A1)), (.pointer (some (Addr.add A0 4)))] c5 fun e u5 => e = .returned (.tuple #[]) ∧
 R (.tuple #[]) u5)
 (
 brB (x1 == 11) (
 ∀ c6, Adv [] [] w c6 →
 Calls pP 193 #[(.pointer (some A1)), (.pointer (some (Addr.add A0 9)))] c6 fun e u6 => e = .returned (.tuple #[]) ∧
 Calls pP 82 #[(.iface 189 (.pointer (some A1))), (.pointer (some (Addr.add A0 1)))] u6 fun e u7 => e = .returned (.tuple #[]) ∧
 R (.tuple #[]) u7)
 (
 R (.tuple #[]) w))))))))))))
 (
 brB (x1 == 12) (
 ∀ c7, Adv [] [] w c7 →
 Calls pP 125 #[(.pointer (some A1)), (.pointer (some (Addr.add A0 3)))] c7 fun e u9 => e = .returned (.tuple #[]) ∧
 R (.tuple #[]) u9)
 (
 brB (x1 == 2) (
 Calls pP 82 #[(.iface 189 (.pointer (some A1))), (.pointer (some (Addr.add A0 1)))] w fun e v0 => e = .returned (.tuple #[]) ∧
 ∀ c8, Adv [] [] v0 c8 →
 Calls pP 191 #[(.pointer (some A1)), (.pointer (some (Addr.add A0 5)))] c8 fun e v1 => e = .returned (.tuple #[]) ∧
 R (.tuple #[]) v1)
 (
 brB (x1 == 3) (
 Calls pP 82 #[(.iface 189 (.pointer (some A1))), (.pointer (some (Addr.add A0 1)))] w fun e v2 => e = .returned (.tuple #[]) ∧
 ∀ c9, Adv [] [] v2 c9 →
 Calls pP 125 #[(.pointer (some A1)), (.pointer (some (Addr.add A0 4)))] c9 fun e v3 => e = .returned (.tuple #[]) ∧
 ∀ d0, Adv [] [] v3 d0 →
 Calls pP 125 #[(.pointer (some A1)), (.pointer (some (Addr.add A0 3)))] d0 fun e v4 => e = .returned (.tuple #[]) ∧
 R (.tuple #[]) v4)
 (
 brB (x1 == 4) (
 Calls pP 82 #[(.iface 189 (.pointer (some A1))), (.pointer (some (Addr.add A0 1)))] w fun e v5 => e = .returned (.tuple #[]) ∧
 ∀ d1, Adv [] [] v5 d1 →
 Calls pP 125 #[(.pointer (some A1)), (.pointer (some (Addr.add A0 4)))] d1 fun e v6 => e = .returned (.tuple #[]) ∧
 R (.tuple #[]) v6)
 (
 brB (x1 == 5) (
 Calls pP 82 #[(.iface 189 (.pointer (some A1))), (.pointer (some (Addr.add A0 1)))] w fun e v7 => e = .returned (.tuple #[]) ∧
 R (.tuple #[]) v7)
 (
 brB (x1 == 6) (
 Calls pP 144 #[(.iface 189 (.pointer (some A1))), (.pointer (some A0))] w fun e v8 => e = .returned (.tuple #[]) ∧
 ∀ d2, Adv [] [] v8 d2 →
 Calls pP 125 #[(.pointer (some A1)), (.pointer (some (Addr.add A0 3)))] d2 fun e v9 => e = .returned (.tuple #[]) ∧
 ∀ d3, Adv [] [] v9 d3 →
 Calls pP 192 #[(.pointer (some A1)), (.pointer (some (Addr.add A0 12)))] d3 fun e w0 => e = .returned (.tuple #[]) ∧
 ∀ d4, Adv [] [] w0 d4 →
 Calls pP 194 #[(.pointer (some A1)), (.pointer (some (Addr.add A0 13)))] d4 fun e w1 => e = .returned (.tuple #[]) ∧
 R (.tuple #[]) w1)
 (
 brB (x1 == 7) (
 brB (x1 == 7) (
 Calls pP 144 #[(.iface 189 (.pointer (some A1))), (.pointer (some A0))] w fun e x0 => e = .returned (.tuple #[]) ∧
 ∀ d5, Adv [] [] x0 d5 →
 Calls pP 125 #[(.pointer (some A1)), (.pointer (some (Addr.add A0 11)))] d5 fun e x2 => e = .returned (.tuple #[]) ∧
 R (.tuple #[]) x2)
 (
 brB (x1 == 10) (
 Calls pP 144 #[(.iface 189 (.pointer (some A1))), (.pointer (some A0))] w fun e x3 => e = .returned (.tuple #[]) ∧
 ∀ d6, Adv [] [] x3 d6 →
 Calls pP 125 #[(.pointer (some A1)), (.pointer (some (Addr.add A0 11)))] d6 fun e x4 => e = .returned (.tuple #[]) ∧
 Calls pP 82 #[(.iface 189 (.pointer (some A1))), (.pointer (some (Addr.add A0 1)))] x4 fun e x5 => e = .returned (.tuple #[]) ∧
 ∀ d7, Adv [] [] x5 d7 →
 Calls pP 125 #[(.pointer (some A1)), (.pointer (some (Addr.add A0 4)))] d7 fun e x6 => e = .returned (.tuple #[]) ∧
 R (.tuple #[]) x6)
 (
 brB (x1 == 11) (
 ∀ d8, Adv [] [] w d8 →
 Calls pP 193 #[(.pointer (some A1)), (.pointer (some (Addr.add A0 9)))] d8 fun e x7 => e = .returned (.tuple #[]) ∧
 Calls pP 82 #[(.iface 189 (.pointer (some A1))), (.pointer (some (Addr.add A0 1)))] x7 fun e x8 => e = .returned (.tuple #[]) ∧
 R (.tuple #[]) x8)
 (
 R (.tuple #[]) w))))
 (
 brB (x1 == 8) (
 brB (x1 == 8) (
 Calls pP 144 #[(.iface 189 (.pointer (some A1))), (.pointer (some A0))] w fun e x9 => e = .returned (.tuple #[]) ∧
 ∀ d9, Adv [] [] x9 d9 →
 Calls pP 125 #[(.pointer (some A1)), (.pointer (some (Addr.add A0 11)))] d9 fun e y0 => e = .returned (.tuple #[]) ∧
 R (.tuple #[]) y0)
 (
 brB (x1 == 10) (
 Calls pP 144 #[(.iface 189 (.pointer (some A1))), (.pointer (some A0))] w fun e y1 => e = .returned (.tuple #[]) ∧
 ∀ a2, Adv [] [] y1 a2 →
 Calls pP 125 #[(.pointer (some A1)), (.pointer (some (Addr.add A0 11)))] a2 fun e e0 => e = .returned (.tuple #[]) ∧
 Calls pP 82 #[(.iface 189 (.pointer (some A1))), (.pointer (some (Addr.add A0 1)))] e0 fun e e1 => e = .returned (.tuple #[]) ∧
 ∀ a3, Adv [] [] e1 a3 →
 Calls pP 125 #[(.pointer (some A1)), (.pointer (some (Addr.add A0 4)))] a3 fun e e2 => e = .returned (.tuple #[]) ∧
 R (.tuple #[]) e2)
 (
 brB (x1 == 11) (
 ∀ a4, Adv [] [] w a4 →
 Calls pP 193 #[(.pointer (some A1)), (.pointer (some (Addr.add A0 9)))] a4 fun e e3 => e = .returned (.tuple #[]) ∧
 Calls pP 82 #[(.iface 189 (.pointer (some A1))), (.pointer (some (Addr.add A0 1)))] e3 fun e e4 => e = .returned (.tuple #[]) ∧
 R (.tuple #[]) e4)
 (
 R (.tuple #[]) w))))
 (
 brB (x1 == 9) (
 Calls pP 144 #[(.iface 189 (.pointer (some A1))), (.pointer (some A0))] w fun e e5 => e = .returned (.tuple #[]) ∧
 ∀ a5, Adv [] [] e5 a5 →
 Calls pP 125 #[(.pointer (some A1)), (.pointer (some (Addr.add A0 11)))] a5 fun e e6 => e = .returned (.tuple #[]) ∧
 R (.tuple #[]) e6)
 (
 brB (x1 == 10) (
 Calls pP 144 #[(.iface 189 (.pointer (some A1))), (.pointer (some A0))] w fun e e7 => e = .returned (.tuple #[]) ∧
 ∀ a6, Adv [] [] e7 a6 →
 Calls pP 125 #[(.pointer (some A1)), (.pointer (some (Addr.add A0 11)))] a6 fun e e8 => e = .returned (.tuple #[]) ∧
 Calls pP 82 #[(.iface 189 (.pointer (some A1))), (.pointer (some (Addr.add A0 1)))] e8 fun e e9 => e = .returned (.tuple #[]) ∧
 ∀ a7, Adv [] [] e9 a7 →
 Calls pP 125 #[(.pointer (some A1)), (.pointer (some (Addr.add A0 4)))] a7 fun e f0 => e = .returned (.tuple #[]) ∧
 R (.tuple #[]) f0)
 (
 brB (x1 == 11) (
 ∀ a8, Adv [] [] w a8 →
 Calls pP 193 #[(.pointer (some A1)), (.pointer (some (Addr.add A0 9)))] a8 fun e f1 => e = .returned (.tuple #[]) ∧
 Calls pP 82 #[(.iface 189 (.pointer (some A1))), (.pointer (some (Addr.add A0 1)))] f1 fun e f2 => e = .returned (.tuple #[]) ∧
 R (.tuple #[]) f2)
 (
 R (.tuple #[]) w)))))))))))))) :
 CR pP 117 #[(.iface 189 (.pointer (some A1))), (.pointer (some A0))] w R :=
 yaA Tryz.wide_mixed (an := []) Tryz.func117 rfl rfl (by kernel_rfl) rfl (Eq.mpr (by kernel_rfl) h)
theorem yLr {c6 : BA} (h :
 ∀ b1, w.heap.size ≤ b1 →
 ∀ b2, w.heap.size ≤ b2 →
 ∀ b3, w.heap.size ≤ b3 →
 ∀ w4, Adv [] [b3, b2, b1] w w4 → w4.heap[b2]? = some (.cells (Z2 c6 0 0) 191) →
 w4.heap[b3]? = some (.cells (Z1 0 ByteArray.empty 0 0 0 0 0 0 none 0 0 ByteArray.empty ByteArray.empty 0 false none 0 0) 48) →
 Calls pP 125 #[(.pointer (some ⟨b2, 0, none⟩)), (.pointer (some ⟨b3, 0, none⟩))] w4 fun e w5 => e = .returned (.tuple #[]) ∧ ya4 [b2, b3] [(b1, 48)] [b1] w4 w5 ∧ ∃ s6 x7 x8, w5.heap[b2]? = some (.cells (Z2 s6 x7 x8) 191) ∧ ∃ x9 f7 g2 g3 g4 g5 g6 g7 f1 f5 f3 f8 f9 g8 g1 f2 f6 f4, w5.heap[b3]? = some (.cells (Z1 x9 f7 g2 g3 g4 g5 g6 g7 f1 f5 f3 f8 f9 g8 g1 f2 f6 f4) 48) ∧
 Calls pP 117 #[(.iface 189 (.pointer (some ⟨b2, 0, none⟩))), (.pointer (some ⟨b3, 0, none⟩))] w5 fun e c4 => e = .returned (.tuple #[]) ∧ ya4 [b2, b3] [(b1, 48)] [b1] w5 c4 ∧ ∃ g0 g9 h0, c4.heap[b2]? = some (.cells (Z2 g0 g9 h0) 191) ∧ ∃ e2 d7 e3 e4 e5 e6 e7 e8 d1 d5 d3 d8 d9 e9 e1 d2 d6 d4, c4.heap[b3]? = some (.cells (Z1 e2 d7 e3 e4 e5 e6 e7 e8 d1 d5 d3 d8 d9 e9 e1 d2 d6 d4) 48) ∧
 Calls pP 78 #[(.agg (Z1 e2 d7 e3 e4 e5 e6 e7 e8 d1 d5 d3 d8 d9 e9 e1 d2 d6 d4))] c4 fun e a0 => ∃ e0 f0, e = .returned (.tuple #[.string e0, .int .i64 f0]) ∧ ya4 [b2, b3] [(b1, 48)] [b1] c4 a0 ∧ ∃ c3 c5 b4, a0.heap[b2]? = some (.cells (Z2 c3 c5 b4) 191) ∧ ∃ b5 a7 b6 b7 b8 b9 c0 c1 a1 a5 a3 a8 a9 c2 b0 a2 a6 a4, a0.heap[b3]? = some (.cells (Z1 b5 a7 b6 b7 b8 b9 c0 c1 a1 a5 a3 a8 a9 c2 b0 a2 a6 a4) 48) ∧
 brB (b4 != 0) (
 ∀ c7, Adv [b1] [] a0 c7 → c7.heap[b2]? = some (.cells (Z2 c3 c5 b4) 191) →
 c7.heap[b3]? = some (.cells (Z1 b5 a7 b6 b7 b8 b9 c0 c1 a1 a5 a3 a8 a9 c2 b0 a2 a6 a4) 48) →
 R (.tuple #[(.agg (Z1 0 ByteArray.empty 0 0 0 0 0 0 none 0 0 ByteArray.empty ByteArray.empty 0 false none 0 0)), .int .i64 40]) c7)
 (
 brB (f0 != 0) (
 ∀ c8, Adv [b1] [] a0 c8 → c8.heap[b2]? = some (.cells (Z2 c3 c5 b4) 191) →
 c8.heap[b3]? = some (.cells (Z1 b5 a7 b6 b7 b8 b9 c0 c1 a1 a5 a3 a8 a9 c2 b0 a2 a6 a4) 48) →
 R (.tuple #[(.agg (Z1 0 ByteArray.empty 0 0 0 0 0 0 none 0 0 ByteArray.empty ByteArray.empty 0 false none 0 0)), .int .i64 40]) c8)
 (
 brB (!(e0.toList == c6.toList)) (
 ∀ c9, Adv [b1] [] a0 c9 → c9.heap[b2]? = some (.cells (Z2 c3 c5 b4) 191) →
 c9.heap[b3]? = some (.cells (Z1 b5 a7 b6 b7 b8 b9 c0 c1 a1 a5 a3 a8 a9 c2 b0 a2 a6 a4) 48) →
 R (.tuple #[(.agg (Z1 0 ByteArray.empty 0 0 0 0 0 0 none 0 0 ByteArray.empty ByteArray.empty 0 false none 0 0)), .int .i64 40]) c9)
 (
 ∀ d0, Adv [b1] [] a0 d0 → d0.heap[b2]? = some (.cells (Z2 c3 c5 b4) 191) →
 d0.heap[b3]? = some (.cells (Z1 b5 a7 b6 b7 b8 b9 c0 c1 a1 a5 a3 a8 a9 c2 b0 a2 a6 a4) 48) →
 R (.tuple #[(.agg (Z1 b5 a7 b6 b7 b8 b9 c0 c1 a1 a5 a3 a8 a9 c2 b0 a2 a6 a4)), .int .i64 0]) d0)))) :
 CR pP 149 #[.string c6] w R :=
 yaA Tryz.wide_mixed (an := []) Tryz.func149 rfl rfl (by kernel_rfl) rfl (Eq.mpr (by kernel_rfl) h)
end
abbrev QT : TypeId := 191
def ybO (l : List UInt8) (st : Option Nat) (x : Int) : Option Nat × Int := match st.bind (yfS l) with
 | some p => (some p.2, IntKind.wrap .i64 (p.1 : Nat))
 | none => (none, x)
def yfT (l : List UInt8) (st : Option Nat) (x : ByteArray) : Option Nat × ByteArray := match st.bind (ym2 16 l) with
 | some p => (some p.2, p.1)
 | none => (none, x)
theorem yeD {s : ByteArray} {br : Nat} {st : Option Nat} {w : World} (h : Rd QT s br st w) {to : Nat} {e1 : Int} (hto : to ≤ s.size) :
  Calls pP 127 #[.pointer (some ⟨br, 0, none⟩), .int .i64 (to : Nat), .int .i64 e1] w fun e w' => e = .returned (.bool (st.isSome && decide (e1 = 0))) ∧ Mod [br] w w' ∧ Rd QT s br (if st.isSome ∧ e1 = 0 then some to else none) w' := by
 obtain ⟨a, e, h1, ha, rfl⟩ := h
 refine yaQ (yLh h1 ?_)
 refine yaC (fun g => ?_) fun g => ?_
 ·have g : e = 0 := by simpa using g
  subst g
  intro w1 A1 h2
  refine ⟨?_, A1.mod, to, e1, h2, hto, by simp⟩
  congr 1
 ·have g : e ≠ 0 := by simpa using g
  intro w1 A1 h2
  refine ⟨?_, A1.mod.less (by simp), a, e, h2, ha, by simp [g]⟩
  simp [g]
theorem yLs {c : Array Value} {i : Nat} {v : Value} (h : c[i]? = some v) : c.setIfInBounds i v = c := by
 apply Array.ext_getElem?
 intro j
 rw [Array.getElem?_setIfInBounds]
 split
 ·rename_i h1; subst h1
  have := (Array.getElem?_eq_some_iff.1 h).1
  rw [if_pos this, h]
 ·rfl
theorem yb2 {s : ByteArray} {br : Nat} {st : Option Nat} {w : World} (hs : s.size ≤ 1000000000000) (h : Rd QT s br st w) {ba off : Nat} {c : Array Value} {T : TypeId} {x : Int} (hb : w.heap[ba]? = some (.cells c T)) (hc : c[off]? = some (.int .i64 x)) (hne : ba ≠ br) :
  Calls pP 125 #[.pointer (some ⟨br, 0, none⟩), .pointer (some ⟨ba, off, none⟩)] w fun e w' => e = .returned (.tuple #[]) ∧ Rd QT s br (ybO s.data.toList st x).1 w' ∧ w'.heap[ba]? = some (.cells (c.setIfInBounds off (.int .i64 (ybO s.data.toList st x).2)) T) ∧ Mod [br, ba] w w' := by
 have hoff := (Array.getElem?_eq_some_iff.1 hc).1
 have hlt := h.lt
 obtain ⟨a, e, h1, ha, hst⟩ := h
 refine yaQ (yLi h1 ?_)
 intro w1 A1
 have s1 := A1.mod.size
 refine (yg6 s a hs ha w1).mono ?_
 rintro e2 w2 ⟨v, rfl, hv, rfl⟩
 have bad : ∀ {w7 : World}, (st.bind (yfS s.data.toList)) = none → Rd QT s br none w7 → Mod [br] w w7 → Rd QT s br (ybO s.data.toList st x).1 w7 ∧ w7.heap[ba]? = some (.cells (c.setIfInBounds off (.int .i64 (ybO s.data.toList st x).2)) T) ∧ Mod [br, ba] w w7 := fun {w7} hn h7 M7 => by
  have e : ybO s.data.toList st x = (none, x) := by unfold ybO; rw [hn]
  rw [e]
  refine ⟨h7, ?_, M7.less (by simp)⟩
  dsimp only
  rw [yLs hc]
  exact M7.keep hb (by simpa using hne)
 cases hg : vg 0 (s.data.toList.drop a) with
 | none =>
  have hn : (st.bind (yfS s.data.toList)) = none := by
   rw [hst]; split
   ·simp [yfS, hg]
   ·rfl
  rw [hg] at hv
  obtain ⟨e1, he1, rfl⟩ := hv
  refine ⟨_, _, _, rfl, yaD.of0 (Mod.refl _), fun w6 A6 h6 => ?_⟩
  refine (yeD (st := st) ⟨a, e, h6, ha, hst⟩ (to := 0) (e1 := e1) (by omega)).mono ?_
  rintro _ w7 ⟨rfl, M7, h7⟩
  have h70 := h7
  obtain ⟨a7, e7, hh7, _⟩ := h7
  refine ⟨_, rfl, _, _, _, hh7, ?_⟩
  have eb : (st.isSome && decide (e1 = 0)) = false := by simp [he1]
  rw [eb, yd4]
  rw [if_neg (by simp [he1])] at h70
  exact ⟨rfl, bad hn h70 ((A1.mod.trans (A6.mod.trans M7)).less (by simp))⟩
 | some p =>
  rw [hg] at hv
  have hv : v = .tuple #[.int .u64 (p.1 : Nat), .int .i64 ((a + p.2 : Nat) : Int), .int .i64 0] := hv
  subst hv
  have h8 := yg8 (l := s.data.toList) (a := a) (n := p.1) (b := a + p.2) (by simp [yfS, hg])
  have el : s.data.toList.length = s.size := by simp
  refine ⟨_, _, _, rfl, yaD.of0 (Mod.refl _), fun w6 A6 h6 => ?_⟩
  refine (yeD (st := st) ⟨a, e, h6, ha, hst⟩ (to := a + p.2) (e1 := 0) (by omega)).mono ?_
  rintro _ w7 ⟨rfl, M7, h7⟩
  have h70 := h7
  obtain ⟨a7, e7, hh7, _⟩ := h7
  refine ⟨_, rfl, _, _, _, hh7, ?_⟩
  have M77 : Mod [br] w w7 := (A1.mod.trans (A6.mod.trans M7)).less (by simp)
  cases st with
  | none => exact ⟨rfl, bad rfl (by simpa using h70) M77⟩
  | some a' =>
   have ea : a' = a := by
    by_cases he : e = 0
    ·rw [if_pos he] at hst; cases hst; rfl
    ·rw [if_neg he] at hst; cases hst
   subst ea
   have e1 : ybO s.data.toList (some a') x = (some (a' + p.2), IntKind.wrap .i64 (p.1 : Nat)) := by simp [ybO, yfS, hg]
   rw [e1]
   refine ydX (M77.keep hb (by simpa using hne)) rfl (by simp; omega) fun w8 h8 M8 => ?_
   have hk : w8.heap[br]? = w7.heap[br]? := by rw [hh7]; exact M8.keep hh7 (by simpa using Ne.symm hne)
   refine ⟨_, _, _, hk.trans hh7, rfl, ?_, h8, (M77.trans M8).less (by simp)⟩
   exact Rd.keep (by simpa using h70) M8 (by simpa using Ne.symm hne)
theorem yoI {s : ByteArray} {br : Nat} {st : Option Nat} {w : World} (hs : s.size ≤ 1000000000000) (h : Rd QT s br st w) {ba off : Nat} {c : Array Value} {T : TypeId} {x : ByteArray} (hb : w.heap[ba]? = some (.cells c T)) (hc : c[off]? = some (.string x)) (hne : ba ≠ br) :
  Calls pP 193 #[.pointer (some ⟨br, 0, none⟩), .pointer (some ⟨ba, off, none⟩)] w fun e w' => e = .returned (.tuple #[]) ∧ Rd QT s br (yfT s.data.toList st x).1 w' ∧ w'.heap[ba]? = some (.cells (c.setIfInBounds off (.string (yfT s.data.toList st x).2)) T) ∧ Mod [br, ba] w w' := by
 have hoff := (Array.getElem?_eq_some_iff.1 hc).1
 have hlt := h.lt
 obtain ⟨a, e, h1, ha, hst⟩ := h
 refine yaQ (yLj h1 ?_)
 intro w1 A1
 have s1 := A1.mod.size
 refine (yd1 s a 16 hs ha (by omega) w1).mono ?_
 rintro e2 w2 ⟨v, rfl, hv, rfl⟩
 have bad : ∀ {w7 : World}, (st.bind (ym2 16 s.data.toList)) = none → Rd QT s br none w7 → Mod [br] w w7 → Rd QT s br (yfT s.data.toList st x).1 w7 ∧ w7.heap[ba]? = some (.cells (c.setIfInBounds off (.string (yfT s.data.toList st x).2)) T) ∧ Mod [br, ba] w w7 := fun {w7} hn h7 M7 => by
  have e : yfT s.data.toList st x = (none, x) := by unfold yfT; rw [hn]
  rw [e]
  refine ⟨h7, ?_, M7.less (by simp)⟩
  dsimp only
  rw [yLs hc]
  exact M7.keep hb (by simpa using hne)
 cases hg : tg 16 (s.data.toList.drop a) with
 | none =>
  have hn : (st.bind (ym2 16 s.data.toList)) = none := by
   rw [hst]; split
   ·simp [ym2, hg]
   ·rfl
  rw [hg] at hv
  obtain ⟨e1, he1, rfl⟩ := hv
  refine ⟨_, _, _, rfl, yaD.of0 (Mod.refl _), fun w6 A6 h6 => ?_⟩
  refine (yeD (st := st) ⟨a, e, h6, ha, hst⟩ (to := 0) (e1 := e1) (by omega)).mono ?_
  rintro _ w7 ⟨rfl, M7, h7⟩
  have h70 := h7
  obtain ⟨a7, e7, hh7, _⟩ := h7
  refine ⟨_, rfl, _, _, _, hh7, ?_⟩
  have eb : (st.isSome && decide (e1 = 0)) = false := by simp [he1]
  rw [eb, yd4]
  rw [if_neg (by simp [he1])] at h70
  exact ⟨rfl, bad hn h70 ((A1.mod.trans (A6.mod.trans M7)).less (by simp))⟩
 | some p =>
  rw [hg] at hv
  have hv : v = .tuple #[.string p.1, .int .i64 ((a + p.2 : Nat) : Int), .int .i64 0] := hv
  subst hv
  have h8 := yoH (lim := 16) (l := s.data.toList) (a := a) (t := p.1) (b := a + p.2) (by simp [ym2, hg])
  have el : s.data.toList.length = s.size := by simp
  refine ⟨_, _, _, rfl, yaD.of0 (Mod.refl _), fun w6 A6 h6 => ?_⟩
  refine (yeD (st := st) ⟨a, e, h6, ha, hst⟩ (to := a + p.2) (e1 := 0) (by omega)).mono ?_
  rintro _ w7 ⟨rfl, M7, h7⟩
  have h70 := h7
  obtain ⟨a7, e7, hh7, _⟩ := h7
  refine ⟨_, rfl, _, _, _, hh7, ?_⟩
  have M77 : Mod [br] w w7 := (A1.mod.trans (A6.mod.trans M7)).less (by simp)
  cases st with
  | none => exact ⟨rfl, bad rfl (by simpa using h70) M77⟩
  | some a' =>
   have ea : a' = a := by
    by_cases he : e = 0
    ·rw [if_pos he] at hst; cases hst; rfl
    ·rw [if_neg he] at hst; cases hst
   subst ea
   have e1 : yfT s.data.toList (some a') x = (some (a' + p.2), p.1) := by simp [yfT, ym2, hg]
   rw [e1]
   refine ydX (M77.keep hb (by simpa using hne)) rfl (by simp; omega) fun w8 h8 M8 => ?_
   have hk : w8.heap[br]? = w7.heap[br]? := by rw [hh7]; exact M8.keep hh7 (by simpa using Ne.symm hne)
   refine ⟨_, _, _, hk.trans hh7, rfl, ?_, h8, (M77.trans M8).less (by simp)⟩
   exact Rd.keep (by simpa using h70) M8 (by simpa using Ne.symm hne)
end Go.Proofs.YtjellhflalbbmaaGreat
