/- Part 3 of the proof of PMPuts. -/
import Derived.Test.YtkbcmppbjfpjmaaGreatPMPutsK2
namespace Go.Proofs.YtkbcmppbjfpjmaaGreat
open Go Go.RowKit
set_option linter.all false
set_option maxRecDepth 100000
section
variable {R : VWP} {w w0 : World} {m : Nat} {i0 i1 i2 i3 i4 i5 i6 i7 i8 i9 j0 j1 j2 j3 j4 j5 j6 j7 j8 j9 k0 k1 k2 k3 k4 k5 k6 k7 k8 k9 l0 l1 l2 l3 l4 l5 l6 l7 l8 l9 : Int} {s0 s1 s2 s3 s4 s5 s6 s7 s8 s9 t0 t1 t2 t3 t4 t5 t6 t7 t8 t9 : BA} {n0 n1 n2 n3 n4 n5 n6 n7 n8 n9 o0 o1 o2 o3 o4 o5 o6 o7 o8 o9 p0 p1 p2 p3 p4 p5 p6 p7 p8 p9 : Nat} {q0 q1 q2 q3 q4 q5 q6 q7 q8 q9 r0 r1 r2 r3 r4 r5 r6 r7 r8 r9 : OA} {B0 B1 B2 B3 B4 B5 B6 B7 B8 B9 : Bool} {M0 M1 M2 M3 : Option Nat} {V0 V1 V2 V3 V4 V5 : Value} {A0 A1 A2 : Addr}
theorem yIf (h :
 yaT w (Addr.add A0 1) fun t1 =>
 brB t1 (
 st w (Addr.add A0 1) [.bool true] fun w2 =>
 st w2 A1 [.int .i64 0] fun w3 =>
 R (.tuple #[]) w3)
 (
 yaI .i64 w A1 fun x4 =>
 Calls pP 94 #[.int .i64 x4] w fun e w5 => ∃ t6, e = .returned (.bool t6) ∧
 st w5 (Addr.add A0 1) [(.bool (!t6))] fun w7 =>
 st w7 A1 [.int .i64 0] fun w8 =>
 R (.tuple #[]) w8)) :
 CR pP 176 #[(.pointer (some A0)), (.pointer (some A1))] w R :=
 yaA Tryz.wide_mixed (an := []) Tryz.func176 rfl rfl (by kernel_rfl) rfl (Eq.mpr (by kernel_rfl) h)
theorem yIg (h :
 yaT w A0 fun t1 =>
 brB t1 (
 st w A0 [.bool true] fun w2 =>
 st w2 A1 [(.string (⟨#[]⟩ : BA))] fun w3 =>
 R (.tuple #[]) w3)
 (
 yaQ w A1 fun s4 =>
 Calls pP 96 #[.string s4] w fun e w5 => ∃ t6, e = .returned (.bool t6) ∧
 st w5 A0 [(.bool (!t6))] fun w7 =>
 st w7 A1 [(.string (⟨#[]⟩ : BA))] fun w8 =>
 R (.tuple #[]) w8)) :
 CR pP 174 #[(.pointer (some A0)), (.pointer (some A1))] w R :=
 yaA Tryz.wide_mixed (an := []) Tryz.func174 rfl rfl (by kernel_rfl) rfl (Eq.mpr (by kernel_rfl) h)
theorem yIh (h :
 st w A1 [.bool false] fun w1 =>
 R (.tuple #[]) w1) :
 CR pP 173 #[(.pointer (some A0)), (.pointer (some A1))] w R :=
 yaA Tryz.wide_mixed (an := []) Tryz.func173 rfl rfl (by kernel_rfl) rfl (Eq.mpr (by kernel_rfl) h)
theorem yIi (h :
 yaI .i64 w A1 fun x1 => yaI .i64 w (Addr.add A1 1) fun x2 => yaI .i64 w (Addr.add A1 2) fun x3 => yaU w (Addr.add A1 3) fun a4 n5 c6 =>
 Calls pP 163 #[(.agg (Z8 x1 x2 x3 a4 n5 c6))] w fun e w7 => ∃ x8, e = .returned (.int .i64 x8) ∧
 st w7 (Addr.add A0 2) [.int .i64 x8] fun w9 =>
 st w9 A1 [.int .i64 0, .int .i64 0, .int .i64 0, .slice none 0 0] fun a2 =>
 R (.tuple #[]) a2) :
 CR pP 172 #[(.pointer (some A0)), (.pointer (some A1))] w R :=
 yaA Tryz.wide_mixed (an := []) Tryz.func172 rfl rfl (by kernel_rfl) rfl (Eq.mpr (by kernel_rfl) h)
def yr2 : LA := ⟨[0, 0, 1, 0, 1], [0, 1, 4, 5], [], 0, []⟩
def yt3 : List LA := [yr2]
abbrev yIj := dnF pP yt3 (code Tryz.f175)
abbrev yLg := yaO pP yt3 (code Tryz.f175)
abbrev yIk (p : List Nat) (K : List Kh) (R : VWP) := yaO pP yt3 (code Tryz.f175) p K (ya4 pP Tryz.f175 [] R)
def yj4 (a0 : Addr) (a1 : Addr) : Bool × Int → List Value × List TB := fun (a2, a3) => ([(.pointer (some a0)), (.pointer (some a1)), .bool a2, .int .i64 a3], [])
abbrev yAf (a0 : Addr) (a1 : Addr) (I : Nat → Bool → Int → World → Prop) (m : Nat) : Kh := KG (yj4 a0 a1) (U2 I) m
theorem yp5 {I : Nat → Bool → Int → World → Prop} (m' : Nat) (h1 : m' < m) (h2 : I m' B0 i0 w) : KS (yAf A0 A1 I m) (yj4 A0 A1 (B0, i0)) w := ⟨m', h1, _, rfl, rfl, h2⟩
theorem yAg (I : Nat → Bool → Int → World → Prop) (m0 : Nat) (h0 : I m0 B0 i0 w0)
 (hr : ∀ m a6 a5 w, I m a6 a5 w →
 yaU w A1 fun a1 n2 c3 =>
 brB (decide (a5 < (n2 : Int))) (
 brB a6 (
 yaU w A1 fun a4 n5 c6 =>
 ixA a4 n5 (iw .i64 (a5 - 1)) 1 fun q7 =>
 yaQ w q7 fun s8 =>
 yaU w A1 fun a9 b5 d6 =>
 ixA a9 b5 a5 1 fun b9 =>
 yaQ w b9 fun c0 =>
 ∀ b1, Adv [] [] w b1 →
 KS (yAf A0 A1 I m) (yj4 A0 A1 ((Op.bytesLess s8.toList c0.toList), (iw .i64 (a5 + 1)))) b1)
 (
 ∀ b2, Adv [] [] w b2 →
 KS (yAf A0 A1 I m) (yj4 A0 A1 (false, (iw .i64 (a5 + 1)))) b2))
 (
 yaU w A1 fun b3 b6 b4 =>
 Calls pP 177 #[.slice b3 b6 b4, (.func (.func 178) #[] #[])] w fun e a3 => ∃ b0, e = .returned (.bool b0) ∧
 yaT a3 A0 fun c1 =>
 brB c1 (
 st a3 A0 [.bool true] fun c2 =>
 st c2 A1 [.slice none 0 0] fun c4 =>
 R (.tuple #[]) c4)
 (
 yaU a3 A1 fun d4 b7 d7 =>
 brB ((b7 : Int) == 0) (
 st a3 A0 [.bool true] fun c5 =>
 st c5 A1 [.slice none 0 0] fun c7 =>
 R (.tuple #[]) c7)
 (
 yaU a3 A1 fun d5 b8 d8 =>
 brB (decide ((b8 : Int) > 8)) (
 st a3 A0 [.bool true] fun c8 =>
 st c8 A1 [.slice none 0 0] fun c9 =>
 R (.tuple #[]) c9)
 (
 brB b0 (
 st a3 A0 [.bool true] fun d0 =>
 st d0 A1 [.slice none 0 0] fun d1 =>
 R (.tuple #[]) d1)
 (
 st a3 A0 [(.bool (!a6))] fun d2 =>
 st d2 A1 [.slice none 0 0] fun d3 =>
 R (.tuple #[]) d3)))))) :
 yaK yr2 (yIj 397 [0, 0, 1, 0, 1]) (yIk [1, 0, 1, 0] [] R) (yj4 A0 A1 (B0, i0)) w0 :=
 lrule (yj4 A0 A1) (U2 I) h0 (by rintro m ⟨a6, a5⟩ w h; exact ⟨by kernel_rfl, by kernel_rfl, fun js => Eq.mpr (by kernel_rfl) (hr m a6 a5 w h)⟩)
theorem yIl (h :
 yaK yr2 (yIj 397 [0, 0, 1, 0, 1]) (yIk [1, 0, 1, 0] [] R) (yj4 A0 A1 (true, 1)) w) :
 CR pP 175 #[(.pointer (some A0)), (.pointer (some A1))] w R :=
 yaA Tryz.wide_mixed (an := yt3) Tryz.func175 rfl rfl (by kernel_rfl) rfl (Eq.mpr (by kernel_rfl) h)
theorem yIm {a0 : BA} (h :
 Calls pP 96 #[.string a0] w fun e w1 => ∃ t2, e = .returned (.bool t2) ∧
 R (.bool (!t2)) w1) :
 CR pP 178 #[.string a0] w R :=
 yaA Tryz.wide_mixed (an := []) Tryz.func178 rfl rfl (by kernel_rfl) rfl (Eq.mpr (by kernel_rfl) h)
theorem yIn (h :
 Calls pP 179 #[.slice q0 n0 n1, (.func (.func 178) #[] #[])] w fun e w1 => ∃ x2, e = .returned (.int .i64 x2) ∧
 R (.bool (decide (x2 ≥ 0))) w1) :
 CR pP 177 #[.slice q0 n0 n1, (.func (.func 178) #[] #[])] w R :=
 yaA Tryz.wide_mixed (an := []) Tryz.func177 rfl rfl (by kernel_rfl) rfl (Eq.mpr (by kernel_rfl) h)
def yr3 : LA := ⟨[0, 0, 1, 0, 1], [0, 1, 7, 8], [], 0, []⟩
def yt4 : List LA := [yr3]
abbrev yIo := dnF pP yt4 (code Tryz.f179)
abbrev yLh := yaO pP yt4 (code Tryz.f179)
abbrev yIp (p : List Nat) (K : List Kh) (R : VWP) := yaO pP yt4 (code Tryz.f179) p K (ya4 pP Tryz.f179 [] R)
def ylV (a0 : OA) (a2 a1 : Nat) (a3 : Int) : Int → List Value × List TB := fun a4 => ([.slice a0 a2 a1, (.func (.func 178) #[] #[]), .int .i64 a3, .int .i64 a4], [])
abbrev yDS (a0 : OA) (a2 a1 : Nat) (a3 : Int) (I : Nat → Int → World → Prop) (m : Nat) : Kh := KG (ylV a0 a2 a1 a3) (U1 I) m
theorem yAh {I : Nat → Int → World → Prop} (m' : Nat) (h1 : m' < m) (h2 : I m' i1 w) : KS (yDS q0 n0 n1 i0 I m) (ylV q0 n0 n1 i0 i1) w := ⟨m', h1, _, rfl, rfl, h2⟩
theorem yAi {a1 : OA} (I : Nat → Int → World → Prop) (m0 : Nat) (h0 : I m0 i1 w0)
 (hr : ∀ m a0 w, I m a0 w →
 brB (decide (a0 < i0)) (
 ixA a1 n0 a0 1 fun q1 =>
 yaQ w q1 fun s2 =>
 Calls pP 178 #[.string s2] w fun e w3 => ∃ t4, e = .returned (.bool t4) ∧
 brB t4 (
 R (.int .i64 a0) w3)
 (
 KS (yDS a1 n0 n1 i0 I m) (ylV a1 n0 n1 i0 (iw .i64 (a0 + 1))) w3))
 (
 R (.int .i64 (-1)) w)) :
 yaK yr3 (yIo 397 [0, 0, 1, 0, 1]) (yIp [1, 0, 1, 0] [] R) (ylV a1 n0 n1 i0 i1) w0 :=
 lrule (ylV a1 n0 n1 i0) (U1 I) h0 (by rintro m a0 w h; exact ⟨by kernel_rfl, by kernel_rfl, fun js => Eq.mpr (by kernel_rfl) (hr m a0 w h)⟩)
theorem yIq (h :
 yaK yr3 (yIo 397 [0, 0, 1, 0, 1]) (yIp [1, 0, 1, 0] [] R) (ylV q0 n0 n1 (n0 : Int) 0) w) :
 CR pP 179 #[.slice q0 n0 n1, (.func (.func 178) #[] #[])] w R :=
 yaA Tryz.wide_mixed (an := yt4) Tryz.func179 rfl rfl (by kernel_rfl) rfl (Eq.mpr (by kernel_rfl) h)
theorem yIr (h :
 ∀ w1, Adv [] [] w w1 →
 Calls pP 174 #[(.pointer (some A1)), (.pointer (some A0))] w1 fun e w2 => e = .returned (.tuple #[]) ∧
 ∀ w3, Adv [] [] w2 w3 →
 Calls pP 176 #[(.pointer (some A1)), (.pointer (some (Addr.add A0 1)))] w3 fun e w4 => e = .returned (.tuple #[]) ∧
 R (.tuple #[]) w4) :
 CR pP 60 #[(.iface 158 (.pointer (some A1))), (.pointer (some A0))] w R :=
 yaA Tryz.wide_mixed (an := []) Tryz.func60 rfl rfl (by kernel_rfl) rfl (Eq.mpr (by kernel_rfl) h)
theorem yIs (h :
 ∀ w1, Adv [] [] w w1 →
 Calls pP 174 #[(.pointer (some A1)), (.pointer (some (Addr.add A0 9)))] w1 fun e w2 => e = .returned (.tuple #[]) ∧
 ∀ w3, Adv [] [] w2 w3 →
 Calls pP 174 #[(.pointer (some A1)), (.pointer (some (Addr.add A0 10)))] w3 fun e w4 => e = .returned (.tuple #[]) ∧
 R (.tuple #[]) w4) :
 CR pP 118 #[(.iface 158 (.pointer (some A1))), (.pointer (some A0))] w R :=
 yaA Tryz.wide_mixed (an := []) Tryz.func118 rfl rfl (by kernel_rfl) rfl (Eq.mpr (by kernel_rfl) h)
theorem yIt (h :
 yaI .i64 w A0 fun x1 =>
 brB (x1 == 0) (
 ∀ w2, Adv [] [] w w2 →
 Calls pP 174 #[(.pointer (some A1)), (.pointer (some (Addr.add A0 1)))] w2 fun e w3 => e = .returned (.tuple #[]) ∧
 ∀ w4, Adv [] [] w3 w4 →
 Calls pP 176 #[(.pointer (some A1)), (.pointer (some (Addr.add A0 3)))] w4 fun e w5 => e = .returned (.tuple #[]) ∧
 R (.tuple #[]) w5)
 (
 brB (x1 == 1) (
 brB (x1 == 1) (
 ∀ w6, Adv [] [] w w6 →
 Calls pP 176 #[(.pointer (some A1)), (.pointer (some (Addr.add A0 3)))] w6 fun e w7 => e = .returned (.tuple #[]) ∧
 R (.tuple #[]) w7)
 (
 brB (x1 == 2) (
 Calls pP 60 #[(.iface 158 (.pointer (some A1))), (.pointer (some (Addr.add A0 1)))] w fun e w8 => e = .returned (.tuple #[]) ∧
 ∀ w9, Adv [] [] w8 w9 →
 Calls pP 172 #[(.pointer (some A1)), (.pointer (some (Addr.add A0 5)))] w9 fun e f3 => e = .returned (.tuple #[]) ∧
 R (.tuple #[]) f3)
 (
 brB (x1 == 3) (
 Calls pP 60 #[(.iface 158 (.pointer (some A1))), (.pointer (some (Addr.add A0 1)))] w fun e f4 => e = .returned (.tuple #[]) ∧
 ∀ a9, Adv [] [] f4 a9 →
 Calls pP 176 #[(.pointer (some A1)), (.pointer (some (Addr.add A0 4)))] a9 fun e f5 => e = .returned (.tuple #[]) ∧
 ∀ b0, Adv [] [] f5 b0 →
 Calls pP 176 #[(.pointer (some A1)), (.pointer (some (Addr.add A0 3)))] b0 fun e f6 => e = .returned (.tuple #[]) ∧
 R (.tuple #[]) f6)
 (
 brB (x1 == 4) (
 Calls pP 60 #[(.iface 158 (.pointer (some A1))), (.pointer (some (Addr.add A0 1)))] w fun e f7 => e = .returned (.tuple #[]) ∧
 ∀ b1, Adv [] [] f7 b1 →
 Calls pP 176 #[(.pointer (some A1)), (.pointer (some (Addr.add A0 4)))] b1 fun e f8 => e = .returned (.tuple #[]) ∧
 R (.tuple #[]) f8)
 (
 brB (x1 == 5) (
 Calls pP 60 #[(.iface 158 (.pointer (some A1))), (.pointer (some (Addr.add A0 1)))] w fun e f9 => e = .returned (.tuple #[]) ∧
 R (.tuple #[]) f9)
 (
 brB (x1 == 6) (
 Calls pP 118 #[(.iface 158 (.pointer (some A1))), (.pointer (some A0))] w fun e g0 => e = .returned (.tuple #[]) ∧
 ∀ b2, Adv [] [] g0 b2 →
 Calls pP 176 #[(.pointer (some A1)), (.pointer (some (Addr.add A0 3)))] b2 fun e g1 => e = .returned (.tuple #[]) ∧
 ∀ b3, Adv [] [] g1 b3 →
 Calls pP 173 #[(.pointer (some A1)), (.pointer (some (Addr.add A0 12)))] b3 fun e g2 => e = .returned (.tuple #[]) ∧
 ∀ b4, Adv [] [] g2 b4 →
 Calls pP 175 #[(.pointer (some A1)), (.pointer (some (Addr.add A0 13)))] b4 fun e g3 => e = .returned (.tuple #[]) ∧
 R (.tuple #[]) g3)
 (
 brB (x1 == 7) (
 brB (x1 == 7) (
 Calls pP 118 #[(.iface 158 (.pointer (some A1))), (.pointer (some A0))] w fun e g4 => e = .returned (.tuple #[]) ∧
 ∀ b5, Adv [] [] g4 b5 →
 Calls pP 176 #[(.pointer (some A1)), (.pointer (some (Addr.add A0 11)))] b5 fun e g5 => e = .returned (.tuple #[]) ∧
 R (.tuple #[]) g5)
 (
 brB (x1 == 10) (
 Calls pP 118 #[(.iface 158 (.pointer (some A1))), (.pointer (some A0))] w fun e g6 => e = .returned (.tuple #[]) ∧
 ∀ b6, Adv [] [] g6 b6 →
 Calls pP 176 #[(.pointer (some A1)), (.pointer (some (Addr.add A0 11)))] b6 fun e g7 => e = .returned (.tuple #[]) ∧
 Calls pP 60 #[(.iface 158 (.pointer (some A1))), (.pointer (some (Addr.add A0 1)))] g7 fun e g8 => e = .returned (.tuple #[]) ∧
 ∀ b7, Adv [] [] g8 b7 →
 Calls pP 176 #[(.pointer (some A1)), (.pointer (some (Addr.add A0 4)))] b7 fun e g9 => e = .returned (.tuple #[]) ∧
 R (.tuple #[]) g9)
 (
 brB (x1 == 11) (
 ∀ b8, Adv [] [] w b8 →
 Calls pP 174 #[(.pointer (some A1)), (.pointer (some (Addr.add A0 9)))] b8 fun e h0 => e = .returned (.tuple #[]) ∧
 Calls pP 60 #[(.iface 158 (.pointer (some A1))), (.pointer (some (Addr.add A0 1)))] h0 fun e h1 => e = .returned (.tuple #[]) ∧
 R (.tuple #[]) h1)
 (
 R (.tuple #[]) w))))
 (
 brB (x1 == 8) (
 brB (x1 == 8) (
 Calls pP 118 #[(.iface 158 (.pointer (some A1))), (.pointer (some A0))] w fun e h2 => e = .returned (.tuple #[]) ∧
 ∀ b9, Adv [] [] h2 b9 →
 Calls pP 176 #[(.pointer (some A1)), (.pointer (some (Addr.add A0 11)))] b9 fun e h3 => e = .returned (.tuple #[]) ∧
 R (.tuple #[]) h3)
 (
 brB (x1 == 10) (
 Calls pP 118 #[(.iface 158 (.pointer (some A1))), (.pointer (some A0))] w fun e h4 => e = .returned (.tuple #[]) ∧
 ∀ c0, Adv [] [] h4 c0 →
 Calls pP 176 #[(.pointer (some A1)), (.pointer (some (Addr.add A0 11)))] c0 fun e h5 => e = .returned (.tuple #[]) ∧
 Calls pP 60 #[(.iface 158 (.pointer (some A1))), (.pointer (some (Addr.add A0 1)))] h5 fun e h6 => e = .returned (.tuple #[]) ∧
 ∀ c1, Adv [] [] h6 c1 →
 Calls pP 176 #[(.pointer (some A1)), (.pointer (some (Addr.add A0 4)))] c1 fun e h7 => e = .returned (.tuple #[]) ∧
 R (.tuple #[]) h7)
 (
 brB (x1 == 11) (
 ∀ c2, Adv [] [] w c2 →
 Calls pP 174 #[(.pointer (some A1)), (.pointer (some (Addr.add A0 9)))] c2 fun e h8 => e = .returned (.tuple #[]) ∧
 Calls pP 60 #[(.iface 158 (.pointer (some A1))), (.pointer (some (Addr.add A0 1)))] h8 fun e h9 => e = .returned (.tuple #[]) ∧
 R (.tuple #[]) h9)
 (
 R (.tuple #[]) w))))
 (
 brB (x1 == 9) (
 Calls pP 118 #[(.iface 158 (.pointer (some A1))), (.pointer (some A0))] w fun e u0 => e = .returned (.tuple #[]) ∧
 ∀ c3, Adv [] [] u0 c3 →
 Calls pP 176 #[(.pointer (some A1)), (.pointer (some (Addr.add A0 11)))] c3 fun e u1 => e = .returned (.tuple #[]) ∧
 R (.tuple #[]) u1)
 (
 brB (x1 == 10) (
 Calls pP 118 #[(.iface 158 (.pointer (some A1))), (.pointer (some A0))] w fun e u2 => e = .returned (.tuple #[]) ∧
 ∀ c4, Adv [] [] u2 c4 →
 Calls pP 176 #[(.pointer (some A1)), (.pointer (some (Addr.add A0 11)))] c4 fun e u3 => e = .returned (.tuple #[]) ∧
 Calls pP 60 #[(.iface 158 (.pointer (some A1))), (.pointer (some (Addr.add A0 1)))] u3 fun e u4 => e = .returned (.tuple #[]) ∧
 ∀ c5, Adv [] [] u4 c5 →
 Calls pP 176 #[(.pointer (some A1)), (.pointer (some (Addr.add A0 4)))] c5 fun e u5 => e = .returned (.tuple #[]) ∧
 R (.tuple #[]) u5)
 (
 brB (x1 == 11) (
 ∀ c6, Adv [] [] w c6 →
 Calls pP 174 #[(.pointer (some A1)), (.pointer (some (Addr.add A0 9)))] c6 fun e u6 => e = .returned (.tuple #[]) ∧
 Calls pP 60 #[(.iface 158 (.pointer (some A1))), (.pointer (some (Addr.add A0 1)))] u6 fun e u7 => e = .returned (.tuple #[]) ∧
 R (.tuple #[]) u7)
 (
 R (.tuple #[]) w))))))))))))
 (
 brB (x1 == 12) (
 ∀ c7, Adv [] [] w c7 →
 Calls pP 176 #[(.pointer (some A1)), (.pointer (some (Addr.add A0 3)))] c7 fun e u9 => e = .returned (.tuple #[]) ∧
 R (.tuple #[]) u9)
 (
 brB (x1 == 2) (
 Calls pP 60 #[(.iface 158 (.pointer (some A1))), (.pointer (some (Addr.add A0 1)))] w fun e v0 => e = .returned (.tuple #[]) ∧
 ∀ c8, Adv [] [] v0 c8 →
 Calls pP 172 #[(.pointer (some A1)), (.pointer (some (Addr.add A0 5)))] c8 fun e v1 => e = .returned (.tuple #[]) ∧
 R (.tuple #[]) v1)
 (
 brB (x1 == 3) (
 Calls pP 60 #[(.iface 158 (.pointer (some A1))), (.pointer (some (Addr.add A0 1)))] w fun e v2 => e = .returned (.tuple #[]) ∧
 ∀ c9, Adv [] [] v2 c9 →
 Calls pP 176 #[(.pointer (some A1)), (.pointer (some (Addr.add A0 4)))] c9 fun e v3 => e = .returned (.tuple #[]) ∧
 ∀ d0, Adv [] [] v3 d0 →
 Calls pP 176 #[(.pointer (some A1)), (.pointer (some (Addr.add A0 3)))] d0 fun e v4 => e = .returned (.tuple #[]) ∧
 R (.tuple #[]) v4)
 (
 brB (x1 == 4) (
 Calls pP 60 #[(.iface 158 (.pointer (some A1))), (.pointer (some (Addr.add A0 1)))] w fun e v5 => e = .returned (.tuple #[]) ∧
 ∀ d1, Adv [] [] v5 d1 →
 Calls pP 176 #[(.pointer (some A1)), (.pointer (some (Addr.add A0 4)))] d1 fun e v6 => e = .returned (.tuple #[]) ∧
 R (.tuple #[]) v6)
 (
 brB (x1 == 5) (
 Calls pP 60 #[(.iface 158 (.pointer (some A1))), (.pointer (some (Addr.add A0 1)))] w fun e v7 => e = .returned (.tuple #[]) ∧
 R (.tuple #[]) v7)
 (
 brB (x1 == 6) (
 Calls pP 118 #[(.iface 158 (.pointer (some A1))), (.pointer (some A0))] w fun e v8 => e = .returned (.tuple #[]) ∧
 ∀ d2, Adv [] [] v8 d2 →
 Calls pP 176 #[(.pointer (some A1)), (.pointer (some (Addr.add A0 3)))] d2 fun e v9 => e = .returned (.tuple #[]) ∧
 ∀ d3, Adv [] [] v9 d3 →
 Calls pP 173 #[(.pointer (some A1)), (.pointer (some (Addr.add A0 12)))] d3 fun e w0 => e = .returned (.tuple #[]) ∧
 ∀ d4, Adv [] [] w0 d4 →
 Calls pP 175 #[(.pointer (some A1)), (.pointer (some (Addr.add A0 13)))] d4 fun e w1 => e = .returned (.tuple #[]) ∧
 R (.tuple #[]) w1)
 (
 brB (x1 == 7) (
 brB (x1 == 7) (
 Calls pP 118 #[(.iface 158 (.pointer (some A1))), (.pointer (some A0))] w fun e x0 => e = .returned (.tuple #[]) ∧
 ∀ d5, Adv [] [] x0 d5 →
 Calls pP 176 #[(.pointer (some A1)), (.pointer (some (Addr.add A0 11)))] d5 fun e x2 => e = .returned (.tuple #[]) ∧
 R (.tuple #[]) x2)
 (
 brB (x1 == 10) (
 Calls pP 118 #[(.iface 158 (.pointer (some A1))), (.pointer (some A0))] w fun e x3 => e = .returned (.tuple #[]) ∧
 ∀ d6, Adv [] [] x3 d6 →
 Calls pP 176 #[(.pointer (some A1)), (.pointer (some (Addr.add A0 11)))] d6 fun e x4 => e = .returned (.tuple #[]) ∧
 Calls pP 60 #[(.iface 158 (.pointer (some A1))), (.pointer (some (Addr.add A0 1)))] x4 fun e x5 => e = .returned (.tuple #[]) ∧
 ∀ d7, Adv [] [] x5 d7 →
 Calls pP 176 #[(.pointer (some A1)), (.pointer (some (Addr.add A0 4)))] d7 fun e x6 => e = .returned (.tuple #[]) ∧
 R (.tuple #[]) x6)
 (
 brB (x1 == 11) (
 ∀ d8, Adv [] [] w d8 →
 Calls pP 174 #[(.pointer (some A1)), (.pointer (some (Addr.add A0 9)))] d8 fun e x7 => e = .returned (.tuple #[]) ∧
 Calls pP 60 #[(.iface 158 (.pointer (some A1))), (.pointer (some (Addr.add A0 1)))] x7 fun e x8 => e = .returned (.tuple #[]) ∧
 R (.tuple #[]) x8)
 (
 R (.tuple #[]) w))))
 (
 brB (x1 == 8) (
 brB (x1 == 8) (
 Calls pP 118 #[(.iface 158 (.pointer (some A1))), (.pointer (some A0))] w fun e x9 => e = .returned (.tuple #[]) ∧
 ∀ d9, Adv [] [] x9 d9 →
 Calls pP 176 #[(.pointer (some A1)), (.pointer (some (Addr.add A0 11)))] d9 fun e y0 => e = .returned (.tuple #[]) ∧
 R (.tuple #[]) y0)
 (
 brB (x1 == 10) (
 Calls pP 118 #[(.iface 158 (.pointer (some A1))), (.pointer (some A0))] w fun e y1 => e = .returned (.tuple #[]) ∧
 ∀ a2, Adv [] [] y1 a2 →
 Calls pP 176 #[(.pointer (some A1)), (.pointer (some (Addr.add A0 11)))] a2 fun e e0 => e = .returned (.tuple #[]) ∧
 Calls pP 60 #[(.iface 158 (.pointer (some A1))), (.pointer (some (Addr.add A0 1)))] e0 fun e e1 => e = .returned (.tuple #[]) ∧
 ∀ a3, Adv [] [] e1 a3 →
 Calls pP 176 #[(.pointer (some A1)), (.pointer (some (Addr.add A0 4)))] a3 fun e e2 => e = .returned (.tuple #[]) ∧
 R (.tuple #[]) e2)
 (
 brB (x1 == 11) (
 ∀ a4, Adv [] [] w a4 →
 Calls pP 174 #[(.pointer (some A1)), (.pointer (some (Addr.add A0 9)))] a4 fun e e3 => e = .returned (.tuple #[]) ∧
 Calls pP 60 #[(.iface 158 (.pointer (some A1))), (.pointer (some (Addr.add A0 1)))] e3 fun e e4 => e = .returned (.tuple #[]) ∧
 R (.tuple #[]) e4)
 (
 R (.tuple #[]) w))))
 (
 brB (x1 == 9) (
 Calls pP 118 #[(.iface 158 (.pointer (some A1))), (.pointer (some A0))] w fun e e5 => e = .returned (.tuple #[]) ∧
 ∀ a5, Adv [] [] e5 a5 →
 Calls pP 176 #[(.pointer (some A1)), (.pointer (some (Addr.add A0 11)))] a5 fun e e6 => e = .returned (.tuple #[]) ∧
 R (.tuple #[]) e6)
 (
 brB (x1 == 10) (
 Calls pP 118 #[(.iface 158 (.pointer (some A1))), (.pointer (some A0))] w fun e e7 => e = .returned (.tuple #[]) ∧
 ∀ a6, Adv [] [] e7 a6 →
 Calls pP 176 #[(.pointer (some A1)), (.pointer (some (Addr.add A0 11)))] a6 fun e e8 => e = .returned (.tuple #[]) ∧
 Calls pP 60 #[(.iface 158 (.pointer (some A1))), (.pointer (some (Addr.add A0 1)))] e8 fun e e9 => e = .returned (.tuple #[]) ∧
 ∀ a7, Adv [] [] e9 a7 →
 Calls pP 176 #[(.pointer (some A1)), (.pointer (some (Addr.add A0 4)))] a7 fun e f0 => e = .returned (.tuple #[]) ∧
 R (.tuple #[]) f0)
 (
 brB (x1 == 11) (
 ∀ a8, Adv [] [] w a8 →
 Calls pP 174 #[(.pointer (some A1)), (.pointer (some (Addr.add A0 9)))] a8 fun e f1 => e = .returned (.tuple #[]) ∧
 Calls pP 60 #[(.iface 158 (.pointer (some A1))), (.pointer (some (Addr.add A0 1)))] f1 fun e f2 => e = .returned (.tuple #[]) ∧
 R (.tuple #[]) f2)
 (
 R (.tuple #[]) w)))))))))))))) :
 CR pP 93 #[(.iface 158 (.pointer (some A1))), (.pointer (some A0))] w R :=
 yaA Tryz.wide_mixed (an := []) Tryz.func93 rfl rfl (by kernel_rfl) rfl (Eq.mpr (by kernel_rfl) h)
theorem yIu {b0 : BA} {b9 a7 : BA} (h :
 ∀ b1, w.heap.size ≤ b1 →
 brB (decide (i0 < 0)) (
 ∀ w2, Adv [] [b1] w w2 →
 R (.int .i64 41) w2)
 (
 brB (decide (i0 ≥ 13)) (
 ∀ w3, Adv [] [b1] w w3 →
 R (.int .i64 41) w3)
 (
 ∀ b4, w.heap.size ≤ b4 →
 ∀ w5, Adv [] [b4, b1] w w5 → hpC w5 b1 (Z1 i0 b0 i1 i2 i3 i4 i5 i6 q0 n0 n1 b9 a7 i7 B0 q1 n2 n3) 49 →
 hpC w5 b4 #[.bool false, .bool false, .int .i64 0] 160 →
 Calls pP 93 #[(.iface 158 (.pointer (some ⟨b4, 0, none⟩))), (.pointer (some ⟨b1, 0, none⟩))] w5 fun e w6 => e = .returned (.tuple #[]) ∧ ∃ x7 s8 x9 d3 d4 d5 d6 d7 c1 c5 c3 c7 c8 d8 c9 c2 c6 c4, hpC w6 b1 (Z1 x7 s8 x9 d3 d4 d5 d6 d7 c1 c5 c3 c7 c8 d8 c9 c2 c6 c4) 49 ∧ ∃ d0 d9 e0, hpC w6 b4 #[.bool d0, .bool d9, .int .i64 e0] 160 ∧
 brB d0 (
 ∀ d1, Adv [b1] [] w6 d1 → hpC d1 b1 (Z1 0 s8 x9 d3 d4 d5 d6 d7 c1 c5 c3 c7 c8 d8 c9 c2 c6 c4) 49 →
 hpC d1 b4 #[.bool d0, .bool d9, .int .i64 e0] 160 →
 R (.int .i64 40) d1)
 (
 ∀ d2, Adv [b1] [] w6 d2 → hpC d2 b1 (Z1 0 s8 x9 d3 d4 d5 d6 d7 c1 c5 c3 c7 c8 d8 c9 c2 c6 c4) 49 →
 hpC d2 b4 #[.bool d0, .bool d9, .int .i64 e0] 160 →
 Calls pP 72 #[(.agg (Z1 0 s8 x9 d3 d4 d5 d6 d7 c1 c5 c3 c7 c8 d8 c9 c2 c6 c4)), (.agg (Z1 0 ByteArray.empty 0 0 0 0 0 0 none 0 0 ByteArray.empty ByteArray.empty 0 false none 0 0))] d2 fun e c0 => ∃ e1, e = .returned (.bool e1) ∧ ∃ f5 f0 f6 f7 f8 f9 g0 g1 e4 e8 e6 f1 f2 g2 f3 e5 e9 e7, hpC c0 b1 (Z1 f5 f0 f6 f7 f8 f9 g0 g1 e4 e8 e6 f1 f2 g2 f3 e5 e9 e7) 49 ∧ ∃ f4 e2 e3, hpC c0 b4 #[.bool f4, .bool e2, .int .i64 e3] 160 ∧
 brB (!e1) (
 R (.int .i64 40) c0)
 (
 brB e2 (
 R (.int .i64 1) c0)
 (
 R (.int .i64 e3) c0)))))) :
 CR pP 92 #[(.agg (Z1 i0 b0 i1 i2 i3 i4 i5 i6 q0 n0 n1 b9 a7 i7 B0 q1 n2 n3))] w R :=
 yaA Tryz.wide_mixed (an := []) Tryz.func92 rfl rfl (by kernel_rfl) rfl (Eq.mpr (by kernel_rfl) h)
end
theorem yIv {w : World} {a1 a2 : OA} {n1 c1 n2 c2 : Nat} {l1 l2 : List BA} (h1 : yb3 w 1 yiO a1 n1 l1) (h2 : yb3 w 1 yiO a2 n2 l2) (hl : l1.length ≤ 1000000) :
  Calls pP 107 #[.slice a1 n1 c1, .slice a2 n2 c2] w fun e w' => e = .returned (.bool (decide (l1 = l2))) ∧ Mod [] w w' := by
 refine yaP (yH9 ?_)
 have e1 := h1.1
 have e2 := h2.1
 refine yaB (fun h => ⟨congrArg Value.bool (decide_eq_false fun e => ?_).symm, Mod.refl _⟩) fun h => ?_
 ·subst e
  rw [e1, e2] at h
  simp at h
 have hlen : l1.length = l2.length := by
  simp at h
  omega
 refine yAc (fun mm x w' => ∃ k : Nat, x = k ∧ k ≤ l1.length ∧ l1.take k = l2.take k ∧ Mod [] w w' ∧ mm = l1.length - k) l1.length ⟨0, rfl, by omega, by simp, Mod.refl _, rfl⟩ ?_
 rintro mm x w1 ⟨k, rfl, hk, ht, M, rfl⟩
 refine yaC (fun hlt => ?_) fun hge => ?_
 ·have g1 : k < l1.length := by omega
  have g2 : k < l2.length := by omega
  obtain ⟨x, hx⟩ : ∃ x, l1[k]? = some x := ⟨_, List.getElem?_eq_getElem g1⟩
  obtain ⟨y, hy⟩ : ∃ y, l2[k]? = some y := ⟨_, List.getElem?_eq_getElem g2⟩
  refine (h1.keep0 M).ix hx fun q hq => yaG (by simpa [add_zero] using hq 0 _ rfl) ?_
  refine (h2.keep0 M).ix hy fun q hq => yaG (by simpa [add_zero] using hq 0 _ rfl) ?_
  rw [yf2 x y]
  refine yaB (fun hne => ?_) fun heq => ?_
  rotate_left
  rotate_right
  ·intro w2 A2
   refine ⟨congrArg Value.bool (decide_eq_false fun e => (show ¬ x = y by simpa using hne) ?_).symm, M.go0 A2.mod (by simp)⟩
   subst e
   rw [hx] at hy
   exact Option.some.inj hy
  ·intro w2 A2
   have he : x = y := by simpa using heq
   subst he
   exact yAb (l1.length - (k + 1)) (by omega) ⟨k + 1, by rw [yaH (by omega) (by omega)]; omega, by omega, ycB ht hx hy, M.go0 A2.mod (by simp), rfl⟩
 ·have hk : k = l1.length := by omega
  subst hk
  rw [List.take_length, hlen, List.take_length] at ht
  exact ⟨congrArg Value.bool (decide_eq_true ht).symm, M⟩
theorem neR (x y : PRec) (o1 o2 : Operand) (w : World) : Sem.run pP (do eqGuard .neq 53 o1 o2 x.v y.v; Go.binOp .neq 53 x.v y.v) w = .ok (.bool (decide (x ≠ y))) w := by
 obtain ⟨a, b, c, d⟩ := x
 obtain ⟨a', b', c', d'⟩ := y
 simp [go_sem, Sem.run_bind, PRec.v]
 by_cases h1 : a = a' <;> by_cases h2 : b = b' <;> by_cases h3 : c = c' <;> by_cases h4 : d = d' <;> simp [h1, h2, h3, h4, ydM]
theorem yKz (x y : PPart) (o1 o2 : Operand) (w : World) : Sem.run pP (do eqGuard .eql 43 o1 o2 x.v y.v; Go.binOp .eql 43 x.v y.v) w = .ok (.bool (decide (x = y))) w := by
 obtain ⟨a, b⟩ := x
 obtain ⟨a', b'⟩ := y
 simp [go_sem, Sem.run_bind, PPart.v]
 by_cases h1 : a = a' <;> by_cases h2 : b = b' <;> simp [h1, h2, ydM]
theorem yIw {w : World} {a1 a2 : OA} {n1 c1 n2 c2 : Nat} {l1 l2 : List PRec} (h1 : yb3 w 4 ye7 a1 n1 l1) (h2 : yb3 w 4 ye7 a2 n2 l2) (hl : l1.length ≤ 1000000) :
  Calls pP 129 #[.slice a1 n1 c1, .slice a2 n2 c2] w fun e w' => e = .returned (.bool (decide (l1 = l2))) ∧ Mod [] w w' := by
 refine yaP (yIc ?_)
 have e1 := h1.1
 have e2 := h2.1
 refine yaB (fun h => ⟨congrArg Value.bool (decide_eq_false fun e => ?_).symm, Mod.refl _⟩) fun h => ?_
 ·subst e
  rw [e1, e2] at h
  simp at h
 have hlen : l1.length = l2.length := by
  simp at h
  omega
 refine yAe (fun mm x w' => ∃ k : Nat, x = k ∧ k ≤ l1.length ∧ l1.take k = l2.take k ∧ Mod [] w w' ∧ mm = l1.length - k) l1.length ⟨0, rfl, by omega, by simp, Mod.refl _, rfl⟩ ?_
 rintro mm x w1 ⟨k, rfl, hk, ht, M, rfl⟩
 refine yaC (fun hlt => ?_) fun hge => ?_
 ·have g1 : k < l1.length := by omega
  have g2 : k < l2.length := by omega
  obtain ⟨x, hx⟩ : ∃ x, l1[k]? = some x := ⟨_, List.getElem?_eq_getElem g1⟩
  obtain ⟨y, hy⟩ : ∃ y, l2[k]? = some y := ⟨_, List.getElem?_eq_getElem g2⟩
  refine (h1.keep0 M).ix hx fun q hq => yaN (by simpa [add_zero] using hq 0 _ rfl) (yaG (hq 1 _ rfl) (yaN (hq 2 _ rfl) (yaG (hq 3 _ rfl) ?_)))
  refine (h2.keep0 M).ix hy fun q hq => yaN (by simpa [add_zero] using hq 0 _ rfl) (yaG (hq 1 _ rfl) (yaN (hq 2 _ rfl) (yaG (hq 3 _ rfl) ?_)))
  refine ⟨_, fun w' _ => neR x y _ _ w', ?_⟩
  refine yaC (fun hne => ?_) fun heq => ?_
  ·intro w2 A2
   refine ⟨congrArg Value.bool (decide_eq_false fun e => hne ?_).symm, M.go0 A2.mod (by simp)⟩
   subst e
   rw [hx] at hy
   exact Option.some.inj hy
  ·intro w2 A2
   have he : x = y := Decidable.not_not.1 heq
   subst he
   exact yAd (l1.length - (k + 1)) (by omega) ⟨k + 1, by rw [yaH (by omega) (by omega)]; omega, by omega, ycB ht hx hy, M.go0 A2.mod (by simp), rfl⟩
 ·have hk : k = l1.length := by omega
  subst hk
  rw [List.take_length, hlen, List.take_length] at ht
  exact ⟨congrArg Value.bool (decide_eq_true ht).symm, M⟩
def PBatch.v (b : PBatch) (rs : Sl) : Value := .agg #[.int .i64 b.prod, .int .i64 b.epoch, .int .i64 b.seq, .slice rs.a rs.n rs.c]
theorem yvU {w : World} {x y : PBatch} {s t : Sl} (h1 : yb3 w 4 ye7 s.a s.n x.recs) (h2 : yb3 w 4 ye7 t.a t.n y.recs) (hl : x.recs.length ≤ 1000000) :
  Calls pP 106 #[x.v s, y.v t] w fun e w' => e = .returned (.bool (decide (x = y))) ∧ Mod [] w w' := by
 obtain ⟨a1, a2, a3, a4⟩ := x
 obtain ⟨b1, b2, b3, b4⟩ := y
 refine yaP (yH5 ?_)
 intro c1 f1 c2 f2
 simp only [PBatch.mk.injEq]
 refine yaB (fun g1 => ?_) fun g1 => ?_
 ·have g1 : a1 = b1 := by simpa using g1
  refine yaB (fun g2 => ?_) fun g2 => ?_
  ·have g2 : a2 = b2 := by simpa using g2
   refine yaB (fun g3 => ?_) fun g3 => ?_
   ·have g3 : a3 = b3 := by simpa using g3
    intro w1 A1
    refine (yIw (h1.keep0 A1.mod) (h2.keep0 A1.mod) hl).mono ?_
    rintro e w2 ⟨rfl, M2⟩
    exact ⟨_, rfl, yaE.of0 M2, by simp [g1, g2, g3], A1.mod.go0 M2 (by simp)⟩
   ·intro w1 A1
    exact ⟨congrArg Value.bool (decide_eq_false (by simp at g3; rintro ⟨_, _, h, _⟩; exact g3 h)).symm, A1.mod⟩
  ·intro w1 A1
   exact ⟨congrArg Value.bool (decide_eq_false (by simp at g2; rintro ⟨_, h, _⟩; exact g2 h)).symm, A1.mod⟩
 ·intro w1 A1
  exact ⟨congrArg Value.bool (decide_eq_false (by simp at g1; rintro ⟨h, _⟩; exact g1 h)).symm, A1.mod⟩
theorem yp6 {w : World} {x y : POp} {rs ts rs' ts' : Sl} (h1 : OpAt w x rs ts) (h2 : OpAt w y rs' ts') :
  Calls pP 72 #[x.v rs ts, y.v rs' ts'] w fun e w' => e = .returned (.bool (decide (x = y))) ∧ Mod [] w w' := by
 obtain ⟨k1, p1, n1, o1, b1, g1, m1, e1, r1, t1⟩ := x
 obtain ⟨k2, p2, n2, o2, b2, g2, m2, e2, r2, t2⟩ := y
 refine yaP (yH6 ?_)
 intro c1 f1 c2 f2
 simp only [POp.mk.injEq]
 have no : ∀ {P : Prop} [Decidable P] {w' : World}, ¬ P → Mod [] w w' → (Value.bool false = Value.bool (decide P) ∧ Mod [] w w') := fun hn M => ⟨congrArg Value.bool (decide_eq_false hn).symm, M⟩
 refine yaB (fun q1 => ?_) fun q1 => ?_
 rotate_left
 ·intro w1 A1
  exact no (by simp at q1; rintro ⟨h, _⟩; exact q1 h) A1.mod
 have q1 : k1 = k2 := by simpa using q1
 intro w1 A1
 have M1 := A1.mod
 refine ⟨_, fun w' _ => yKz p1 p2 _ _ w', yaB (fun q2 => ?_) fun q2 => no (by simp at q2; rintro ⟨_, h, _⟩; exact q2 h) M1⟩
 have q2 : p1 = p2 := by simpa using q2
 refine yaB (fun q3 => ?_) fun q3 => no (by simp at q3; rintro ⟨_, _, h, _⟩; exact q3 h) M1
 have q3 : n1 = n2 := by simpa using q3
 refine yaB (fun q4 => ?_) fun q4 => no (by simp at q4; rintro ⟨_, _, _, h, _⟩; exact q4 h) M1
 have q4 : o1 = o2 := by simpa using q4
 rw [yf2, yf2]
 refine yaB (fun q5 => ?_) fun q5 => no (by simp at q5; rintro ⟨_, _, _, _, _, h, _⟩; exact q5 h) M1
 have q5 : g1 = g2 := by simpa using q5
 refine yaB (fun q6 => ?_) fun q6 => no (by simp at q6; rintro ⟨_, _, _, _, _, _, h, _⟩; exact q6 h) M1
 have q6 : m1 = m2 := by simpa using q6
 refine yaB (fun q7 => ?_) fun q7 => no (by simp at q7; rintro ⟨_, _, _, _, _, _, _, h, _⟩; exact q7 h) M1
 have q7 : e1 = e2 := by simpa using q7
 refine yaB (fun q8 => ?_) fun q8 => no (by simp at q8; rintro ⟨_, _, _, _, _, _, _, _, h, _⟩; exact q8 h) M1
 have q8 : r1 = r2 := by simpa using q8
 refine (yvU (x := b1) (y := b2) (s := rs) (t := rs') (h1.recs.keep0 M1) (h2.recs.keep0 M1) h1.lr).mono ?_
 rintro e w2 ⟨rfl, M2⟩
 have N2 := M1.go0 M2 (by simp)
 refine ⟨_, rfl, yaE.of0 M2, yaB (fun q9 => ?_) fun q9 => no (by simp at q9; rintro ⟨_, _, _, _, h, _⟩; exact q9 h) N2⟩
 have q9 : b1 = b2 := by simpa using q9
 refine (yIv (h1.topics.keep0 N2) (h2.topics.keep0 N2) h1.lt).mono ?_
 rintro e w3 ⟨rfl, M3⟩
 exact ⟨_, rfl, yaE.of0 M3, by simp [q1, q2, q3, q4, q5, q6, q7, q8, q9], N2.go0 M3 (by simp)⟩
theorem yj5 (n : Int) (w : World) : Calls pP 164 #[.int .i64 n] w fun e w' => e = .returned (.bool (num n)) ∧ w' = w :=
 yaP (yHE (yaC (fun h => ⟨by simp [num]; omega, rfl⟩) (fun h => ⟨by simp [num]; omega, rfl⟩)))
theorem yp7 {l : List PRec} {k : Nat} {x : PRec} (hx : l[k]? = some x) (h : ∀ y ∈ l.take k, yfQ y = 0) (hne : yfQ x ≠ 0) : (l.find? fun r => yfQ r ≠ 0) = some x := by
 have hk : k < l.length := (List.getElem?_eq_some_iff.1 hx).1
 have e : l = l.take k ++ x :: l.drop (k + 1) := by
  have h2 : l[k] = x := (List.getElem?_eq_some_iff.1 hx).2
  conv => lhs; rw [← List.take_append_drop k l, List.drop_eq_getElem_cons hk, h2]
 rw [e, List.find?_append, List.find?_eq_none.2 (by intro y hy; simp [h y hy])]
 simp [hne]
theorem yp8 {w : World} {b : PBatch} {rs : Sl} (h : yb3 w 4 ye7 rs.a rs.n b.recs) (hl : b.recs.length ≤ 1000000) :
  Calls pP 163 #[b.v rs] w fun e w' => e = .returned (.int .i64 (ybD b)) ∧ Mod [] w w' := by
 refine yaP (yHH ?_)
 have hn := h.1
 intro b1 f1 w1 A1
 have l1 := A1.lt b1 (by simp)
 have bad : ∀ {k : Int} {w' : World}, ybD b = k → Mod [] w w' → (Value.int .i64 k = Value.int .i64 (ybD b) ∧ Mod [] w w') := fun e M => ⟨by rw [e], M⟩
 refine (yj5 b.prod w1).mono ?_
 rintro e w2 ⟨rfl, rfl⟩
 refine ⟨_, rfl, yaE.of0 (Mod.refl _), yaB (fun q1 => bad (by rw [ybD, if_pos (by rw [yi1 q1]; rfl)]) A1.mod) fun q1 => ?_⟩
 refine (yj5 b.epoch w2).mono ?_
 rintro e w3 ⟨rfl, rfl⟩
 refine ⟨_, rfl, yaE.of0 (Mod.refl _), yaB (fun q2 => bad (by rw [ybD, if_pos (by rw [yi1 q2]; simp)]) A1.mod) fun q2 => ?_⟩
 refine (yj5 b.seq w3).mono ?_
 rintro e w4 ⟨rfl, rfl⟩
 refine ⟨_, rfl, yaE.of0 (Mod.refl _), yaB (fun q3 => bad (by rw [ybD, if_pos (by rw [yi1 q3]; simp)]) A1.mod) fun q3 => ?_⟩
 have e0 : ybD b = if b.recs.length = 0 then 30 else if b.recs.length > 16 then 2 else match b.recs.find? fun r => yfQ r ≠ 0 with | none => 0 | some r => yfQ r := by
  rw [ybD, if_neg (by rw [yhJ q1, yhJ q2, yhJ q3]; decide)]; rfl
 refine yaB (fun q4 => bad (by rw [e0, if_pos (by simp at q4; omega)]) A1.mod) fun q4 => ?_
 rw [if_neg (by simp at q4; omega)] at e0
 refine yaC (fun q5 => bad (by rw [e0, if_pos (by omega)]) A1.mod) fun q5 => ?_
 rw [if_neg (by omega)] at e0
 refine yzS (fun mm x w' => ∃ k : Nat, x = k ∧ k ≤ b.recs.length ∧ (∀ y ∈ b.recs.take k, yfQ y = 0) ∧ Mod [] w w' ∧ mm = b.recs.length - k) b.recs.length ⟨0, rfl, by omega, by simp, A1.mod, rfl⟩ ?_
 rintro mm x w5 ⟨k, rfl, hk, hz, M5, rfl⟩
 refine yaC (fun hlt => ?_) fun hge => ?_
 ·obtain ⟨y, hy⟩ : ∃ y, b.recs[k]? = some y := ⟨_, List.getElem?_eq_getElem (by omega)⟩
  refine (h.keep0 M5).ix hy fun q hq => yaN (by simpa [add_zero] using hq 0 _ rfl) (yaG (hq 1 _ rfl) (yaN (hq 2 _ rfl) (yaG (hq 3 _ rfl) ?_)))
  intro b6 f6 w6 A6
  refine (yeZ y w6).mono ?_
  rintro e w7 ⟨rfl, M7⟩
  have N7 := (M5.go0 A6.mod (by simp)).go0 M7 (by simp)
  refine ⟨_, rfl, yaE.of0 M7, yaB (fun q6 => ?_) fun q6 => ?_⟩
  ·have q6 : yfQ y ≠ 0 := by simpa using q6
   exact bad (by rw [e0, yp7 hy hz q6]) N7
  ·have q6 : yfQ y = 0 := by simpa using q6
   refine yzR (b.recs.length - (k + 1)) (by omega) ⟨k + 1, by rw [yaH (by omega) (by omega)]; omega, by omega, ?_, N7, rfl⟩
   rw [List.take_add_one, hy]
   intro z hz'
   rcases List.mem_append.1 hz' with h | h
   ·exact hz z h
   ·simp at h; subst h; exact q6
 ·have : k = b.recs.length := by omega
  subst this
  rw [List.take_length] at hz
  refine bad ?_ M5
  rw [e0, List.find?_eq_none.2 (by intro y hy; simp [hz y hy])]
structure ChSt (w0 w : World) (bc bo : Nat) (F A : Bool) (E : Int) (cs : List Value) : Prop where
 c : w.heap[bc]? = some (.cells #[.bool F, .bool A, .int .i64 E] 160)
 o : w.heap[bo]? = some (.cells cs.toArray 49)
 m : Mod [bc, bo] w0 w
 ne : bc ≠ bo
theorem ChSt.adv {w0 w w' : World} {bc bo : Nat} {F A : Bool} {E : Int} {cs : List Value} (h : ChSt w0 w bc bo F A E cs) {N : List Nat} (M : Adv [] N w w') : ChSt w0 w' bc bo F A E cs :=
 ⟨M.mod.keep0 h.c, M.mod.keep0 h.o, (h.m.trans M.mod).less (by simp), h.ne⟩
theorem ChSt.m0 {w0 w w' : World} {bc bo : Nat} {F A : Bool} {E : Int} {cs : List Value} (h : ChSt w0 w bc bo F A E cs) (M : Mod [] w w') : ChSt w0 w' bc bo F A E cs :=
 ⟨M.keep0 h.c, M.keep0 h.o, (h.m.trans M).less (by simp), h.ne⟩
theorem ChSt.setC {w0 w w' : World} {bc bo : Nat} {F A F' A' : Bool} {E E' : Int} {cs : List Value} (h : ChSt w0 w bc bo F A E cs) (hc : w'.heap[bc]? = some (.cells #[.bool F', .bool A', .int .i64 E'] 160)) (M : Mod [bc] w w') : ChSt w0 w' bc bo F' A' E' cs :=
 ⟨hc, M.keep h.o (by simpa using h.ne.symm), (h.m.trans M).less (by simp), h.ne⟩
theorem ChSt.setO {w0 w w' : World} {bc bo : Nat} {F A : Bool} {E : Int} {cs cs' : List Value} (h : ChSt w0 w bc bo F A E cs) (ho : w'.heap[bo]? = some (.cells cs'.toArray 49)) (M : Mod [bo] w w') : ChSt w0 w' bc bo F A E cs' :=
 ⟨M.keep h.c (by simpa using h.ne), ho, (h.m.trans M).less (by simp), h.ne⟩
theorem yGu {cs : List Value} {off : Nat} {v : Value} : ycJ cs.toArray off [v] = (cs.set off v).toArray := by simp [ycJ]
theorem ylW {w0 w : World} {bc bo off : Nat} {F A : Bool} {E x : Int} {cs : List Value} {R : World → Prop} (H : ChSt w0 w bc bo F A E cs) (hc : cs[off]? = some (.int .i64 x)) (k : ∀ w', ChSt w0 w' bc bo F (A || !num x) E (cs.set off (.int .i64 0)) → R w') :
  Calls pP 176 #[.pointer (some ⟨bc, 0, none⟩), .pointer (some ⟨bo, off, none⟩)] w fun e w' => e = .returned (.tuple #[]) ∧ R w' := by
 have hlt : off < cs.length := (List.getElem?_eq_some_iff.1 hc).1
 refine yaP (yIf ?_)
 refine yjG (b := bc) (i := 1) H.c rfl ?_
 refine yaB (fun g => ?_) fun g => ?_
 ·subst g
  refine ydR (b := bc) (o := 1) H.c rfl (by simp) fun w1 h1 M1 => ?_
  have H1 := H.setC (F' := F) (A' := true) (E' := E) h1 M1
  refine ydR (b := bo) (o := off) H1.o rfl (by simp; omega) fun w2 h2 M2 => ?_
  exact ⟨rfl, k w2 (H1.setO (by rw [h2, yGu]) M2)⟩
 ·subst g
  refine yfO (b := bo) (i := off) H.o (by simpa using hc) ?_
  refine (yc3 x w).mono ?_
  rintro e w1 ⟨rfl, rfl⟩
  refine ⟨_, rfl, ?_⟩
  refine ydR (b := bc) (o := 1) H.c rfl (by simp) fun w2 h2 M2 => ?_
  have H2 := H.setC (F' := F) (A' := !num x) (E' := E) h2 M2
  refine ydR (b := bo) (o := off) H2.o rfl (by simp; omega) fun w3 h3 M3 => ?_
  exact ⟨rfl, k w3 (H2.setO (by rw [h3, yGu]) M3)⟩
theorem ye0 {w0 w : World} {bc bo off : Nat} {F A : Bool} {E : Int} {x : BA} {cs : List Value} {R : World → Prop} (H : ChSt w0 w bc bo F A E cs) (hc : cs[off]? = some (.string x)) (k : ∀ w', ChSt w0 w' bc bo (F || !nameB x) A E (cs.set off (.string es)) → R w') :
  Calls pP 174 #[.pointer (some ⟨bc, 0, none⟩), .pointer (some ⟨bo, off, none⟩)] w fun e w' => e = .returned (.tuple #[]) ∧ R w' := by
 have hlt : off < cs.length := (List.getElem?_eq_some_iff.1 hc).1
 refine yaP (yIg ?_)
 refine yjG (b := bc) (i := 0) H.c rfl ?_
 refine yaB (fun g => ?_) fun g => ?_
 ·subst g
  refine ydR (b := bc) (o := 0) H.c rfl (by simp) fun w1 h1 M1 => ?_
  have H1 := H.setC (F' := true) (A' := A) (E' := E) h1 M1
  refine ydR (b := bo) (o := off) H1.o rfl (by simp; omega) fun w2 h2 M2 => ?_
  exact ⟨rfl, k w2 (H1.setO (by rw [h2, yGu]; rfl) M2)⟩
 ·subst g
  refine yB6 (b := bo) (i := off) H.o (by simpa using hc) ?_
  refine (yrI x w).mono ?_
  rintro e w1 ⟨rfl, M1⟩
  have H1 := H.m0 M1
  refine ⟨_, rfl, ?_⟩
  refine ydR (b := bc) (o := 0) H1.c rfl (by simp) fun w2 h2 M2 => ?_
  have H2 := H1.setC (F' := !nameB x) (A' := A) (E' := E) h2 M2
  refine ydR (b := bo) (o := off) H2.o rfl (by simp; omega) fun w3 h3 M3 => ?_
  exact ⟨rfl, k w3 (H2.setO (by rw [h3, yGu]; rfl) M3)⟩
theorem yr4 {w0 w : World} {bc bo off : Nat} {F A : Bool} {E : Int} {x : Bool} {cs : List Value} {R : World → Prop} (H : ChSt w0 w bc bo F A E cs) (hc : cs[off]? = some (.bool x)) (k : ∀ w', ChSt w0 w' bc bo F A E (cs.set off (.bool false)) → R w') :
  Calls pP 173 #[.pointer (some ⟨bc, 0, none⟩), .pointer (some ⟨bo, off, none⟩)] w fun e w' => e = .returned (.tuple #[]) ∧ R w' := by
 have hlt : off < cs.length := (List.getElem?_eq_some_iff.1 hc).1
 refine yaP (yIh ?_)
 refine ydR (b := bo) (o := off) H.o rfl (by simp; omega) fun w2 h2 M2 => ?_
 exact ⟨rfl, k w2 (H.setO (by rw [h2, yGu]) M2)⟩
theorem yp9 {w0 w : World} {bc bo : Nat} {F A : Bool} {E : Int} {b : PBatch} {rs : Sl} {cs : List Value} {R : World → Prop} (H : ChSt w0 w bc bo F A E cs) (h5 : cs[5]? = some (.int .i64 b.prod)) (h6 : cs[6]? = some (.int .i64 b.epoch)) (h7 : cs[7]? = some (.int .i64 b.seq)) (h8 : cs[8]? = some (.slice rs.a rs.n rs.c))
  (hs : yb3 w 4 ye7 rs.a rs.n b.recs) (hl : b.recs.length ≤ 1000000) (k : ∀ w', ChSt w0 w' bc bo F A (ybD b) ((((cs.set 5 (.int .i64 0)).set 6 (.int .i64 0)).set 7 (.int .i64 0)).set 8 (.slice none 0 0)) → R w') :
  Calls pP 172 #[.pointer (some ⟨bc, 0, none⟩), .pointer (some ⟨bo, 5, none⟩)] w fun e w' => e = .returned (.tuple #[]) ∧ R w' := by
 have hlt : 8 < cs.length := (List.getElem?_eq_some_iff.1 h8).1
 refine yaP (yIi ?_)
 refine yfO (b := bo) (i := 5) H.o (by simpa using h5) (yfO (b := bo) (i := 6) H.o (by simpa using h6) (yfO (b := bo) (i := 7) H.o (by simpa using h7) (yc0 (b := bo) (i := 8) H.o (by simpa using h8) ?_)))
 refine (yp8 (b := b) (rs := rs) hs hl).mono ?_
 rintro e w1 ⟨rfl, M1⟩
 have H1 := H.m0 M1
 refine ⟨_, rfl, ?_⟩
 refine ydR (b := bc) (o := 2) H1.c rfl (by simp) fun w2 h2 M2 => ?_
 have H2 := H1.setC (F' := F) (A' := A) (E' := ybD b) h2 M2
 refine ydR (b := bo) (o := 5) H2.o rfl (by simp; omega) fun w3 h3 M3 => ?_
 exact ⟨rfl, k w3 (H2.setO (by rw [h3]; simp [ycJ]) M3)⟩
theorem yIx (s : BA) (w : World) : Calls pP 178 #[.string s] w fun e w' => e = .returned (.bool (!nameB s)) ∧ Mod [] w w' := by
 refine yaP (yIm ?_)
 refine (yrI s w).mono ?_
 rintro e w1 ⟨rfl, M1⟩
 exact ⟨_, rfl, rfl, M1⟩
theorem yr5 {w : World} {a : OA} {n c : Nat} {l : List BA} (h : yb3 w 1 yiO a n l) (hl : l.length ≤ 1000000) :
  Calls pP 179 #[.slice a n c, .func (.func 178) #[] #[]] w fun e w' => ∃ v, e = .returned v ∧ ∃ x : Int, v = .int .i64 x ∧ (0 ≤ x ↔ l.all ybO = false) ∧ Mod [] w w' := by
 refine yIq ?_
 have hn := h.1
 refine yAi (fun mm x w' => ∃ k : Nat, x = k ∧ k ≤ l.length ∧ (l.take k).all ybO = true ∧ Mod [] w w' ∧ mm = l.length - k) l.length ⟨0, rfl, by omega, by simp, Mod.refl _, rfl⟩ ?_
 rintro mm x w1 ⟨k, rfl, hk, ha, M1, rfl⟩
 refine yaC (fun hlt => ?_) fun hge => ?_
 ·obtain ⟨y, hy⟩ : ∃ y, l[k]? = some y := ⟨_, List.getElem?_eq_getElem (by omega)⟩
  refine (h.keep0 M1).ix hy fun q hq => yaG (by simpa [add_zero] using hq 0 _ rfl) ?_
  refine (yIx y w1).mono ?_
  rintro e w2 ⟨rfl, M2⟩
  have N2 := M1.go0 M2 (by simp)
  refine ⟨_, rfl, yaB (fun g => ?_) fun g => ?_⟩
  ·refine ⟨_, rfl, ⟨fun _ => ?_, fun _ => by omega⟩, N2⟩
   rw [List.all_eq_false]
   exact ⟨y, List.mem_of_getElem? hy, by simpa using g⟩
  ·refine yAh (l.length - (k + 1)) (by omega) ⟨k + 1, by rw [yaH (by omega) (by omega)]; omega, by omega, ?_, N2, rfl⟩
   rw [yb6 hy, ha]; simpa using g
 ·have : k = l.length := by omega
  subst this
  rw [List.take_length] at ha
  exact ⟨_, rfl, ⟨fun h => by omega, fun h => by rw [ha] at h; cases h⟩, M1⟩
theorem ykX {w : World} {a : OA} {n c : Nat} {l : List BA} (h : yb3 w 1 yiO a n l) (hl : l.length ≤ 1000000) :
  Calls pP 177 #[.slice a n c, .func (.func 178) #[] #[]] w fun e w' => e = .returned (.bool (!l.all ybO)) ∧ Mod [] w w' := by
 refine yaP (yIn ?_)
 refine (yr5 h hl).mono ?_
 rintro e w1 ⟨_, rfl, x, rfl, hx, M1⟩
 refine ⟨_, rfl, congrArg Value.bool ?_, M1⟩
 cases ha : l.all ybO
 ·exact decide_eq_true (hx.2 ha)
 ·exact decide_eq_false fun h => by have := hx.1 h; rw [ha] at this; cases this
theorem ylX : ∀ (l : List BA) (x y : BA), yeI (l ++ [x, y]) = (yeI (l ++ [x]) && yrS x y)
 | [], x, y => by simp [yeI]
 | [a], x, y => by simp [yeI, Bool.and_assoc]
 | a :: b :: r, x, y => by
  have := ylX (b :: r) x y
  simp only [List.cons_append] at this ⊢
  rw [yeI, yeI, this, Bool.and_assoc]
theorem yfF {l : List BA} {k : Nat} {x y : BA} (hx : l[k]? = some x) (hy : l[k + 1]? = some y) : yeI (l.take (k + 2)) = (yeI (l.take (k + 1)) && yrS x y) := by
 have e1 : l.take (k + 1) = l.take k ++ [x] := by rw [List.take_add_one, hx]; rfl
 have e2 : l.take (k + 2) = l.take k ++ [x, y] := by rw [List.take_add_one, hy, e1]; simp
 rw [e1, e2, ylX]
theorem yqA {w0 w : World} {bc bo : Nat} {F A : Bool} {E : Int} {l : List BA} {ts : Sl} {cs : List Value} {R : World → Prop} (H : ChSt w0 w bc bo F A E cs) (hc : cs[13]? = some (.slice ts.a ts.n ts.c))
  (hs : yb3 w 1 yiO ts.a ts.n l) (hl : l.length ≤ 1000000) (k : ∀ w', ChSt w0 w' bc bo (F || !namesB l) A E (cs.set 13 (.slice none 0 0)) → R w') :
  Calls pP 175 #[.pointer (some ⟨bc, 0, none⟩), .pointer (some ⟨bo, 13, none⟩)] w fun e w' => e = .returned (.tuple #[]) ∧ R w' := by
 have hlt : 13 < cs.length := (List.getElem?_eq_some_iff.1 hc).1
 have hn := hs.1
 refine yaP (yIl ?_)
 refine yAg (fun mm t x w' => ∃ j : Nat, x = ((j + 1 : Nat) : Int) ∧ j ≤ l.length ∧ t = yeI (l.take (j + 1)) ∧ Mod [] w w' ∧ mm = l.length - j) l.length ⟨0, rfl, by omega, ?_, Mod.refl _, rfl⟩ ?_
 ·cases l <;> simp [yeI]
 rintro mm t x w1 ⟨j, rfl, hj, rfl, M1, rfl⟩
 have H1 := H.m0 M1
 have hcell : cs.toArray[13]? = some (.slice ts.a ts.n ts.c) := by simpa using hc
 refine yc0 (b := bo) (i := 13) H1.o hcell ?_
 refine yaC (fun hlt2 => ?_) fun hge => ?_
 ·have g1 : j + 1 < l.length := by omega
  obtain ⟨x, hx⟩ : ∃ x, l[j]? = some x := ⟨_, List.getElem?_eq_getElem (by omega)⟩
  obtain ⟨y, hy⟩ : ∃ y, l[j + 1]? = some y := ⟨_, List.getElem?_eq_getElem g1⟩
  have ew : iw .i64 (((j + 1 : Nat) : Int) + 1) = ((j + 1 + 1 : Nat) : Int) := by rw [yaH (by omega) (by omega)]; omega
  have em : iw .i64 (((j + 1 : Nat) : Int) - 1) = (j : Int) := by rw [yaH (by omega) (by omega)]; omega
  refine yaB (fun g => ?_) fun g => ?_
  ·refine yc0 (b := bo) (i := 13) H1.o hcell ?_
   rw [em]
   refine (hs.keep0 M1).ix hx fun q hq => yaG (x := x) (by simpa [add_zero] using hq 0 _ rfl) ?_
   refine yc0 (b := bo) (i := 13) H1.o hcell ?_
   refine (hs.keep0 M1).ix hy fun q hq => yaG (x := y) (by simpa [add_zero] using hq 0 _ rfl) ?_
   intro w2 A2
   refine yp5 (l.length - (j + 1)) (by omega) ⟨j + 1, ew, by omega, ?_, M1.go0 A2.mod (by simp), rfl⟩
   rw [yfF hx hy, g]; rfl
  ·intro w2 A2
   refine yp5 (l.length - (j + 1)) (by omega) ⟨j + 1, ew, by omega, ?_, M1.go0 A2.mod (by simp), rfl⟩
   rw [yfF hx hy, g]; rfl
 ·rw [List.take_of_length_le (by omega)]
  refine yc0 (b := bo) (i := 13) H1.o hcell ?_
  refine (ykX (hs.keep0 M1) hl).mono ?_
  rintro e w2 ⟨rfl, M2⟩
  have H2 := H1.m0 M2
  refine ⟨_, rfl, ?_⟩
  have fin : ∀ {f : Bool}, (F || !namesB l) = f → st w2 ⟨bc, 0, none⟩ [.bool f] fun w3 => st w3 ⟨bo, 13, none⟩ [.slice none 0 0] fun w4 => (Value.tuple #[] = Value.tuple #[] ∧ R w4) := fun {f} hf => by
   refine ydR (b := bc) (o := 0) H2.c rfl (by simp) fun w3 h3 M3 => ?_
   have H3 := H2.setC (F' := f) (A' := A) (E' := E) h3 M3
   refine ydR (b := bo) (o := 13) H3.o rfl (by simp; omega) fun w4 h4 M4 => ?_
   refine ⟨rfl, k w4 ?_⟩
   rw [hf]
   exact H3.setO (by rw [h4, yGu]) M4
  refine yjG (b := bc) (i := 0) H2.c rfl ?_
  refine yaB (fun g => fin (by rw [g]; rfl)) fun g => ?_
  subst g
  refine yc0 (b := bo) (i := 13) H2.o hcell ?_
  refine yaB (fun g => fin ?_) fun g => ?_
  ·have : l.length = 0 := by simp at g; omega
   simp [ycC, this]
  refine yc0 (b := bo) (i := 13) H2.o hcell ?_
  refine yaC (fun g2 => fin ?_) fun g2 => ?_
  ·have : ¬ (l.length ≤ 8) := by omega
   simp [ycC, this]
  have hl8 : decide (1 ≤ l.length ∧ l.length ≤ 8) = true := decide_eq_true (by simp at g; omega)
  refine yaB (fun g3 => fin ?_) fun g3 => fin ?_
  ·rw [ycC, yi1 g3]; simp
  ·rw [ycC, yhJ g3, hl8]; simp
theorem yr6 {w0 w : World} {bc bo : Nat} {F A : Bool} {E x : Int} {t : BA} {cs : List Value} {R : World → Prop} (H : ChSt w0 w bc bo F A E cs) (h1 : cs[1]? = some (.string t)) (h2 : cs[2]? = some (.int .i64 x)) (k : ∀ w', ChSt w0 w' bc bo (F || !nameB t) (A || !num x) E ((cs.set 1 (.string es)).set 2 (.int .i64 0)) → R w') :
  Calls pP 60 #[.iface 158 (.pointer (some ⟨bc, 0, none⟩)), .pointer (some ⟨bo, 1, none⟩)] w fun e w' => e = .returned (.tuple #[]) ∧ R w' := by
 refine yaP (yIr ?_)
 intro w1 A1
 refine ye0 (off := 1) (H.adv A1) h1 fun w2 H => ?_
 intro w3 A3
 refine ylW (off := 2) (x := x) (H.adv A3) (by rw [List.getElem?_set_ne (by decide)]; exact h2) fun w4 H => ?_
 exact ⟨rfl, k w4 H⟩
theorem ynM {w0 w : World} {bc bo : Nat} {F A : Bool} {E : Int} {g m : BA} {cs : List Value} {R : World → Prop} (H : ChSt w0 w bc bo F A E cs) (h1 : cs[9]? = some (.string g)) (h2 : cs[10]? = some (.string m)) (k : ∀ w', ChSt w0 w' bc bo ((F || !nameB g) || !nameB m) A E ((cs.set 9 (.string es)).set 10 (.string es)) → R w') :
  Calls pP 118 #[.iface 158 (.pointer (some ⟨bc, 0, none⟩)), .pointer (some ⟨bo, 0, none⟩)] w fun e w' => e = .returned (.tuple #[]) ∧ R w' := by
 refine yaP (yIs ?_)
 intro w1 A1
 refine ye0 (off := 9) (H.adv A1) h1 fun w2 H => ?_
 intro w3 A3
 refine ye0 (off := 10) (x := m) (H.adv A3) (by rw [List.getElem?_set_ne (by decide)]; exact h2) fun w4 H => ?_
 exact ⟨rfl, k w4 H⟩
def ybY : Sl := ⟨none, 0, 0⟩
def chR (o : POp) (rs : Sl) : Sl := if ha o.kind 98 then ybY else rs
def chT (o : POp) (ts : Sl) : Sl := if ha o.kind 114 then ybY else ts
set_option maxHeartbeats 2000000 in
theorem yqB {w0 w : World} {bc bo : Nat} {o : POp} {rs ts : Sl} {R : World → Prop} (H : ChSt w0 w bc bo false false 0 (o.cs rs ts)) (h0 : ¬ (o.kind < 0 ∨ o.kind > 12))
  (hop : ∀ w', Mod [bc, bo] w0 w' → OpAt w' o rs ts) (k : ∀ w', ChSt w0 w' bc bo (chF o) (chA o) (chE o) ((chO o).cs (chR o rs) (chT o ts)) → R w') :
  Calls pP 93 #[.iface 158 (.pointer (some ⟨bc, 0, none⟩)), .pointer (some ⟨bo, 0, none⟩)] w fun e w' => e = .returned (.tuple #[]) ∧ R w' := by
 refine yaP (yIt ?_)
 obtain ⟨kd, pt, n, off, b, g, m, gen, robin, topics⟩ := o
 obtain ⟨b1, b2, b3, b4⟩ := b
 simp only at h0
 refine yfO (b := bo) (i := 0) H.o rfl ?_
 have hk : kd = 0 ∨ kd = 1 ∨ kd = 2 ∨ kd = 3 ∨ kd = 4 ∨ kd = 5 ∨ kd = 6 ∨ kd = 7 ∨ kd = 8 ∨ kd = 9 ∨ kd = 10 ∨ kd = 11 ∨ kd = 12 := by omega
 rcases hk with rfl | rfl | rfl | rfl | rfl | rfl | rfl | rfl | rfl | rfl | rfl | rfl | rfl
 all_goals
  repeat (first
   | refine brT rfl ?_
   | refine brF rfl ?_
   | (intro w' A'; have H := H.adv A'; clear A')
   | refine ylW H rfl fun w' H => ?_
   | refine ye0 H rfl fun w' H => ?_
   | refine yr4 H rfl fun w' H => ?_
   | refine yr6 H rfl rfl fun w' H => ?_
   | refine ynM H rfl rfl fun w' H => ?_
   | refine yp9 (b := ⟨b1, b2, b3, b4⟩) (rs := rs) H rfl rfl rfl rfl (hop _ H.m).recs (hop _ H.m).lr fun w' H => ?_
   | refine yqA (ts := ts) H rfl (hop _ H.m).topics (hop _ H.m).lt fun w' H => ?_)
  refine ⟨rfl, k _ ?_⟩
  simpa [chF, chA, chE, chO, chR, chT, ha, ypB, POp.cs, ybY, ybS, Bool.or_comm, Bool.or_left_comm, Bool.or_assoc] using H
theorem yt5 {w : World} {o : POp} {rs ts : Sl} (h : OpAt w o rs ts) :
  Calls pP 92 #[o.v rs ts] w fun e w' => e = .returned (.int .i64 (opE o)) ∧ Mod [] w w' := by
 refine yaP (yIu ?_)
 intro b1 f1
 refine yaC (fun q1 => ?_) fun q1 => ?_
 ·intro w1 A1
  exact ⟨by rw [opE, if_pos (.inl q1)], A1.mod⟩
 refine yaC (fun q2 => ?_) fun q2 => ?_
 ·intro w1 A1
  exact ⟨by rw [opE, if_pos (.inr (by omega))], A1.mod⟩
 have h0 : ¬ (o.kind < 0 ∨ o.kind > 12) := by omega
 intro b4 f4 w5 A5 c1 c4
 have hne : b4 ≠ b1 := by
  rintro rfl
  rw [c1] at c4; cases c4
 have l1 := A5.lt b1 (by simp)
 have l4 := A5.lt b4 (by simp)
 have hop : ∀ w', Mod [b4, b1] w5 w' → OpAt w' o rs ts := fun w' M => h.keep0 (A5.mod.go0 M (by simp; omega))
 refine yqB (o := o) (rs := rs) (ts := ts) ⟨c4, c1, (Mod.refl _).less (by simp), hne⟩ h0 hop fun w6 H => ?_
 have M6 : Mod [] w w6 := A5.mod.go0 H.m (by simp; omega)
 refine ⟨_, _, _, _, _, _, _, _, _, _, _, _, _, _, _, _, _, _, H.o, _, _, _, H.c, ?_⟩
 have law := yzQ o h0
 refine yaB (fun q3 => ?_) fun q3 => ?_
 ·intro w7 A7 _ _
  exact ⟨by rw [law, q3]; rfl, M6.go0 A7.mod (by simpa using f1)⟩
 intro w7 A7 d1 d4
 have M7 : Mod [] w w7 := M6.go0 A7.mod (by simpa using f1)
 have hop7 := h.keep0 M7
 have hA : OpAt w7 { chO o with kind := 0 } (chR o rs) (chT o ts) := by
  refine ⟨?_, ?_, ?_, ?_⟩
  ·unfold chR chO; simp only; split
   ·exact ⟨rfl, fun i x hx => by simp [ybS] at hx⟩
   ·exact hop7.recs
  ·unfold chT chO; simp only; split
   ·exact ⟨rfl, fun i x hx => by simp at hx⟩
   ·exact hop7.topics
  ·unfold chO; simp only; split
   ·simp [ybS]
   ·exact hop7.lr
  ·unfold chO; simp only; split
   ·simp
   ·exact hop7.lt
 have h00 : OpAt w7 op0 ybY ybY := (yrR w7 0).at
 refine (yp6 (x := { chO o with kind := 0 }) (y := op0) hA h00).mono ?_
 rintro e w8 ⟨rfl, M8⟩
 have c8 := M8.keep0 d1
 have e8 := M8.keep0 d4
 refine ⟨_, rfl, _, _, _, _, _, _, _, _, _, _, _, _, _, _, _, _, _, _, c8, _, _, _, e8, ?_⟩
 have M9 := M7.go0 M8 (by simp)
 refine yaB (fun q4 => ?_) fun q4 => ?_
 ·exact ⟨by rw [law, q3, q4]; rfl, M9⟩
 refine yaB (fun q5 => ?_) fun q5 => ?_
 ·exact ⟨by rw [law, q3, q4, q5]; rfl, M9⟩
 ·exact ⟨by rw [law, q3, q4, q5]; rfl, M9⟩
section
variable {R : VWP} {w w0 : World} {m : Nat} {i0 i1 i2 i3 i4 i5 i6 i7 i8 i9 j0 j1 j2 j3 j4 j5 j6 j7 j8 j9 k0 k1 k2 k3 k4 k5 k6 k7 k8 k9 l0 l1 l2 l3 l4 l5 l6 l7 l8 l9 : Int} {s0 s1 s2 s3 s4 s5 s6 s7 s8 s9 t0 t1 t2 t3 t4 t5 t6 t7 t8 t9 : BA} {n0 n1 n2 n3 n4 n5 n6 n7 n8 n9 o0 o1 o2 o3 o4 o5 o6 o7 o8 o9 p0 p1 p2 p3 p4 p5 p6 p7 p8 p9 : Nat} {q0 q1 q2 q3 q4 q5 q6 q7 q8 q9 r0 r1 r2 r3 r4 r5 r6 r7 r8 r9 : OA} {B0 B1 B2 B3 B4 B5 B6 B7 B8 B9 : Bool} {M0 M1 M2 M3 : Option Nat} {V0 V1 V2 V3 V4 V5 : Value} {A0 A1 A2 : Addr}
theorem yIy (h :
 ∀ b1, w.heap.size ≤ b1 →
 ∀ w2, Adv [] [b1] w w2 →
 R (.agg (Z4 (some A0) (some (Addr.add A0 1)) (some (Addr.add A0 2)) (some (Addr.add A0 3)) (some (Addr.add A0 4)) (some (Addr.add A0 5)) (some (Addr.add A0 6)) (some (Addr.add A0 7)) (some (Addr.add A0 8)) (some (Addr.add A0 9)))) w2) :
 CR pP 22 #[(.pointer (some A0))] w R :=
 yaA Tryz.wide_mixed (an := []) Tryz.func22 rfl rfl (by kernel_rfl) rfl (Eq.mpr (by kernel_rfl) h)
def yr7 : LA := ⟨[0, 0, 1, 0, 1, 1], [1, 17, 18], [(1, 0, 0)], 1, [0]⟩
def yt6 : List LA := [yr7]
abbrev yIz := dnF pP yt6 (code Tryz.f12)
abbrev yLi := yaO pP yt6 (code Tryz.f12)
abbrev yIA (p : List Nat) (K : List Kh) (R : VWP) := yaO pP yt6 (code Tryz.f12) p K (ya4 pP Tryz.f12 [] R)
def ylY (b3 b4 b5 b6 b7 b8 b9 c0 c1 c2 : OA) (bm0 : Nat) (c3 c4 c5 c6 c7 c8 c9 d0 d1 d2 : Int) (a0 : OA) (a6 a3 : Nat) (a9 b0 b1 b2 : Int) (a1 : OA) (a7 a4 : Nat) (a2 : OA) (a8 a5 : Nat) : Int → List Value × List TB := fun d3 => ([(.pointer (some ⟨bm0, 0, none⟩)), (.agg (Z4 b3 b4 b5 b6 b7 b8 b9 c0 c1 c2)), .int .i64 d3], [⟨bm0, 29, [.int .i64 c3, .int .i64 c4, .int .i64 c5, .int .i64 c6, .int .i64 c7, .int .i64 c8, .int .i64 c9, .int .i64 d0, .int .i64 d1, .int .i64 d2, .slice a0 a6 a3, .int .i64 a9, .int .i64 b0, .int .i64 b1, .int .i64 b2, .slice a1 a7 a4, .slice a2 a8 a5], true⟩])
abbrev yDT (b3 b4 b5 b6 b7 b8 b9 c0 c1 c2 : OA) (bm0 : Nat) (c3 c4 c5 c6 c7 c8 c9 d0 d1 d2 : Int) (a0 : OA) (a6 a3 : Nat) (a9 b0 b1 b2 : Int) (a1 : OA) (a7 a4 : Nat) (a2 : OA) (a8 a5 : Nat) (I : Nat → Int → World → Prop) (m : Nat) : Kh := KG (ylY b3 b4 b5 b6 b7 b8 b9 c0 c1 c2 bm0 c3 c4 c5 c6 c7 c8 c9 d0 d1 d2 a0 a6 a3 a9 b0 b1 b2 a1 a7 a4 a2 a8 a5) (U1 I) m
theorem yAj {I : Nat → Int → World → Prop} (m' : Nat) (h1 : m' < m) (h2 : I m' j4 w) : KS (yDT q0 q1 q2 q3 q4 q5 q6 q7 q8 q9 n0 i0 i1 i2 i3 i4 i5 i6 i7 i8 i9 r0 n1 n2 j0 j1 j2 j3 r1 n3 n4 r2 n5 n6 I m) (ylY q0 q1 q2 q3 q4 q5 q6 q7 q8 q9 n0 i0 i1 i2 i3 i4 i5 i6 i7 i8 i9 r0 n1 n2 j0 j1 j2 j3 r1 n3 n4 r2 n5 n6 j4) w := ⟨m', h1, _, rfl, rfl, h2⟩
theorem yAk (I : Nat → Int → World → Prop) (m0 : Nat) (h0 : I m0 j4 w0)
 (hr : ∀ m d3 w, I m d3 w →
 hpC w n0 (Z0 i0 i1 i2 i3 i4 i5 i6 i7 i8 i9 r0 n1 n2 j0 j1 j2 j3 r1 n3 n4 r2 n5 n6) 29 →
 brB (decide (d3 < 10)) (
 ∃ d5, (∀ w' : World, (Instr.index 63 (.agg (Z4 q0 q1 q2 q3 q4 q5 q6 q7 q8 q9)) (.int .i64 d3)).run pP w' = .ok (.pointer d5) w') ∧
 ymV d5 fun g2 =>
 yaI .i64 w g2 fun g6 =>
 brB (decide (g6 < 0)) (
 R (.int .i64 1) w)
 (
 ymV d5 fun g3 =>
 yaI .i64 w g3 fun g7 =>
 brB (decide (g7 > 1099511627776)) (
 R (.int .i64 1) w)
 (
 KS (yDT q0 q1 q2 q3 q4 q5 q6 q7 q8 q9 n0 i0 i1 i2 i3 i4 i5 i6 i7 i8 i9 r0 n1 n2 j0 j1 j2 j3 r1 n3 n4 r2 n5 n6 I m) (ylY q0 q1 q2 q3 q4 q5 q6 q7 q8 q9 n0 i0 i1 i2 i3 i4 i5 i6 i7 i8 i9 r0 n1 n2 j0 j1 j2 j3 r1 n3 n4 r2 n5 n6 (iw .i64 (d3 + 1))) w)))
 (
 Calls pP 25 #[.slice r0 n1 n2] w fun e d6 => ∃ g4 d7, e = .returned (.tuple #[.string g4, .int .i64 d7]) ∧ ∃ g8 g9 h1 h2 h3 h4 h5 h6 h7 h8 f0 f8 f4 e5 e6 e7 e8 d8 e2 e0 d9 e3 e1, hpC d6 n0 (Z0 g8 g9 h1 h2 h3 h4 h5 h6 h7 h8 f0 f8 f4 e5 e6 e7 e8 d8 e2 e0 d9 e3 e1) 29 ∧
 brB (d7 != 0) (
 R (.int .i64 d7) d6)
 (
 Calls pP 26 #[(.agg (Z3 e5 e6 e7 e8 d8 e2 e0 d9 e3 e1))] d6 fun e e4 => ∃ g5 e9, e = .returned (.tuple #[.string g5, .int .i64 e9]) ∧ ∃ h9 u0 u1 u2 u3 u4 u5 u6 u7 u9 f1 f9 f5 v0 v1 v2 v3 f2 g0 f6 f3 g1 f7, hpC e4 n0 (Z0 h9 u0 u1 u2 u3 u4 u5 u6 u7 u9 f1 f9 f5 v0 v1 v2 v3 f2 g0 f6 f3 g1 f7) 29 ∧
 R (.int .i64 e9) e4))) :
 yaK yr7 (yIz 396 [0, 0, 1, 0, 1, 1]) (yIA [1, 1, 0, 1, 0] [] R) (ylY q0 q1 q2 q3 q4 q5 q6 q7 q8 q9 n0 i0 i1 i2 i3 i4 i5 i6 i7 i8 i9 r0 n1 n2 j0 j1 j2 j3 r1 n3 n4 r2 n5 n6 j4) w0 :=
 lrule (ylY q0 q1 q2 q3 q4 q5 q6 q7 q8 q9 n0 i0 i1 i2 i3 i4 i5 i6 i7 i8 i9 r0 n1 n2 j0 j1 j2 j3 r1 n3 n4 r2 n5 n6) (U1 I) h0 (by rintro m d3 w h; exact ⟨by kernel_rfl, by kernel_rfl, fun js => Eq.mpr (by kernel_rfl) (hr m d3 w h)⟩)
theorem yIB {a3 a2 : Nat} {a6 a5 : Nat} {a9 a8 : Nat} (h :
 ∀ b1, w.heap.size ≤ b1 →
 brB (decide (i0 < 0)) (
 ∀ w2, Adv [] [b1] w w2 →
 R (.int .i64 180) w2)
 (
 brB (decide (i0 ≥ 12)) (
 ∀ w3, Adv [] [b1] w w3 →
 R (.int .i64 180) w3)
 (
 ∀ w4, Adv [] [b1] w w4 → hpC w4 b1 (Z0 i0 i1 i2 i3 i4 i5 i6 i7 i8 i9 q0 a3 a2 j0 j1 j2 j3 q1 a6 a5 q2 a9 a8) 29 →
 Calls pP 22 #[(.pointer (some ⟨b1, 0, none⟩))] w4 fun e w5 => ∃ p6 p7 p8 p9 d3 d4 d5 d6 d7 d8, e = .returned (.agg (Z4 p6 p7 p8 p9 d3 d4 d5 d6 d7 d8)) ∧ ∃ d9 e0 e1 e2 e3 e4 e5 e6 e7 e8 c4 d0 c7 e9 f0 f1 f2 c5 d1 c8 c6 d2 c9, hpC w5 b1 (Z0 d9 e0 e1 e2 e3 e4 e5 e6 e7 e8 c4 d0 c7 e9 f0 f1 f2 c5 d1 c8 c6 d2 c9) 29 ∧
 yaK yr7 (yIz 396 [0, 0, 1, 0, 1, 1]) (yIA [1, 1, 0, 1, 0] [] R) (ylY p6 p7 p8 p9 d3 d4 d5 d6 d7 d8 b1 d9 e0 e1 e2 e3 e4 e5 e6 e7 e8 c4 d0 c7 e9 f0 f1 f2 c5 d1 c8 c6 d2 c9 0) w5))) :
 CR pP 12 #[(.agg (Z0 i0 i1 i2 i3 i4 i5 i6 i7 i8 i9 q0 a3 a2 j0 j1 j2 j3 q1 a6 a5 q2 a9 a8))] w R :=
 yaA Tryz.wide_mixed (an := yt6) Tryz.func12 rfl rfl (by kernel_rfl) rfl (Eq.mpr (by kernel_rfl) h)
def yr8 : LA := ⟨[0, 0, 1, 0, 1, 1], [1, 2, 3, 7, 8, 9], [(1, 0, 0), (2, 1, 0)], 2, []⟩
def yt7 : List LA := [yr8]
abbrev yIC := dnF pP yt7 (code Tryz.f19)
abbrev yLj := yaO pP yt7 (code Tryz.f19)
abbrev yID (p : List Nat) (K : List Kh) (R : VWP) := yaO pP yt7 (code Tryz.f19) p K (ya4 pP Tryz.f19 [] R)
def ylZ (c4 : OA) (c8 c6 : Nat) (c9 : Int) (bm0 : Nat) (b3 b4 b5 b6 b7 b8 b9 c0 c1 c2 : Int) (a0 : OA) (a6 a3 : Nat) (a9 b0 b1 b2 : Int) (a1 : OA) (a7 a4 : Nat) (a2 : OA) (a8 a5 bm1 : Nat) : (OA) × Nat × Nat × Int → List Value × List TB := fun (c3, c7, c5, d0) => ([(.pointer (some ⟨bm0, 0, none⟩)), (.pointer (some ⟨bm1, 0, none⟩)), .slice c3 c7 c5, .slice c4 c8 c6, .int .i64 c9, .int .i64 d0], [⟨bm0, 29, [.int .i64 b3, .int .i64 b4, .int .i64 b5, .int .i64 b6, .int .i64 b7, .int .i64 b8, .int .i64 b9, .int .i64 c0, .int .i64 c1, .int .i64 c2, .slice a0 a6 a3, .int .i64 a9, .int .i64 b0, .int .i64 b1, .int .i64 b2, .slice a1 a7 a4, .slice a2 a8 a5], false⟩, ⟨bm1, 29, [.int .i64 0, .int .i64 0, .int .i64 0, .int .i64 0, .int .i64 0, .int .i64 0, .int .i64 0, .int .i64 0, .int .i64 0, .int .i64 0, .slice none 0 0, .int .i64 0, .int .i64 0, .int .i64 0, .int .i64 0, .slice none 0 0, .slice none 0 0], false⟩])
abbrev yDU (c3 : OA) (c5 c4 : Nat) (c6 : Int) (bm0 : Nat) (b3 b4 b5 b6 b7 b8 b9 c0 c1 c2 : Int) (a0 : OA) (a6 a3 : Nat) (a9 b0 b1 b2 : Int) (a1 : OA) (a7 a4 : Nat) (a2 : OA) (a8 a5 bm1 : Nat) (I : Nat → OA → Nat → Nat → Int → World → Prop) (m : Nat) : Kh := KG (ylZ c3 c5 c4 c6 bm0 b3 b4 b5 b6 b7 b8 b9 c0 c1 c2 a0 a6 a3 a9 b0 b1 b2 a1 a7 a4 a2 a8 a5 bm1) (U4 I) m
theorem yAl {I : Nat → OA → Nat → Nat → Int → World → Prop} (m' : Nat) (h1 : m' < m) (h2 : I m' q4 o0 o1 j5 w) : KS (yDU q0 n0 n1 i0 n2 i1 i2 i3 i4 i5 i6 i7 i8 i9 j0 q1 n3 n4 j1 j2 j3 j4 q2 n5 n6 q3 n7 n8 n9 I m) (ylZ q0 n0 n1 i0 n2 i1 i2 i3 i4 i5 i6 i7 i8 i9 j0 q1 n3 n4 j1 j2 j3 j4 q2 n5 n6 q3 n7 n8 n9 (q4, o0, o1, j5)) w := ⟨m', h1, _, rfl, rfl, h2⟩
theorem yAm {c6 : OA} {c0 : OA} {a3 : OA} {a0 : OA} {d3 : OA} (I : Nat → OA → Nat → Nat → Int → World → Prop) (m0 : Nat) (h0 : I m0 d3 o0 o1 j5 w0)
 (hr : ∀ m c5 c8 c7 c4 w, I m c5 c8 c7 c4 w →
 brB (decide (c4 < i0)) (
 ixA c6 n0 c4 16 fun q3 =>
 yaI .i64 w q3 fun x4 => yaI .i64 w (Addr.add q3 1) fun x5 => yaI .i64 w (Addr.add q3 2) fun x6 => yaQ w (Addr.add q3 3) fun s7 => yaI .i64 w (Addr.add q3 4) fun x8 => yaI .i64 w (Addr.add q3 5) fun x9 => yaI .i64 w (Addr.add q3 6) fun h2 => yaI .i64 w (Addr.add q3 7) fun h3 => yaI .i64 w (Addr.add q3 8) fun h4 => yaI .i64 w (Addr.add q3 9) fun h5 => yaU w (Addr.add q3 10) fun d2 d6 d4 => yaQ w (Addr.add q3 11) fun g8 => yaQ w (Addr.add q3 12) fun g9 => yaI .i64 w (Addr.add q3 13) fun h6 => yaT w (Addr.add q3 14) fun h1 => yaU w (Addr.add q3 15) fun g1 g6 g4 =>
 ∀ c3, w.heap.size ≤ c3 →
 ∀ d8, Adv [] [c3] w d8 →
 Calls pP 48 #[.slice g1 g6 g4] d8 fun e d9 => ∃ e3 f1 e7, e = .returned (.slice e3 f1 e7) ∧ yaE [n2, n9, c3] d8 d9 ∧ (((.slice d2 d6 d4) : Value) = (.slice d2 d6 d4)) ∧
 Calls pP 49 #[.slice d2 d6 d4] d9 fun e f5 => ∃ e4 f2 e8, e = .returned (.slice e4 f2 e8) ∧ yaE [n2, n9, c3] d9 f5 ∧
 ∀ f6, Adv [c3] [] f5 f6 →
 al f6 (.cells (Z5 x4 x5 x6 s7 x8 x9 h2 h3 h4 h5 e4 f2 e8 g8 g9 h6 h1 e3 f1 e7) 51) fun g3 f7 =>
 yc6 pP (Builtin.append_ #[22, 22] 22 #[.slice c5 c8 c7, (.slice (some ⟨g3, 0, none⟩) 1 1)]) f7 fun g2 g7 g5 f8 => yaE [n2, n9, c3] f7 f8 ∧
 KS (yDU c6 n0 n1 i0 n2 i1 i2 i3 i4 i5 i6 i7 i8 i9 j0 c0 n3 n4 j1 j2 j3 j4 a3 n5 n6 a0 n7 n8 n9 I m) (ylZ c6 n0 n1 i0 n2 i1 i2 i3 i4 i5 i6 i7 i8 i9 j0 c0 n3 n4 j1 j2 j3 j4 a3 n5 n6 a0 n7 n8 n9 (g2, g7, g5, (iw .i64 (c4 + 1)))) f8)
 (
 ∀ e0, Adv [n2] [] w e0 →
 Calls pP 50 #[.slice a3 n5 n6] e0 fun e e1 => ∃ e5 f3 e9, e = .returned (.slice e5 f3 e9) ∧ yaE [n2, n9] e0 e1 ∧ (((.slice a0 n7 n8) : Value) = (.slice a0 n7 n8)) ∧
 Calls pP 51 #[.slice a0 n7 n8] e1 fun e f9 => ∃ e6 f4 f0, e = .returned (.slice e6 f4 f0) ∧ yaE [n2, n9] e1 f9 ∧
 ∀ g0, Adv [n9, n2] [] f9 g0 →
 R (.agg (Z0 i1 i2 i3 i4 i5 i6 i7 i8 i9 j0 c5 c8 c7 j1 j2 j3 j4 e5 f3 e9 e6 f4 f0)) g0)) :
 yaK yr8 (yIC 396 [0, 0, 1, 0, 1, 1]) (yID [1, 1, 0, 1, 0] [] R) (ylZ c6 n0 n1 i0 n2 i1 i2 i3 i4 i5 i6 i7 i8 i9 j0 c0 n3 n4 j1 j2 j3 j4 a3 n5 n6 a0 n7 n8 n9 (d3, o0, o1, j5)) w0 :=
 lrule (ylZ c6 n0 n1 i0 n2 i1 i2 i3 i4 i5 i6 i7 i8 i9 j0 c0 n3 n4 j1 j2 j3 j4 a3 n5 n6 a0 n7 n8 n9) (U4 I) h0 (by rintro m ⟨c5, c8, c7, c4⟩ w h; exact ⟨by kernel_rfl, by kernel_rfl, fun js => Eq.mpr (by kernel_rfl) (hr m c5 c8 c7 c4 w h)⟩)
theorem yIE (h :
 ∀ b1, w.heap.size ≤ b1 →
 ∀ b2, w.heap.size ≤ b2 →
 ∀ c5, Adv [] [b2, b1] w c5 →
 yaK yr8 (yIC 396 [0, 0, 1, 0, 1, 1]) (yID [1, 1, 0, 1, 0] [] R) (ylZ q0 n0 n1 (n0 : Int) b1 i0 i1 i2 i3 i4 i5 i6 i7 i8 i9 q0 n0 n1 j0 j1 j2 j3 q1 n2 n3 q2 n4 n5 b2 (none, 0, 0, 0)) c5) :
 CR pP 19 #[(.agg (Z0 i0 i1 i2 i3 i4 i5 i6 i7 i8 i9 q0 n0 n1 j0 j1 j2 j3 q1 n2 n3 q2 n4 n5))] w R :=
 yaA Tryz.wide_mixed (an := yt7) Tryz.func19 rfl rfl (by kernel_rfl) rfl (Eq.mpr (by kernel_rfl) h)
def yr9 : LA := ⟨[0, 0, 1, 0, 1, 1, 1, 1, 1], [5, 23, 24, 25], [(5, 0, 0)], 1, [0]⟩
def yt8 : List LA := [yr9]
abbrev yIF := dnF pP yt8 (code Tryz.f25)
abbrev yLk := yaO pP yt8 (code Tryz.f25)
abbrev yIG (p : List Nat) (K : List Kh) (R : VWP) := yaO pP yt8 (code Tryz.f25) p K (ya4 pP Tryz.f25 [] R)
def yl0 (a4 : OA) (a6 a5 : Nat) (a7 : Int) (bm0 : Nat) : Int × (OA) × (OA) × Nat × Nat → List Value × List TB := fun (a8, a3, a0, a2, a1) => ([(.pointer (some ⟨bm0, 0, none⟩)), .slice a4 a6 a5, .int .i64 a7, .int .i64 a8], [⟨bm0, 61, [.pointer a3, .slice a0 a2 a1], true⟩])
abbrev yDV (a0 : OA) (a2 a1 : Nat) (a3 : Int) (bm0 : Nat) (I : Nat → Int → OA → OA → Nat → Nat → World → Prop) (m : Nat) : Kh := KG (yl0 a0 a2 a1 a3 bm0) (U5 I) m
theorem yAn {I : Nat → Int → OA → OA → Nat → Nat → World → Prop} (m' : Nat) (h1 : m' < m) (h2 : I m' i1 q1 q2 n3 n4 w) : KS (yDV q0 n0 n1 i0 n2 I m) (yl0 q0 n0 n1 i0 n2 (i1, q1, q2, n3, n4)) w := ⟨m', h1, _, rfl, rfl, h2⟩
theorem yAo (I : Nat → Int → OA → OA → Nat → Nat → World → Prop) (m0 : Nat) (h0 : I m0 i1 q1 q2 n3 n4 w0)
 (hr : ∀ m a6 a5 a2 a4 a3 w, I m a6 a5 a2 a4 a3 w →
 hpC w n2 #[.pointer a5, .slice a2 a4 a3] 61 →
 brB (decide (a6 < i0)) (
 ixA q0 n0 a6 16 fun a0 =>
 yaI .i64 w a0 fun h4 => yaI .i64 w (Addr.add a0 1) fun c4 => yaI .i64 w (Addr.add a0 2) fun h5 => yaQ w (Addr.add a0 3) fun g6 => yaI .i64 w (Addr.add a0 4) fun h6 => yaI .i64 w (Addr.add a0 5) fun h7 => yaI .i64 w (Addr.add a0 6) fun h8 => yaI .i64 w (Addr.add a0 7) fun h9 => yaI .i64 w (Addr.add a0 8) fun u0 => yaI .i64 w (Addr.add a0 9) fun u1 => yaU w (Addr.add a0 10) fun e0 f4 e7 => yaQ w (Addr.add a0 11) fun g7 => yaQ w (Addr.add a0 12) fun g8 => yaI .i64 w (Addr.add a0 13) fun u2 => yaT w (Addr.add a0 14) fun h2 => yaU w (Addr.add a0 15) fun e1 f5 e8 =>
 ∀ a1, w.heap.size ≤ a1 →
 ∀ b5, Adv [] [a1] w b5 → hpC b5 n2 #[.pointer a5, .slice a2 a4 a3] 61 →
 Calls pP 56 #[(.agg (Z1 h5 g6 h6 h7 h8 h9 u0 u1 e0 f4 e7 g7 g8 u2 h2 e1 f5 e8))] b5 fun e c2 => ∃ d3 u3, e = .returned (.tuple #[.string d3, .int .i64 u3]) ∧ ya2 [n2] [(a1, 51)] [a1] b5 c2 ∧ ∃ d1 c5 c9 c7, hpC c2 n2 #[.pointer d1, .slice c5 c9 c7] 61 ∧
 ∀ b6, Adv [] [] c2 b6 → hpC b6 n2 #[.pointer d1, .slice c5 c9 c7] 61 →
 Calls pP 24 #[(.int .u64 (iw .u64 h4))] b6 fun e b7 => ∃ d4, e = .returned (.string d4) ∧ ya2 [n2] [(a1, 51)] [a1] b6 b7 ∧ ∃ g1 e2 f6 e9, hpC b7 n2 #[.pointer g1, .slice e2 f6 e9] 61 ∧ (((.int .i64 c4) : Value) = (.int .i64 c4)) ∧
 Calls pP 24 #[(.int .u64 (iw .u64 c4))] b7 fun e b8 => ∃ d5, e = .returned (.string d5) ∧ ya2 [n2] [(a1, 51)] [a1] b7 b8 ∧ ∃ g2 e3 f7 f0, hpC b8 n2 #[.pointer g2, .slice e3 f7 f0] 61 ∧
 yeS d4 d5 fun g9 =>
 Calls pP 28 #[.string d3] b8 fun e b9 => ∃ d6, e = .returned (.string d6) ∧ ya2 [n2] [(a1, 51)] [a1] b8 b9 ∧ ∃ g3 e4 f8 f1, hpC b9 n2 #[.pointer g3, .slice e4 f8 f1] 61 ∧
 yeS g9 d6 fun h1 =>
 Calls pP 29 #[.string h1] b9 fun e c0 => ∃ d7, e = .returned (.string d7) ∧ ya2 [n2] [(a1, 51)] [a1] b9 c0 ∧ ∃ g4 e5 f9 f2, hpC c0 n2 #[.pointer g4, .slice e5 f9 f2] 61 ∧
 Calls pP 23 #[(.pointer (some ⟨n2, 0, none⟩)), .string d7] c0 fun e c3 => ∃ u4 h3, e = .returned (.tuple #[.int .i64 u4, h3]) ∧ ya2 [n2] [(a1, 51)] [a1] c0 c3 ∧ ∃ d2 c6 d0 c8, hpC c3 n2 #[.pointer d2, .slice c6 d0 c8] 61 ∧
 KS (yDV q0 n0 n1 i0 n2 I m) (yl0 q0 n0 n1 i0 n2 ((iw .i64 (a6 + 1)), d2, c6, d0, c8)) c3)
 (
 Calls pP 27 #[(.pointer (some ⟨n2, 0, none⟩))] w fun e d9 => ∃ d8, e = .returned (.string d8) ∧ ∃ g5 e6 g0 f3, hpC d9 n2 #[.pointer g5, .slice e6 g0 f3] 61 ∧
 R (.tuple #[.string d8, .int .i64 0]) d9)) :
 yaK yr9 (yIF 393 [0, 0, 1, 0, 1, 1, 1, 1, 1]) (yIG [1, 1, 1, 1, 1, 0, 1, 0] [] R) (yl0 q0 n0 n1 i0 n2 (i1, q1, q2, n3, n4)) w0 :=
 lrule (yl0 q0 n0 n1 i0 n2) (U5 I) h0 (by rintro m ⟨a6, a5, a2, a4, a3⟩ w h; exact ⟨by kernel_rfl, by kernel_rfl, fun js => Eq.mpr (by kernel_rfl) (hr m a6 a5 a2 a4 a3 w h)⟩)
theorem yIH (h :
 brB (decide ((n0 : Int) > 4096)) (
 R (.tuple #[(.string (⟨#[]⟩ : BA)), .int .i64 2]) w)
 (
 Calls pP 55 #[.slice q0 n0 n1] w fun e w1 => ∃ x2, e = .returned (.int .i64 x2) ∧
 brB (x2 != 0) (
 R (.tuple #[(.string (⟨#[]⟩ : BA)), .int .i64 x2]) w1)
 (
 ∀ b3, w1.heap.size ≤ b3 →
 ∀ w4, Adv [] [b3] w1 w4 →
 Calls pP 24 #[(.int .u64 (iw .u64 (n0 : Int)))] w4 fun e w5 => ∃ s6, e = .returned (.string s6) ∧ yaE [b3] w4 w5 ∧
 ∀ w7, Adv [] [] w5 w7 → hpC w7 b3 #[.pointer none, .slice none 0 0] 61 →
 Calls pP 23 #[(.pointer (some ⟨b3, 0, none⟩)), .string s6] w7 fun e w8 => ∃ x9 a7, e = .returned (.tuple #[.int .i64 x9, a7]) ∧ ∃ a6 a3 a5 a4, hpC w8 b3 #[.pointer a6, .slice a3 a5 a4] 61 ∧
 yaK yr9 (yIF 393 [0, 0, 1, 0, 1, 1, 1, 1, 1]) (yIG [1, 1, 1, 1, 1, 0, 1, 0] [] R) (yl0 q0 n0 n1 (n0 : Int) b3 (0, a6, a3, a5, a4)) w8))) :
 CR pP 25 #[.slice q0 n0 n1] w R :=
 yaA Tryz.wide_mixed (an := yt8) Tryz.func25 rfl rfl (by kernel_rfl) rfl (Eq.mpr (by kernel_rfl) h)
def ysA : LA := ⟨[0, 0, 1, 0, 1, 1, 1], [10, 11, 12], [], 1, [0]⟩
def yt9 : List LA := [ysA]
abbrev yII := dnF pP yt9 (code Tryz.f55)
abbrev yLl := yaO pP yt9 (code Tryz.f55)
abbrev yIJ (p : List Nat) (K : List Kh) (R : VWP) := yaO pP yt9 (code Tryz.f55) p K (ya4 pP Tryz.f55 [] R)
def yl1 (a1 : OA) (a3 a2 : Nat) (a4 : Int) (bm0 : Nat) : Int × Value → List Value × List TB := fun (a5, a0) => ([.slice a1 a3 a2, .int .i64 a4, .int .i64 a5], [⟨bm0, 78, [a0], true⟩])
abbrev yDW (a0 : OA) (a2 a1 : Nat) (a3 : Int) (bm0 : Nat) (I : Nat → Int → VWP) (m : Nat) : Kh := KG (yl1 a0 a2 a1 a3 bm0) (U2 I) m
theorem yAp {I : Nat → Int → VWP} (m' : Nat) (h1 : m' < m) (h2 : I m' i1 V0 w) : KS (yDW q0 n0 n1 i0 n2 I m) (yl1 q0 n0 n1 i0 n2 (i1, V0)) w := ⟨m', h1, _, rfl, rfl, h2⟩
theorem yAq {a2 : OA} (I : Nat → Int → VWP) (m0 : Nat) (h0 : I m0 i1 V0 w0)
 (hr : ∀ m a1 a0 w, I m a1 a0 w →
 hpC w n2 #[a0] 78 →
 brB (decide (a1 < i0)) (
 ixA a2 n0 a1 16 fun q6 =>
 yaI .i64 w q6 fun x7 => yaI .i64 w (Addr.add q6 1) fun x8 => yaI .i64 w (Addr.add q6 2) fun x9 => yaQ w (Addr.add q6 3) fun b9 => yaI .i64 w (Addr.add q6 4) fun c3 => yaI .i64 w (Addr.add q6 5) fun c4 => yaI .i64 w (Addr.add q6 6) fun c5 => yaI .i64 w (Addr.add q6 7) fun c6 => yaI .i64 w (Addr.add q6 8) fun c7 => yaI .i64 w (Addr.add q6 9) fun c8 => yaU w (Addr.add q6 10) fun b3 b7 b5 => yaQ w (Addr.add q6 11) fun c0 => yaQ w (Addr.add q6 12) fun c1 => yaI .i64 w (Addr.add q6 13) fun c9 => yaT w (Addr.add q6 14) fun c2 => yaU w (Addr.add q6 15) fun b4 b8 b6 =>
 ∀ a7, w.heap.size ≤ a7 →
 ∀ a8, Adv [] [a7] w a8 → hpC a8 n2 #[a0] 78 →
 Calls pP 92 #[(.agg (Z1 x9 b9 c3 c4 c5 c6 c7 c8 b3 b7 b5 c0 c1 c9 c2 b4 b8 b6))] a8 fun e a9 => ∃ b1, e = .returned (.int .i64 b1) ∧ ya2 [n2] [(a7, 51)] [a7] a8 a9 ∧ ∃ b2, hpC a9 n2 #[b2] 78 ∧
 brB (b1 != 0) (
 R (.int .i64 b1) a9)
 (
 KS (yDW a2 n0 n1 i0 n2 I m) (yl1 a2 n0 n1 i0 n2 ((iw .i64 (a1 + 1)), b2)) a9))
 (
 R (.int .i64 0) w)) :
 yaK ysA (yII 395 [0, 0, 1, 0, 1, 1, 1]) (yIJ [1, 1, 1, 0, 1, 0] [] R) (yl1 a2 n0 n1 i0 n2 (i1, V0)) w0 :=
 lrule (yl1 a2 n0 n1 i0 n2) (U2 I) h0 (by rintro m ⟨a1, a0⟩ w h; exact ⟨by kernel_rfl, by kernel_rfl, fun js => Eq.mpr (by kernel_rfl) (hr m a1 a0 w h)⟩)
theorem yIK (h :
 ∀ b1, w.heap.size ≤ b1 →
 ∀ w2, Adv [] [b1] w w2 → hpC w2 b1 #[(.func (.func 89) #[] #[])] 78 →
 Calls pP 90 #[.slice q0 n0 n1, (.func (.func 91) #[] #[(.pointer (some ⟨b1, 0, none⟩))])] w2 fun e w3 => ∃ t4, e = .returned (.bool t4) ∧ ∃ v5, hpC w3 b1 #[v5] 78 ∧
 brB t4 (
 R (.int .i64 1) w3)
 (
 yaK ysA (yII 395 [0, 0, 1, 0, 1, 1, 1]) (yIJ [1, 1, 1, 0, 1, 0] [] R) (yl1 q0 n0 n1 (n0 : Int) b1 (0, v5)) w3)) :
 CR pP 55 #[.slice q0 n0 n1] w R :=
 yaA Tryz.wide_mixed (an := yt9) Tryz.func55 rfl rfl (by kernel_rfl) rfl (Eq.mpr (by kernel_rfl) h)
theorem yIL (h :
 brB (decide (i0 < 1)) (
 R (.bool true) w)
 (
 R (.bool (decide (i0 > 1099511627776))) w)) :
 CR pP 89 #[.int .i64 i0] w R :=
 yaA Tryz.wide_mixed (an := []) Tryz.func89 rfl rfl (by kernel_rfl) rfl (Eq.mpr (by kernel_rfl) h)
theorem yIM (h :
 Calls pP 117 #[.slice q0 n0 n1, (.func (.func 91) #[] #[(.pointer (some A0))])] w fun e w1 => ∃ x2, e = .returned (.int .i64 x2) ∧
 R (.bool (decide (x2 ≥ 0))) w1) :
 CR pP 90 #[.slice q0 n0 n1, (.func (.func 91) #[] #[(.pointer (some A0))])] w R :=
 yaA Tryz.wide_mixed (an := []) Tryz.func90 rfl rfl (by kernel_rfl) rfl (Eq.mpr (by kernel_rfl) h)
def ysB : LA := ⟨[0, 0, 1, 0, 1], [0, 1, 7, 8], [], 0, []⟩
def yuA : List LA := [ysB]
abbrev yIN := dnF pP yuA (code Tryz.f117)
abbrev yLm := yaO pP yuA (code Tryz.f117)
abbrev yIO (p : List Nat) (K : List Kh) (R : VWP) := yaO pP yuA (code Tryz.f117) p K (ya4 pP Tryz.f117 [] R)
def yl2 (a1 : OA) (a3 a2 : Nat) (a0 : Addr) (a4 : Int) : Int → List Value × List TB := fun a5 => ([.slice a1 a3 a2, (.func (.func 91) #[] #[(.pointer (some a0))]), .int .i64 a4, .int .i64 a5], [])
abbrev yDX (a1 : OA) (a3 a2 : Nat) (a0 : Addr) (a4 : Int) (I : Nat → Int → World → Prop) (m : Nat) : Kh := KG (yl2 a1 a3 a2 a0 a4) (U1 I) m
theorem yAr {I : Nat → Int → World → Prop} (m' : Nat) (h1 : m' < m) (h2 : I m' i1 w) : KS (yDX q0 n0 n1 A0 i0 I m) (yl2 q0 n0 n1 A0 i0 i1) w := ⟨m', h1, _, rfl, rfl, h2⟩
theorem yAs {a2 : OA} (I : Nat → Int → World → Prop) (m0 : Nat) (h0 : I m0 i1 w0)
 (hr : ∀ m a1 w, I m a1 w →
 brB (decide (a1 < i0)) (
 ixA a2 n0 a1 16 fun q1 =>
 yaI .i64 w q1 fun x2 => yaI .i64 w (Addr.add q1 1) fun x3 => yaI .i64 w (Addr.add q1 2) fun x4 => yaQ w (Addr.add q1 3) fun s5 => yaI .i64 w (Addr.add q1 4) fun x6 => yaI .i64 w (Addr.add q1 5) fun x7 => yaI .i64 w (Addr.add q1 6) fun x8 => yaI .i64 w (Addr.add q1 7) fun x9 => yaI .i64 w (Addr.add q1 8) fun b8 => yaI .i64 w (Addr.add q1 9) fun b9 => yaU w (Addr.add q1 10) fun a9 b3 b1 => yaQ w (Addr.add q1 11) fun b5 => yaQ w (Addr.add q1 12) fun b6 => yaI .i64 w (Addr.add q1 13) fun c0 => yaT w (Addr.add q1 14) fun b7 => yaU w (Addr.add q1 15) fun b0 b4 b2 =>
 Calls pP 91 #[(.agg (Z5 x2 x3 x4 s5 x6 x7 x8 x9 b8 b9 a9 b3 b1 b5 b6 c0 b7 b0 b4 b2)), (.pointer (some A0))] w fun e a8 => ∃ a7, e = .returned (.bool a7) ∧
 brB a7 (
 R (.int .i64 a1) a8)
 (
 KS (yDX a2 n0 n1 A0 i0 I m) (yl2 a2 n0 n1 A0 i0 (iw .i64 (a1 + 1))) a8))
 (
 R (.int .i64 (-1)) w)) :
 yaK ysB (yIN 397 [0, 0, 1, 0, 1]) (yIO [1, 0, 1, 0] [] R) (yl2 a2 n0 n1 A0 i0 i1) w0 :=
 lrule (yl2 a2 n0 n1 A0 i0) (U1 I) h0 (by rintro m a1 w h; exact ⟨by kernel_rfl, by kernel_rfl, fun js => Eq.mpr (by kernel_rfl) (hr m a1 w h)⟩)
theorem yIP (h :
 yaK ysB (yIN 397 [0, 0, 1, 0, 1]) (yIO [1, 0, 1, 0] [] R) (yl2 q0 n0 n1 A0 (n0 : Int) 0) w) :
 CR pP 117 #[.slice q0 n0 n1, (.func (.func 91) #[] #[(.pointer (some A0))])] w R :=
 yaA Tryz.wide_mixed (an := yuA) Tryz.func117 rfl rfl (by kernel_rfl) rfl (Eq.mpr (by kernel_rfl) h)
theorem yIQ (h :
 ∀ b1, w.heap.size ≤ b1 →
 ∀ w2, Adv [] [b1] w w2 →
 al w2 (.cells #[.int .i64 i0, .int .i64 i1, .int .i64 i2, .int .i64 i3, .int .i64 i4, .int .i64 i5, .int .i64 i6, .int .i64 i7, .int .i64 i8, .int .i64 i9] 3) fun b3 w4 =>
 R (.slice (some ⟨b3, 0, none⟩) 10 10) w4) :
 CR pP 30 #[(.agg (Z0 i0 i1 i2 i3 i4 i5 i6 i7 i8 i9 q0 n0 n1 j0 j1 j2 j3 q1 n2 n3 q2 n4 n5))] w R :=
 yaA Tryz.wide_mixed (an := []) Tryz.func30 rfl rfl (by kernel_rfl) rfl (Eq.mpr (by kernel_rfl) h)
def ysC : LA := ⟨[0, 0, 1, 0, 1, 1], [2, 3, 5, 6, 7], [(2, 0, 0), (3, 1, 0)], 2, []⟩
def yuB : List LA := [ysC]
abbrev yIR := dnF pP yuB (code Tryz.f15)
abbrev yLn := yaO pP yuB (code Tryz.f15)
abbrev yIS (p : List Nat) (K : List Kh) (R : VWP) := yaO pP yuB (code Tryz.f15) p K (ya4 pP Tryz.f15 [] R)
def yl3 (e6 : OA) (f0 e8 : Nat) (e7 : OA) (f1 e9 bm0 : Nat) (c6 c7 c8 c9 d0 d1 d2 d3 d4 d5 : Int) (a0 : OA) (b2 a6 : Nat) (b8 b9 c0 c1 : Int) (a1 : OA) (b3 a7 : Nat) (a2 : OA) (b4 a8 bm1 : Nat) (d6 d7 d8 d9 e0 e1 e2 e3 e4 e5 : Int) (a3 : OA) (b5 a9 : Nat) (c2 c3 c4 c5 : Int) (a4 : OA) (b6 b0 : Nat) (a5 : OA) (b7 b1 : Nat) : Int → List Value × List TB := fun f2 => ([(.pointer (some ⟨bm0, 0, none⟩)), (.pointer (some ⟨bm1, 0, none⟩)), .slice e6 f0 e8, .slice e7 f1 e9, .int .i64 f2], [⟨bm0, 29, [.int .i64 c6, .int .i64 c7, .int .i64 c8, .int .i64 c9, .int .i64 d0, .int .i64 d1, .int .i64 d2, .int .i64 d3, .int .i64 d4, .int .i64 d5, .slice a0 b2 a6, .int .i64 b8, .int .i64 b9, .int .i64 c0, .int .i64 c1, .slice a1 b3 a7, .slice a2 b4 a8], false⟩, ⟨bm1, 29, [.int .i64 d6, .int .i64 d7, .int .i64 d8, .int .i64 d9, .int .i64 e0, .int .i64 e1, .int .i64 e2, .int .i64 e3, .int .i64 e4, .int .i64 e5, .slice a3 b5 a9, .int .i64 c2, .int .i64 c3, .int .i64 c4, .int .i64 c5, .slice a4 b6 b0, .slice a5 b7 b1], false⟩])
abbrev yDY (e6 : OA) (f0 e8 : Nat) (e7 : OA) (f1 e9 bm0 : Nat) (c6 c7 c8 c9 d0 d1 d2 d3 d4 d5 : Int) (a0 : OA) (b2 a6 : Nat) (b8 b9 c0 c1 : Int) (a1 : OA) (b3 a7 : Nat) (a2 : OA) (b4 a8 bm1 : Nat) (d6 d7 d8 d9 e0 e1 e2 e3 e4 e5 : Int) (a3 : OA) (b5 a9 : Nat) (c2 c3 c4 c5 : Int) (a4 : OA) (b6 b0 : Nat) (a5 : OA) (b7 b1 : Nat) (I : Nat → Int → World → Prop) (m : Nat) : Kh := KG (yl3 e6 f0 e8 e7 f1 e9 bm0 c6 c7 c8 c9 d0 d1 d2 d3 d4 d5 a0 b2 a6 b8 b9 c0 c1 a1 b3 a7 a2 b4 a8 bm1 d6 d7 d8 d9 e0 e1 e2 e3 e4 e5 a3 b5 a9 c2 c3 c4 c5 a4 b6 b0 a5 b7 b1) (U1 I) m
theorem yAt {I : Nat → Int → World → Prop} (m' : Nat) (h1 : m' < m) (h2 : I m' k8 w) : KS (yDY q0 n0 n1 q1 n2 n3 n4 i0 i1 i2 i3 i4 i5 i6 i7 i8 i9 q2 n5 n6 j0 j1 j2 j3 q3 n7 n8 q4 n9 o0 o1 j4 j5 j6 j7 j8 j9 k0 k1 k2 k3 q5 o2 o3 k4 k5 k6 k7 q6 o4 o5 q7 o6 o7 I m) (yl3 q0 n0 n1 q1 n2 n3 n4 i0 i1 i2 i3 i4 i5 i6 i7 i8 i9 q2 n5 n6 j0 j1 j2 j3 q3 n7 n8 q4 n9 o0 o1 j4 j5 j6 j7 j8 j9 k0 k1 k2 k3 q5 o2 o3 k4 k5 k6 k7 q6 o4 o5 q7 o6 o7 k8) w := ⟨m', h1, _, rfl, rfl, h2⟩
theorem yAu (I : Nat → Int → World → Prop) (m0 : Nat) (h0 : I m0 k8 w0)
 (hr : ∀ m e6 w, I m e6 w →
 brB (decide (e6 < (n0 : Int))) (
 ixA q0 n0 e6 1 fun g0 =>
 yaI .i64 w g0 fun g2 =>
 ixA q1 n2 e6 1 fun g1 =>
 yaI .i64 w g1 fun g3 =>
 brB (g2 != g3) (
 ∀ f7, Adv [] [] w f7 →
 R (.bool false) f7)
 (
 ∀ f8, Adv [] [] w f8 →
 KS (yDY q0 n0 n1 q1 n2 n3 n4 i0 i1 i2 i3 i4 i5 i6 i7 i8 i9 q2 n5 n6 j0 j1 j2 j3 q3 n7 n8 q4 n9 o0 o1 j4 j5 j6 j7 j8 j9 k0 k1 k2 k3 q5 o2 o3 k4 k5 k6 k7 q6 o4 o5 q7 o6 o7 I m) (yl3 q0 n0 n1 q1 n2 n3 n4 i0 i1 i2 i3 i4 i5 i6 i7 i8 i9 q2 n5 n6 j0 j1 j2 j3 q3 n7 n8 q4 n9 o0 o1 j4 j5 j6 j7 j8 j9 k0 k1 k2 k3 q5 o2 o3 k4 k5 k6 k7 q6 o4 o5 q7 o6 o7 (iw .i64 (e6 + 1))) f8))
 (
 Calls pP 39 #[.slice q2 n5 n6, .slice q5 o2 o3] w fun e f3 => ∃ f5, e = .returned (.bool f5) ∧ yaE [n4, o1] w f3 ∧
 brB f5 (
 Calls pP 40 #[(.agg (Z3 j0 j1 j2 j3 q3 n7 n8 q4 n9 o0)), (.agg (Z3 k4 k5 k6 k7 q6 o4 o5 q7 o6 o7))] f3 fun e f9 => ∃ f6, e = .returned (.bool f6) ∧ yaE [n4, o1] f3 f9 ∧
 R (.bool f6) f9)
 (
 R (.bool false) f3))) :
 yaK ysC (yIR 396 [0, 0, 1, 0, 1, 1]) (yIS [1, 1, 0, 1, 0] [] R) (yl3 q0 n0 n1 q1 n2 n3 n4 i0 i1 i2 i3 i4 i5 i6 i7 i8 i9 q2 n5 n6 j0 j1 j2 j3 q3 n7 n8 q4 n9 o0 o1 j4 j5 j6 j7 j8 j9 k0 k1 k2 k3 q5 o2 o3 k4 k5 k6 k7 q6 o4 o5 q7 o6 o7 k8) w0 :=
 lrule (yl3 q0 n0 n1 q1 n2 n3 n4 i0 i1 i2 i3 i4 i5 i6 i7 i8 i9 q2 n5 n6 j0 j1 j2 j3 q3 n7 n8 q4 n9 o0 o1 j4 j5 j6 j7 j8 j9 k0 k1 k2 k3 q5 o2 o3 k4 k5 k6 k7 q6 o4 o5 q7 o6 o7) (U1 I) h0 (by rintro m e6 w h; exact ⟨by kernel_rfl, by kernel_rfl, fun js => Eq.mpr (by kernel_rfl) (hr m e6 w h)⟩)
theorem yIT {b9 b8 : Nat} {c2 c1 : Nat} {c5 c4 : Nat} {a2 a1 : Nat} {a6 a4 : Nat} {b0 a8 : Nat} (h :
 ∀ b1, w.heap.size ≤ b1 →
 ∀ b2, w.heap.size ≤ b2 →
 ∀ w3, Adv [] [b2, b1] w w3 →
 Calls pP 30 #[(.agg (Z0 i0 i1 i2 i3 i4 i5 i6 i7 i8 i9 q0 b9 b8 j0 j1 j2 j3 q1 c2 c1 q2 c5 c4))] w3 fun e w4 => ∃ a5 n6 c7, e = .returned (.slice a5 n6 c7) ∧ yaE [b1, b2] w3 w4 ∧ (((.agg (Z0 j4 j5 j6 j7 j8 j9 k0 k1 k2 k3 q3 a2 a1 k4 k5 k6 k7 q4 a6 a4 q5 b0 a8)) : Value) = (.agg (Z0 j4 j5 j6 j7 j8 j9 k0 k1 k2 k3 q3 a2 a1 k4 k5 k6 k7 q4 a6 a4 q5 b0 a8))) ∧
 Calls pP 30 #[(.agg (Z0 j4 j5 j6 j7 j8 j9 k0 k1 k2 k3 q3 a2 a1 k4 k5 k6 k7 q4 a6 a4 q5 b0 a8))] w4 fun e w8 => ∃ a9 f2 f1, e = .returned (.slice a9 f2 f1) ∧ yaE [b1, b2] w4 w8 ∧
 yaK ysC (yIR 396 [0, 0, 1, 0, 1, 1]) (yIS [1, 1, 0, 1, 0] [] R) (yl3 a5 n6 c7 a9 f2 f1 b1 i0 i1 i2 i3 i4 i5 i6 i7 i8 i9 q0 b9 b8 j0 j1 j2 j3 q1 c2 c1 q2 c5 c4 b2 j4 j5 j6 j7 j8 j9 k0 k1 k2 k3 q3 a2 a1 k4 k5 k6 k7 q4 a6 a4 q5 b0 a8 0) w8) :
 CR pP 15 #[(.agg (Z0 i0 i1 i2 i3 i4 i5 i6 i7 i8 i9 q0 b9 b8 j0 j1 j2 j3 q1 c2 c1 q2 c5 c4)), (.agg (Z0 j4 j5 j6 j7 j8 j9 k0 k1 k2 k3 q3 a2 a1 k4 k5 k6 k7 q4 a6 a4 q5 b0 a8))] w R :=
 yaA Tryz.wide_mixed (an := yuB) Tryz.func15 rfl rfl (by kernel_rfl) rfl (Eq.mpr (by kernel_rfl) h)
def ysD : LA := ⟨[0, 0, 1, 0, 1, 1], [0, 1, 5], [], 0, []⟩
def yuC : List LA := [ysD]
abbrev yIU := dnF pP yuC (code Tryz.f39)
abbrev yLo := yaO pP yuC (code Tryz.f39)
abbrev yIV (p : List Nat) (K : List Kh) (R : VWP) := yaO pP yuC (code Tryz.f39) p K (ya4 pP Tryz.f39 [] R)
def yl4 (a0 : OA) (a4 a2 : Nat) (a1 : OA) (a5 a3 : Nat) : Int → List Value × List TB := fun a6 => ([.slice a0 a4 a2, .slice a1 a5 a3, .int .i64 a6], [])
abbrev yDZ (a0 : OA) (a4 a2 : Nat) (a1 : OA) (a5 a3 : Nat) (I : Nat → Int → World → Prop) (m : Nat) : Kh := KG (yl4 a0 a4 a2 a1 a5 a3) (U1 I) m
theorem yAv {I : Nat → Int → World → Prop} (m' : Nat) (h1 : m' < m) (h2 : I m' i0 w) : KS (yDZ q0 n0 n1 q1 n2 n3 I m) (yl4 q0 n0 n1 q1 n2 n3 i0) w := ⟨m', h1, _, rfl, rfl, h2⟩
theorem yAw {a4 : OA} {a5 : OA} (I : Nat → Int → World → Prop) (m0 : Nat) (h0 : I m0 i0 w0)
 (hr : ∀ m a2 w, I m a2 w →
 brB (decide (a2 < (n0 : Int))) (
 ixA a4 n0 a2 16 fun q1 =>
 ∀ w2, Adv [] [] w w2 →
 yaI .i64 w2 q1 fun x3 =>
 ixA a5 n2 a2 16 fun q4 =>
 yaI .i64 w2 q4 fun x5 =>
 brB (x3 != x5) (
 R (.bool false) w2)
 (
 ixA a4 n0 a2 16 fun q6 =>
 yaI .i64 w2 (Addr.add q6 1) fun x7 =>
 ixA a5 n2 a2 16 fun q8 =>
 yaI .i64 w2 (Addr.add q8 1) fun x9 =>
 brB (x7 != x9) (
 R (.bool false) w2)
 (
 ixA a4 n0 a2 16 fun a0 =>
 yaI .i64 w2 (Addr.add a0 2) fun d2 => yaQ w2 (Addr.add (Addr.add a0 2) 1) fun c4 => yaI .i64 w2 (Addr.add (Addr.add a0 2) 2) fun d3 => yaI .i64 w2 (Addr.add (Addr.add a0 2) 3) fun d4 => yaI .i64 w2 (Addr.add (Addr.add a0 2) 4) fun d5 => yaI .i64 w2 (Addr.add (Addr.add a0 2) 5) fun d6 => yaI .i64 w2 (Addr.add (Addr.add a0 2) 6) fun d7 => yaI .i64 w2 (Addr.add (Addr.add a0 2) 7) fun d8 => yaU w2 (Addr.add (Addr.add a0 2) 8) fun b2 c0 b6 => yaQ w2 (Addr.add (Addr.add a0 2) 9) fun c5 => yaQ w2 (Addr.add (Addr.add a0 2) 10) fun c6 => yaI .i64 w2 (Addr.add (Addr.add a0 2) 11) fun d9 => yaT w2 (Addr.add (Addr.add a0 2) 12) fun d0 => yaU w2 (Addr.add (Addr.add a0 2) 13) fun b3 c1 b7 =>
 ixA a5 n2 a2 16 fun a1 =>
 yaI .i64 w2 (Addr.add a1 2) fun e0 => yaQ w2 (Addr.add (Addr.add a1 2) 1) fun c7 => yaI .i64 w2 (Addr.add (Addr.add a1 2) 2) fun e1 => yaI .i64 w2 (Addr.add (Addr.add a1 2) 3) fun e2 => yaI .i64 w2 (Addr.add (Addr.add a1 2) 4) fun e3 => yaI .i64 w2 (Addr.add (Addr.add a1 2) 5) fun e4 => yaI .i64 w2 (Addr.add (Addr.add a1 2) 6) fun e5 => yaI .i64 w2 (Addr.add (Addr.add a1 2) 7) fun e6 => yaU w2 (Addr.add (Addr.add a1 2) 8) fun b4 c2 b8 => yaQ w2 (Addr.add (Addr.add a1 2) 9) fun c8 => yaQ w2 (Addr.add (Addr.add a1 2) 10) fun c9 => yaI .i64 w2 (Addr.add (Addr.add a1 2) 11) fun e7 => yaT w2 (Addr.add (Addr.add a1 2) 12) fun d1 => yaU w2 (Addr.add (Addr.add a1 2) 13) fun b5 c3 b9 =>
 Calls pP 75 #[(.agg (Z1 d2 c4 d3 d4 d5 d6 d7 d8 b2 c0 b6 c5 c6 d9 d0 b3 c1 b7)), (.agg (Z1 e0 c7 e1 e2 e3 e4 e5 e6 b4 c2 b8 c8 c9 e7 d1 b5 c3 b9))] w2 fun e b1 => ∃ b0, e = .returned (.bool b0) ∧
 brB (!b0) (
 R (.bool false) b1)
 (
 KS (yDZ a4 n0 n1 a5 n2 n3 I m) (yl4 a4 n0 n1 a5 n2 n3 (iw .i64 (a2 + 1))) b1))))
 (
 R (.bool true) w)) :
 yaK ysD (yIU 396 [0, 0, 1, 0, 1, 1]) (yIV [1, 1, 0, 1, 0] [] R) (yl4 a4 n0 n1 a5 n2 n3 i0) w0 :=
 lrule (yl4 a4 n0 n1 a5 n2 n3) (U1 I) h0 (by rintro m a2 w h; exact ⟨by kernel_rfl, by kernel_rfl, fun js => Eq.mpr (by kernel_rfl) (hr m a2 w h)⟩)
theorem yIW (h :
 brB ((n0 : Int) != (n2 : Int)) (
 R (.bool false) w)
 (
 yaK ysD (yIU 396 [0, 0, 1, 0, 1, 1]) (yIV [1, 1, 0, 1, 0] [] R) (yl4 q0 n0 n1 q1 n2 n3 0) w)) :
 CR pP 39 #[.slice q0 n0 n1, .slice q1 n2 n3] w R :=
 yaA Tryz.wide_mixed (an := yuC) Tryz.func39 rfl rfl (by kernel_rfl) rfl (Eq.mpr (by kernel_rfl) h)
end
structure CV where
 x : PCall
 rs : Sl
 ts : Sl
def CV.cs (q : CV) : List Value := [.int .i64 q.x.c, .int .i64 q.x.n, .int .i64 q.x.op.kind, .string q.x.op.part.t, .int .i64 q.x.op.part.n, .int .i64 q.x.op.n, .int .i64 q.x.op.off, .int .i64 q.x.op.b.prod, .int .i64 q.x.op.b.epoch, .int .i64 q.x.op.b.seq, .slice q.rs.a q.rs.n q.rs.c, .string q.x.op.g, .string q.x.op.m, .int .i64 q.x.op.gen, .bool q.x.op.robin, .slice q.ts.a q.ts.n q.ts.c]
def CV.v (q : CV) : Value := .agg #[.int .i64 q.x.c, .int .i64 q.x.n, .int .i64 q.x.op.kind, .string q.x.op.part.t, .int .i64 q.x.op.part.n, .int .i64 q.x.op.n, .int .i64 q.x.op.off, .int .i64 q.x.op.b.prod, .int .i64 q.x.op.b.epoch, .int .i64 q.x.op.b.seq, .slice q.rs.a q.rs.n q.rs.c, .string q.x.op.g, .string q.x.op.m, .int .i64 q.x.op.gen, .bool q.x.op.robin, .slice q.ts.a q.ts.n q.ts.c]
theorem CV.cs_len (q : CV) : q.cs.length = 16 := rfl
theorem CV.cs_one (q : CV) : ∀ u ∈ q.cs, u.oneCell' = true := by simp [CV.cs, Value.oneCell']
structure PMail where
 kind : Int
 fr : Int
 to : Int
 view : Int
 normal : Int
 last : Int
 commit : Int
 nonce : Int
 base : Int
 n : Int
 calls : List PCall
 r : PRep
 deriving DecidableEq
def PMail.v (m : PMail) (s f p : Sl) : Value := .agg #[.int .i64 m.kind, .int .i64 m.fr, .int .i64 m.to, .int .i64 m.view, .int .i64 m.normal, .int .i64 m.last, .int .i64 m.commit, .int .i64 m.nonce, .int .i64 m.base, .int .i64 m.n, .slice s.a s.n s.c, .int .i64 m.r.e, .int .i64 m.r.off, .int .i64 m.r.n, .int .i64 m.r.gen, .slice f.a f.n f.c, .slice p.a p.n p.c]
def PMail.cs (m : PMail) (s f p : Sl) : List Value := [.int .i64 m.kind, .int .i64 m.fr, .int .i64 m.to, .int .i64 m.view, .int .i64 m.normal, .int .i64 m.last, .int .i64 m.commit, .int .i64 m.nonce, .int .i64 m.base, .int .i64 m.n, .slice s.a s.n s.c, .int .i64 m.r.e, .int .i64 m.r.off, .int .i64 m.r.n, .int .i64 m.r.gen, .slice f.a f.n f.c, .slice p.a p.n p.c]
def ye1 : PRep := ⟨0, 0, 0, 0, [], []⟩
def ynN : PMail := ⟨0, 0, 0, 0, 0, 0, 0, 0, 0, 0, [], ye1⟩
def ye2 (w : World) (s : Sl) (xs : List PCall) : Prop := ∃ ll : List CV, yb3 w 16 CV.cs s.a s.n ll ∧ (∀ q ∈ ll, OpAt w q.x.op q.rs q.ts) ∧ ll.map (·.x) = xs
def ybI (w : World) (base : Nat) (s : Sl) (xs : List PCall) : Prop := ∃ ll : List CV, Row w base 51 16 CV.cs s.a s.n s.c ll ∧ (∀ q ∈ ll, OpOwn w base q.x.op q.rs q.ts) ∧ ll.map (·.x) = xs
theorem ybI.at {w : World} {base : Nat} {s : Sl} {xs : List PCall} (h : ybI w base s xs) : ye2 w s xs := by
 obtain ⟨ll, h1, h2, h3⟩ := h; exact ⟨ll, h1.sl CV.cs_len, fun q hq => (h2 q hq).at, h3⟩
theorem ye2.keep0 {w w' : World} {s : Sl} {xs : List PCall} (h : ye2 w s xs) (M : Mod [] w w') : ye2 w' s xs := by
 obtain ⟨ll, h1, h2, h3⟩ := h; exact ⟨ll, h1.keep0 M, fun q hq => (h2 q hq).keep0 M, h3⟩
theorem ybI.keep0 {w w' : World} {base : Nat} {s : Sl} {xs : List PCall} (h : ybI w base s xs) (M : Mod [] w w') : ybI w' base s xs := by
 obtain ⟨ll, h1, h2, h3⟩ := h; exact ⟨ll, h1.keep0 M, fun q hq => (h2 q hq).keep0 M, h3⟩
theorem ybI.rebase {w : World} {base base' : Nat} {s : Sl} {xs : List PCall} (h : ybI w base s xs) (hb : base' ≤ base) : ybI w base' s xs := by
 obtain ⟨ll, h1, h2, h3⟩ := h; exact ⟨ll, h1.rebase hb, fun q hq => (h2 q hq).rebase hb, h3⟩
structure MailAt (w : World) (m : PMail) (s f p : Sl) : Prop where
 calls : ye2 w s m.calls
 rep : RepAt w m.r f p
structure MailOwn (w : World) (base : Nat) (m : PMail) (s f p : Sl) : Prop where
 calls : ybI w base s m.calls
 rep : RepOwn w base m.r f p
theorem MailOwn.at {w : World} {base : Nat} {m : PMail} {s f p : Sl} (h : MailOwn w base m s f p) : MailAt w m s f p := ⟨h.calls.at, h.rep.at⟩
theorem MailAt.keep0 {w w' : World} {m : PMail} {s f p : Sl} (h : MailAt w m s f p) (M : Mod [] w w') : MailAt w' m s f p := ⟨h.calls.keep0 M, h.rep.keep0 M⟩
theorem MailOwn.keep0 {w w' : World} {base : Nat} {m : PMail} {s f p : Sl} (h : MailOwn w base m s f p) (M : Mod [] w w') : MailOwn w' base m s f p := ⟨h.calls.keep0 M, h.rep.keep0 M⟩
theorem MailOwn.rebase {w : World} {base base' : Nat} {m : PMail} {s f p : Sl} (h : MailOwn w base m s f p) (hb : base' ≤ base) : MailOwn w base' m s f p := ⟨h.calls.rebase hb, h.rep.rebase hb⟩
theorem OpOwn.keep {S : List Nat} {w w' : World} {base : Nat} {o : POp} {rs ts : Sl} (h : OpOwn w base o rs ts) (M : Mod S w w') (hS : ∀ k ∈ S, ∀ cs T, w.heap[k]? = some (.cells cs T) → T ≠ 53 ∧ T ≠ 9) : OpOwn w' base o rs ts :=
  ⟨h.recs.keep M fun ad ha hk => by obtain ⟨_, cur, hc⟩ := h.recs.block ad ha; exact (hS _ hk _ _ hc).1 rfl,
   h.topics.keep M fun ad ha hk => by obtain ⟨_, cur, hc⟩ := h.topics.block ad ha; exact (hS _ hk _ _ hc).2 rfl, h.lr, h.lt⟩
theorem OpOwn.keepB {S : List Nat} {w w' : World} {base : Nat} {o : POp} {rs ts : Sl} (h : OpOwn w base o rs ts) (M : Mod S w w') (hS : ∀ k ∈ S, k < base) : OpOwn w' base o rs ts :=
 ⟨h.recs.keep M fun ad ha hk => by have := h.recs.base ad ha; have := hS _ hk; omega, h.topics.keep M fun ad ha hk => by have := h.topics.base ad ha; have := hS _ hk; omega, h.lr, h.lt⟩
theorem RepOwn.keepB {S : List Nat} {w w' : World} {base : Nat} {r : PRep} {f p : Sl} (h : RepOwn w base r f p) (M : Mod S w w') (hS : ∀ k ∈ S, k < base) : RepOwn w' base r f p :=
 ⟨h.found.keep M fun ad ha hk => by have := h.found.base ad ha; have := hS _ hk; omega, h.parts.keep M fun ad ha hk => by have := h.parts.base ad ha; have := hS _ hk; omega, h.lf, h.lp⟩
theorem ybI.keepB {S : List Nat} {w w' : World} {base : Nat} {s : Sl} {xs : List PCall} (h : ybI w base s xs) (M : Mod S w w') (hS : ∀ k ∈ S, k < base) : ybI w' base s xs := by
 obtain ⟨ll, h1, h2, h3⟩ := h
 exact ⟨ll, h1.keep M fun ad ha hk => by have := h1.base ad ha; have := hS _ hk; omega, fun q hq => (h2 q hq).keepB M hS, h3⟩
theorem MailOwn.keepB {S : List Nat} {w w' : World} {base : Nat} {m : PMail} {s f p : Sl} (h : MailOwn w base m s f p) (M : Mod S w w') (hS : ∀ k ∈ S, k < base) : MailOwn w' base m s f p := ⟨h.calls.keepB M hS, h.rep.keepB M hS⟩
theorem yFc : (Tryz.prog.info? 53).map (fun i => (i.zero, i.size, i.bytes)) = some (some (.agg #[.bool false, .string ByteArray.empty, .bool false, .string ByteArray.empty]), 4, 48) := by kernel_rfl
theorem yFd : (Tryz.prog.info? 9).map (fun i => (i.zero, i.size, i.bytes)) = some (some (.string ByteArray.empty), 1, 16) := by kernel_rfl
theorem ynO : (Tryz.prog.info? 51).map (fun i => (i.zero, i.size, i.bytes)) = some (some (.agg #[.int .i64 0, .int .i64 0, .int .i64 0, .string ByteArray.empty, .int .i64 0, .int .i64 0, .int .i64 0, .int .i64 0, .int .i64 0, .int .i64 0, .slice none 0 0, .string ByteArray.empty, .string ByteArray.empty, .int .i64 0, .bool false, .slice none 0 0]), 16, 184) := by kernel_rfl
theorem yAx {w : World} {s : Sl} {l : List BA} (h : yb3 w 1 yiO s.a s.n l) (hl : l.length ≤ 1000000) :
  Calls pP 48 #[.slice s.a s.n s.c] w fun e w' => ∃ v, e = .returned v ∧ ∃ s' : Sl, v = .slice s'.a s'.n s'.c ∧ Row w' w.heap.size 9 1 yiO s'.a s'.n s'.c l ∧ Mod [] w w' := by
 refine yId ?_
 refine yaB (fun h0 => ?_) fun _ => ?_
 ·have hl0 : l = [] := by
   cases l with
   | nil => rfl
   | cons x r => obtain ⟨ad, ha, _⟩ := h.2 0 x rfl; rw [ha] at h0; cases h0
  subst hl0
  exact ⟨⟨none, 0, 0⟩, rfl, Row.nil .., Mod.refl _⟩
 ·refine ydB fun b w1 c1 M1 f1 => ?_
  obtain ⟨i0, hi, hz0, hz1, hz2⟩ := info_parts yFd
  refine yd3 (Row.fresh c1 f1) Tryz.underlying47 hi hz0 hz1 hz2 rfl (by decide) (h.keep0 M1) ytM ynI (by simp; omega) (by simp; unfold maxLen; omega) M1.size fun a' n' c' w2 hR hM => ?_
  exact ⟨⟨a', n', c'⟩, rfl, by simpa using hR, M1.go0 (hM [b] (by simp)) (by simpa using f1)⟩
theorem yAy {w : World} {s : Sl} {l : List PRec} (h : yb3 w 4 ye7 s.a s.n l) (hl : l.length ≤ 1000000) :
  Calls pP 49 #[.slice s.a s.n s.c] w fun e w' => ∃ v, e = .returned v ∧ ∃ s' : Sl, v = .slice s'.a s'.n s'.c ∧ Row w' w.heap.size 53 4 ye7 s'.a s'.n s'.c l ∧ Mod [] w w' := by
 refine yIe ?_
 refine yaB (fun h0 => ?_) fun _ => ?_
 ·have hl0 : l = [] := by
   cases l with
   | nil => rfl
   | cons x r => obtain ⟨ad, ha, _⟩ := h.2 0 x rfl; rw [ha] at h0; cases h0
  subst hl0
  exact ⟨⟨none, 0, 0⟩, rfl, Row.nil .., Mod.refl _⟩
 ·refine ydB fun b w1 c1 M1 f1 => ?_
  obtain ⟨i0, hi, hz0, hz1, hz2⟩ := info_parts yFc
  refine yd3 (Row.fresh c1 f1) Tryz.underlying44 hi hz0 hz1 hz2 rfl (by decide) (h.keep0 M1) ytL ynH (by simp; omega) (by simp; unfold maxLen; omega) M1.size fun a' n' c' w2 hR hM => ?_
  exact ⟨⟨a', n', c'⟩, rfl, by simpa using hR, M1.go0 (hM [b] (by simp)) (by simpa using f1)⟩
theorem ybM {α : Type} {w : World} {base T sz : Nat} {enc : α → List Value} {a : OA} {n c : Nat} {l : List α} (h : Row w base T sz enc a n c l) : ∀ k ∈ ykQ a, base ≤ k ∧ k < w.heap.size ∧ ∃ cur, w.heap[k]? = some (.cells cur T) := by
 cases a with
 | none => simp [ykQ]
 | some ad => intro k hk; simp [ykQ] at hk; subst hk; obtain ⟨h1, cur, h2⟩ := h.block ad rfl; exact ⟨h1, yaX h2, cur, h2⟩
set_option maxHeartbeats 1000000 in
theorem yIX {w : World} {m : PMail} {s f p : Sl} (h : MailAt w m s f p) (hl : m.calls.length ≤ 100000) :
  Calls pP 19 #[m.v s f p] w fun e w' => ∃ v, e = .returned v ∧ ∃ s' f' p' : Sl, v = m.v s' f' p' ∧ MailOwn w' w.heap.size m s' f' p' ∧ Mod [] w w' := by
 obtain ⟨⟨ll, hS, hO, hll⟩, hR⟩ := h
 have hlen : ll.length ≤ 100000 := by rw [← hll] at hl; simpa using hl
 have hn := hS.1
 refine yIE ?_
 intro b1 f1 b2 f2 w1 A1
 have l2 := A1.lt b2 (by simp)
 have l1 := A1.lt b1 (by simp)
 have s1 := A1.mod.size
 refine yAm (fun mm a n c x w' => ∃ (k : Nat) (l : List CV), x = k ∧ k ≤ ll.length ∧ Row w' w1.heap.size 51 16 CV.cs a n c l ∧ (∀ q ∈ l, OpOwn w' w1.heap.size q.x.op q.rs q.ts) ∧ l.map (·.x) = (ll.take k).map (·.x) ∧ Mod [] w1 w' ∧ mm = ll.length - k) ll.length
  ⟨0, [], rfl, by omega, Row.nil .., by simp, by simp, Mod.refl _, rfl⟩ ?_
 rintro mm a n c x w2 ⟨k, l, rfl, hk, hRow, hOw, hlm, M2, rfl⟩
 have s2 := M2.size
 have N2 := A1.mod.go0 M2 (by simp)
 refine yaC (fun hlt => ?_) fun hge => ?_
 ·obtain ⟨q, hq⟩ : ∃ q, ll[k]? = some q := ⟨_, List.getElem?_eq_getElem (by omega)⟩
  refine (hS.keep0 N2).ix hq fun ad ha => yaF (x := q.x.c) (by simpa [add_zero] using ha 0 _ rfl) (yaF (ha 1 _ rfl) (yaF (ha 2 _ rfl) (yaG (ha 3 _ rfl) (yaF (ha 4 _ rfl) (yaF (ha 5 _ rfl) (yaF (ha 6 _ rfl) (yaF (ha 7 _ rfl) (yaF (ha 8 _ rfl) (yaF (ha 9 _ rfl) (ybH (ha 10 _ rfl) (yaG (ha 11 _ rfl) (yaG (ha 12 _ rfl) (yaF (ha 13 _ rfl) (yaN (ha 14 _ rfl) (ybH (ha 15 _ rfl) ?_)))))))))))))))
  intro b3 f3 w3 A3
  have l3 := A3.lt b3 (by simp)
  have s3 := A3.mod.size
  have hop := (hO q (List.mem_of_getElem? hq)).keep0 (N2.go0 A3.mod (by simp))
  refine (yAx (s := q.ts) hop.topics hop.lt).mono ?_
  rintro e w4 ⟨_, rfl, ts', rfl, hT, M4⟩
  refine ⟨_, _, _, rfl, yaE.of0 M4, rfl, ?_⟩
  have s4 := M4.size
  refine (yAy (s := q.rs) (hop.recs.keep0 M4) hop.lr).mono ?_
  rintro e w5 ⟨_, rfl, rs', rfl, hRc, M5⟩
  refine ⟨_, _, _, rfl, yaE.of0 M5, ?_⟩
  have s5 := M5.size
  intro w6 A6
  have s6 := A6.mod.size
  have K5 : Mod [] w2 w5 := (A3.mod.go0 M4 (by simp)).go0 M5 (by simp)
  have K6 : Mod [] w2 w6 := K5.go0 A6.mod (by simpa using f3)
  have hnew : OpOwn w6 w1.heap.size q.x.op rs' ts' := by
   refine OpOwn.rebase (base := w3.heap.size) ?_ (by omega)
   exact OpOwn.keepB ⟨hRc.rebase (by omega), hT.keep0 M5, hop.lr, hop.lt⟩ A6.mod (by simp; omega)
  refine ydB fun b7 w7 c7 M7 f7 => ?_
  have s7 := M7.size
  have hll' : l.length ≤ 100000 := by have := congrArg List.length hlm; simp at this; omega
  obtain ⟨i0, hi, hz0, hz1, hz2⟩ := info_parts ynO
  refine yb0 (x := (⟨q.x, rs', ts'⟩ : CV)) ((hRow.keep0 K6).keep0 M7) Tryz.underlying22 hi hz0 hz1 hz2 rfl (by decide) c7 rfl (CV.cs_one _) (by omega) (by unfold maxLen; omega) (by omega) fun a' c' w8 hR8 hM8 => ?_
  have M8 := hM8 _ (ydC a)
  have hrow := ybM hRow
  have K7 := K6.go0 M7 (by simp)
  have kp : ∀ {o rs ts}, OpOwn w7 w1.heap.size o rs ts → OpOwn w8 w1.heap.size o rs ts := fun hh => hh.keep M8 fun k hk cs T hc => by
   obtain ⟨_, _, cur, hcur⟩ := hrow k hk
   rw [K7.keep0 hcur] at hc; cases hc; decide
  refine ⟨yaE.of M8 fun b hb _ hb' => ?_, ?_⟩
  ·have := hrow b hb'; simp at hb; omega
  refine yAl (ll.length - (k + 1)) (by omega) ⟨k + 1, _, by rw [yaH (by omega) (by omega)]; omega, by omega, hR8, fun y hy => ?_, ?_, (M2.go0 K7 (by simp)).go0 M8 fun i hi => (hrow i hi).1, rfl⟩
  ·rcases List.mem_append.1 hy with hy | hy
   ·exact kp ((hOw y hy).keep0 K7)
   ·simp at hy; subst hy; exact kp (hnew.keep0 M7)
  ·rw [List.take_add_one, hq, List.map_append, List.map_append, hlm]; rfl
 ·have hk' : k = ll.length := by omega
  subst hk'
  rw [List.take_length, hll] at hlm
  intro w3 A3
  have N3 := N2.go0 A3.mod (by simpa using f1)
  have s3 := A3.mod.size
  have h3 := hR.keep0 N3
  refine (yy2 (s := f) h3.found h3.lf).mono ?_
  rintro e w4 ⟨_, rfl, f', rfl, hF, M4⟩
  refine ⟨_, _, _, rfl, yaE.of0 M4, rfl, ?_⟩
  have s4 := M4.size
  have h4 := h3.keep0 M4
  refine (yy3 (s := p) h4.parts h4.lp).mono ?_
  rintro e w5 ⟨_, rfl, p', rfl, hP, M5⟩
  refine ⟨_, _, _, rfl, yaE.of0 M5, ?_⟩
  have s5 := M5.size
  intro w6 A6
  have hC3 : ybI w3 w1.heap.size ⟨a, n, c⟩ m.calls := ybI.keepB ⟨l, hRow, hOw, hlm⟩ A3.mod (by simp; omega)
  have hM5 : MailOwn w5 w1.heap.size m ⟨a, n, c⟩ f' p' := ⟨(hC3.keep0 M4).keep0 M5, (hF.keep0 M5).rebase (by omega), hP.rebase (by omega), hR.lf, hR.lp⟩
  refine ⟨⟨a, n, c⟩, f', p', rfl, (hM5.keepB A6.mod (by simp; omega)).rebase s1, ((N3.go0 M4 (by simp)).go0 M5 (by simp)).go0 A6.mod (by simp; omega)⟩
theorem Wr.keep {B b v : Nat} {w w' : World} {cs : Array Value} {T : TypeId} (W : Wr B b w w') (h : w.heap[v]? = some (.cells cs T)) (hv : v ≠ b) (hT : T ≠ 5) : w'.heap[v]? = some (.cells cs T) :=
 W.oth v _ h (by simpa using hv) fun c fz e => hT (by cases e; rfl)
theorem Wr.keepE {B b : Nat} {w w' : World} {es : List Nat} {ts : List (Nat × TypeId)} {bs : List Nat} (W : Wr B b w w') (h : ∀ k ∈ bs, k ∉ es → k ≠ b ∧ (k < B ∨ ∃ T, (k, T) ∈ ts ∧ T ≠ 5)) : ya2 es ts bs w w' := fun k hk hl he hty => by
 obtain ⟨hne, h1 | ⟨T, hT, h2⟩⟩ := h k hk he
 ·exact W.bel.block k h1
 ·obtain ⟨cs, hc⟩ := hty _ hT rfl
  rw [hc]; exact W.keep hc hne h2
theorem Wr.mod {B b : Nat} {w0 w w' : World} (W : Wr B b w w') (M : Mod [] w0 w) (hB : w0.heap.size ≤ B) : Mod [] w0 w' :=
 ⟨W.bel.os.trans M.os, W.bel.tape.trans M.tape, W.bel.output.trans M.output, Nat.le_trans M.size W.bel.size, fun k hk _ => (W.bel.block k (by omega)).trans (M.block k hk (by simp))⟩
def ycW (x : PPart) : List UInt8 := ybU x.t ++ yaJ x.n.toNat
theorem yFe {B b v : Nat} {l : List UInt8} {w : World} {x : PPart} (h : Bd B b l w) (hlen : l.length ≤ 1000000000) (hB : B ≤ w.heap.size) (hv : w.heap[v]? = some (.cells #[.string x.t, .int .i64 x.n] 43)) (hvb : v ≠ b) (hs : x.t.size ≤ 1000) (hn : num x.n = true) :
  Calls pP 60 #[.iface 101 (.pointer (some ⟨b, 0, none⟩)), .pointer (some ⟨v, 0, none⟩)] w fun e w' => e = .returned (.tuple #[]) ∧ (Bd B b (l ++ ycW x) w' ∧ Wr B b w w') := by
 have hn : 0 ≤ x.n ∧ x.n ≤ 1099511627776 := by simpa [num] using hn
 obtain ⟨n, hn'⟩ := Int.eq_ofNat_of_zero_le hn.1
 refine yaP (yHe ?_)
 intro w1 A1
 have h1 := h.keep0 A1.mod
 have v1 := A1.mod.keep0 hv
 have s1 := A1.mod.size
 refine (ynF h1 (by omega) (by omega) (a := ⟨v, 0, none⟩) (s := x.t) (by rw [yaZ v1]; rfl) (by omega)).mono ?_
 rintro e w2 ⟨rfl, h2, W2⟩
 refine ⟨rfl, ?_⟩
 intro w3 A3
 have h3 := h2.keep0 A3.mod
 have v2 := W2.keep v1 hvb (by decide)
 have v3 := A3.mod.keep0 v2
 have s2 := W2.bel.size
 have s3 := A3.mod.size
 have lt := yaW x.t (by omega)
 refine (ygG h3 (by simp; omega) (by omega) (a := (⟨v, 0, none⟩ : Addr).add 1) (x := n) (by rw [ya3, yaZ v3, hn']; rfl) (by omega)).mono ?_
 rintro e w4 ⟨rfl, h4, W4⟩
 refine ⟨rfl, rfl, ?_, ((Wr.of0 A1.mod hB).trans W2).trans ((Wr.of0 A3.mod (by omega)).trans W4)⟩
 rw [ycW, hn', Int.toNat_natCast, ← List.append_assoc]
 exact h4
def hdL (r : PRep) : List Nat := [r.e.toNat, r.off.toNat, r.n.toNat, r.gen.toNat, r.found.length]
def yfG (x : PFound) : List UInt8 := yaJ x.off.toNat ++ yf7 x.r
def yiP (r : PRep) (k : Nat) : List UInt8 := ((hdL r).take k).flatMap yaJ
def ydE (r : PRep) (k : Nat) : List UInt8 := (hdL r).flatMap yaJ ++ (r.found.take k).flatMap yfG
def ye9 (r : PRep) (k : Nat) : List UInt8 := (hdL r).flatMap yaJ ++ r.found.flatMap yfG ++ yaJ r.parts.length ++ (r.parts.take k).flatMap ycW
def ydK (r : PRep) : List UInt8 := ye9 r r.parts.length
theorem ybB {α β : Type} {f : α → List β} {l : List α} {k : Nat} {x : α} (hx : l[k]? = some x) : (l.take (k + 1)).flatMap f = (l.take k).flatMap f ++ f x := by
 rw [List.take_add_one, hx]; simp
theorem ydF {α β : Type} {f : α → List β} {c : Nat} : ∀ {l : List α}, (∀ x ∈ l, (f x).length ≤ c) → (l.flatMap f).length ≤ l.length * c
 | [], _ => by simp
 | x :: r, h => by
  have h1 := h x (by simp)
  have h2 := ydF (l := r) fun y hy => h y (by simp [hy])
  rw [List.flatMap_cons, List.length_append, List.length_cons, Nat.succ_mul]; omega
structure RepGood (r : PRep) : Prop where
 hd : ∀ x ∈ hdL r, x ≤ 1099511627776
 nn : 0 ≤ r.e ∧ 0 ≤ r.off ∧ 0 ≤ r.n ∧ 0 ≤ r.gen
 f : ∀ x ∈ r.found, num x.off = true ∧ yfQ x.r = 0
 p : ∀ x ∈ r.parts, num x.n = true ∧ ybO x.t = true
 lf : r.found.length ≤ 64
 lp : r.parts.length ≤ 64
theorem RepGood.of {r : PRep} (h : yfR r = 0) : RepGood r := by
 unfold yfR at h
 split at h
 ·omega
 rename_i h1
 split at h
 ·omega
 split at h
 ·omega
 split at h
 ·omega
 rename_i h2 h3 h4
 have h1 := Bool.not_eq_false _ ▸ h1
 simp only [Bool.and_eq_true, List.all_eq_true, ok0] at h1
 simp [yy4, yEY] at h4
 obtain ⟨⟨⟨⟨⟨a1, a2⟩, a3⟩, a4⟩, hf⟩, hp⟩ := h1
 have nb : ∀ {x : Int}, num x = true → 0 ≤ x ∧ x ≤ 1099511627776 := fun h => by simpa [num] using h
 have a1 := nb a1
 have a2 := nb a2
 have a3 := nb a3
 have a4 := nb a4
 refine ⟨?_, by omega, fun x hx => ⟨hf x hx, h4.1 x hx⟩, fun x hx => ⟨hp x hx, h4.2 x hx⟩, by omega, by omega⟩
 intro x hx
 simp [hdL] at hx
 omega
theorem RepGood.len1 {r : PRep} (h : RepGood r) (k : Nat) : (yiP r k).length ≤ 50 := by
 have := ydF (f := yaJ) (c := 10) (l := (hdL r).take k) fun x hx => (yaL x (by have := h.hd x (List.mem_of_mem_take hx); omega)).2
 have e : ((hdL r).take k).length ≤ 5 := by rw [List.length_take]; simp [hdL]; omega
 unfold yiP; omega
theorem RepGood.lenF {r : PRep} (h : RepGood r) {x : PFound} (hx : x ∈ r.found) : (yfG x).length ≤ 610 := by
 obtain ⟨h1, h2⟩ := h.f x hx
 have h3 := yg3 h2
 have h4 : 0 ≤ x.off ∧ x.off ≤ 1099511627776 := by simpa [num] using h1
 have h5 := (yaL x.off.toNat (by omega)).2
 unfold yfG; rw [List.length_append]; omega
theorem RepGood.len2 {r : PRep} (h : RepGood r) (k : Nat) : (ydE r k).length ≤ 50000 := by
 have h1 := h.len1 5
 have e : yiP r 5 = (hdL r).flatMap yaJ := by rw [yiP, List.take_of_length_le (by simp [hdL])]
 rw [e] at h1
 have h2 := ydF (f := yfG) (c := 610) (l := r.found.take k) fun x hx => h.lenF (List.mem_of_mem_take hx)
 have e : (r.found.take k).length ≤ 64 := by have := h.lf; rw [List.length_take]; omega
 unfold ydE; rw [List.length_append]; omega
theorem RepGood.lenP {r : PRep} (h : RepGood r) {x : PPart} (hx : x ∈ r.parts) : (ycW x).length ≤ 40 ∧ x.t.size ≤ 16 := by
 obtain ⟨h1, h2⟩ := h.p x hx
 have h4 : 0 ≤ x.n ∧ x.n ≤ 1099511627776 := by simpa [num] using h1
 have h5 := (yaL x.n.toNat (by omega)).2
 have h6 : x.t.size ≤ 16 := by simp [ybO] at h2; omega
 have h7 := yaW x.t (by omega)
 unfold ycW; rw [List.length_append]; omega
theorem RepGood.len3 {r : PRep} (h : RepGood r) (k : Nat) : (ye9 r k).length ≤ 60000 := by
 have h1 := h.len2 r.found.length
 have e : ydE r r.found.length = (hdL r).flatMap yaJ ++ r.found.flatMap yfG := by rw [ydE, List.take_length]
 rw [e] at h1
 have h2 := ydF (f := ycW) (c := 40) (l := r.parts.take k) fun x hx => (h.lenP (List.mem_of_mem_take hx)).1
 have e : (r.parts.take k).length ≤ 64 := by have := h.lp; rw [List.length_take]; omega
 have h5 := (yaL r.parts.length (by have := h.lp; omega)).2
 unfold ye9; rw [List.length_append, List.length_append]; omega
theorem yFf {r : PRep} (h : RepGood r) {k : Nat} (hk : k < 5) : ∃ x : Nat, (hdL r)[k]? = some x ∧ x ≤ 1099511627776 := by
 have hk' : k < (hdL r).length := by simp [hdL]; omega
 exact ⟨(hdL r)[k], List.getElem?_eq_getElem hk', h.hd _ (List.getElem_mem hk')⟩
def yGv (x : Nat) : List Value := [.int .i64 (x : Nat)]
theorem yqC {w : World} {r : PRep} {f p : Sl} (h : RepAtW w r f p) :
  Calls pP 26 #[r.v f p] w fun e w' => e = .returned (.tuple #[.string (if yfR r = 0 then bs (ydK r) else bs []), .int .i64 (yfR r)]) ∧ Mod [] w w' := by
 refine yaP (yHf ?_)
 intro b1 f1 w1 A1
 have l1 := A1.lt b1 (by simp)
 refine (yy5 yrI (h.keep0 A1.mod)).mono ?_
 rintro e w2 ⟨rfl, M2⟩
 refine ⟨_, rfl, yaE.of0 M2, ?_⟩
 have N2 := A1.mod.go0 M2 (by simp)
 have s2 := N2.size
 have s2' := M2.size
 refine yaB (fun g1 => ?_) fun g1 => ?_
 ·have g : ¬ yfR r = 0 := by simpa using g1
  rw [if_neg g]; exact ⟨rfl, N2⟩
 have g : yfR r = 0 := by simpa using g1
 have G := RepGood.of g
 intro b3 f3 w3 A3
 have l3 := A3.lt b3 (by simp)
 refine ydB fun b4 w4 c4 M4 f4 => ?_
 intro w5 A5 hb5
 have s3 := A3.mod.size
 have s4 := M4.size
 have s5 := A5.mod.size
 have M5 := (A3.mod.go0 M4 (by simp)).go0 A5.mod (by simp)
 have c5 := A5.mod.keep0 c4
 have hbd : Bd w2.heap.size b3 [] w5 := .inl ⟨f3, .slice none 0 0, hb5, ⟨by simp [Lib.byteCells], .inl ⟨rfl, by simp [Lib.byteCells]⟩⟩, by simp [Value.ownBlock]⟩
 have hne : b4 ≠ b3 := by omega
 have Wr0 : Wr w2.heap.size b3 w2 w5 := Wr.of0 M5 (Nat.le_refl _)
 have hk1 : ∀ {es : List Nat} {ts : List (Nat × TypeId)} {x y : World}, Wr w2.heap.size b3 x y → ya2 es ts [b1] x y := fun W b hb _ _ _ => by
  simp at hb; subst hb; exact W.bel.block _ (by omega)
 have hcell : ∀ {w' : World}, Wr w2.heap.size b3 w5 w' → yb3 w' 1 yGv (some ⟨b4, 0, none⟩) 5 (hdL r) := fun {w'} W => by
  have c6 := W.keep c5 hne (by decide)
  refine ⟨rfl, fun i x hx => ⟨_, rfl, fun j v hv => ?_⟩⟩
  have hj : j = 0 := by have := (List.getElem?_eq_some_iff.1 hv).1; simp [yGv] at this; omega
  subst hj
  rw [ya3, ya3, yaZ c6]
  simp [yGv] at hv
  subst hv
  have hnn := G.nn
  have hi := (List.getElem?_eq_some_iff.1 hx).1
  simp [hdL] at hi
  have : r.e = (r.e.toNat : Int) ∧ r.off = (r.off.toNat : Int) ∧ r.n = (r.n.toNat : Int) ∧ r.gen = (r.gen.toNat : Int) := by omega
  have e4 := h.found.1
  match i, hi, hx with
  | 0, _, hx => simp [hdL] at hx; subst hx; simp; omega
  | 1, _, hx => simp [hdL] at hx; subst hx; simp; omega
  | 2, _, hx => simp [hdL] at hx; subst hx; simp; omega
  | 3, _, hx => simp [hdL] at hx; subst hx; simp; omega
  | 4, _, hx => simp [hdL] at hx; subst hx; simp; omega
 refine yy7 (fun mm x p0 a0 n0 c0 w' => ∃ k : Nat, x = k ∧ k ≤ 5 ∧ Bd w2.heap.size b3 (yiP r k) w' ∧ Wr w2.heap.size b3 w5 w' ∧ mm = 5 - k) 5 ⟨0, rfl, by omega, by simpa [yiP] using hbd, Wr.of0 (Mod.refl _) (by omega), rfl⟩ ?_
 rintro mm x p0 a0 n0 c0 w6 ⟨k, rfl, hk, hB6, W6, rfl⟩ hc6
 have s6 := W6.bel.size
 have lb := hB6.lt
 refine yaC (fun hlt => ?_) fun hge => ?_
 ·obtain ⟨x, hx, hx2⟩ := yFf G (k := k) (by omega)
  refine (hcell W6).ix hx fun q hq => yaF (by simpa [add_zero] using hq 0 _ rfl) ?_
  intro b7 f7 w7 A7 hb7 hv7
  have s7 := A7.mod.size
  refine (ygG (hB6.keep0 A7.mod) (by have := G.len1 k; omega) (by omega) (a := ⟨b7, 0, none⟩) (x := x) (by rw [yaZ hv7]; rfl) (by omega)).mono ?_
  rintro e w8 ⟨rfl, hB8, W8⟩
  obtain ⟨p8, a8, n8, c8, hc8⟩ := hB8.cells
  refine ⟨rfl, hk1 W8, p8, a8, n8, c8, hc8, _, W8.keep hv7 (by omega) (by decide), ?_⟩
  refine yy6 (5 - (k + 1)) (by omega) ⟨k + 1, by rw [yaH (by omega) (by omega)]; omega, by omega, ?_, (W6.trans (Wr.of0 A7.mod (by omega))).trans W8, rfl⟩
  rw [yiP, ybB hx]
  exact hB8
 have hk5 : k = 5 := by omega
 subst hk5
 have e1 : yiP r 5 = ydE r 0 := by rw [yiP, ydE, List.take_of_length_le (by simp [hdL])]; simp
 rw [e1] at hB6
 have e4 := h.found.1
 have e5 := h.parts.1
 have lf := G.lf
 have lp := G.lp
 have mod0 : ∀ {w'}, Wr w2.heap.size b3 w5 w' → Mod [] w w' := fun W => (Wr0.trans W).mod N2 s2
 refine yy9 (fun mm x p0 a0 n0 c0 w' => ∃ k : Nat, x = k ∧ k ≤ r.found.length ∧ Bd w2.heap.size b3 (ydE r k) w' ∧ Wr w2.heap.size b3 w5 w' ∧ mm = r.found.length - k) r.found.length ⟨0, rfl, by omega, hB6, W6, rfl⟩ ?_
 clear hB6 W6 hc6 lb s6
 rintro mm x p0 a0 n0 c0 w6 ⟨k, rfl, hk, hB6, W6, rfl⟩ hc6
 have s6 := W6.bel.size
 have lb := hB6.lt
 refine yaC (fun hlt => ?_) fun hge => ?_
 ·have g1 : k < r.found.length := by omega
  obtain ⟨x, hx⟩ : ∃ x, r.found[k]? = some x := ⟨_, List.getElem?_eq_getElem g1⟩
  obtain ⟨hx1, hx2⟩ := G.f x (List.mem_of_getElem? hx)
  have hx1 : 0 ≤ x.off ∧ x.off ≤ 1099511627776 := by simpa [num] using hx1
  obtain ⟨n, hn'⟩ := Int.eq_ofNat_of_zero_le hx1.1
  refine (h.keep0 (mod0 W6)).found.ix hx fun q hq => yaF (by simpa [add_zero] using hq 0 _ rfl) (yaN (hq 1 _ rfl) (yaG (hq 2 _ rfl) (yaN (hq 3 _ rfl) (yaG (hq 4 _ rfl) ?_))))
  intro b7 f7 w7 A7 hb7 hv7
  have s7 := A7.mod.size
  have lr := yg3 hx2
  have lk := G.len2 k
  have lv := yaL n (by omega)
  refine (ygG (hB6.keep0 A7.mod) (by omega) (by omega) (a := ⟨b7, 0, none⟩) (x := n) (by rw [yaZ hv7, hn']; rfl) (by omega)).mono ?_
  rintro e w8 ⟨rfl, hB8, W8⟩
  have s8 := W8.bel.size
  obtain ⟨p8, a8, n8, c8, hc8⟩ := hB8.cells
  have hv8 := W8.keep hv7 (by omega) (by decide)
  refine ⟨rfl, hk1 W8, p8, a8, n8, c8, hc8, _, _, _, _, _, hv8, ?_⟩
  refine (yzD x.r w8).mono ?_
  rintro e w9 ⟨rfl, M9⟩
  have hB9 := hB8.keep0 M9
  have s9 := M9.size
  refine ⟨_, _, rfl, yaE.of0 M9, p8, a8, n8, c8, M9.keep0 hc8, _, _, _, _, _, M9.keep0 hv8, ?_⟩
  rw [if_pos hx2]
  refine (yCu hB9 (by rw [List.length_append]; omega) (by omega)).mono ?_
  rintro e w10 ⟨rfl, hB10, W10⟩
  obtain ⟨p10, a10, n10, c10, hc10⟩ := hB10.cells
  refine ⟨_, _, rfl, hk1 W10, p10, a10, n10, c10, hc10, _, _, _, _, _, W10.keep (M9.keep0 hv8) (by omega) (by decide), ?_⟩
  refine yy8 (r.found.length - (k + 1)) (by omega) ⟨k + 1, by rw [yaH (by omega) (by omega)]; omega, by omega, ?_, (W6.trans (Wr.of0 A7.mod (by omega))).trans ((W8.trans (Wr.of0 M9 (by omega))).trans W10), rfl⟩
  have e : ydE r (k + 1) = ydE r k ++ yaJ n ++ yf7 x.r := by
   rw [ydE, ybB hx, yfG, hn', Int.toNat_natCast, ydE]; simp
  rw [e]
  exact hB10
 have hkf : k = r.found.length := by omega
 subst hkf
 intro b7 f7 w7 A7 hb7 hv7
 have s7 := A7.mod.size
 have lk := G.len2 r.found.length
 refine (ygG (hB6.keep0 A7.mod) (by omega) (by omega) (a := ⟨b7, 0, none⟩) (x := r.parts.length) (by rw [yaZ hv7, e5]; rfl) (by omega)).mono ?_
 rintro e w8 ⟨rfl, hB8, W8⟩
 have s8 := W8.bel.size
 obtain ⟨p8, a8, n8, c8, hc8⟩ := hB8.cells
 have hv8 := W8.keep hv7 (by omega) (by decide)
 refine ⟨rfl, hk1 W8, p8, a8, n8, c8, hc8, _, hv8, ?_⟩
 have W8' : Wr w2.heap.size b3 w5 w8 := (W6.trans (Wr.of0 A7.mod (by omega))).trans W8
 have e3 : ydE r r.found.length ++ yaJ r.parts.length = ye9 r 0 := by rw [ydE, ye9, List.take_length]; simp
 rw [e3] at hB8
 have lb8 := yaX hv8
 refine yzB (fun mm x p0 a0 n0 c0 y w' => ∃ k : Nat, x = k ∧ k ≤ r.parts.length ∧ Bd w2.heap.size b3 (ye9 r k) w' ∧ Wr w2.heap.size b3 w5 w' ∧ w8.heap.size ≤ w'.heap.size ∧ mm = r.parts.length - k) r.parts.length ⟨0, rfl, by omega, hB8, W8', Nat.le_refl _, rfl⟩ ?_
 rintro mm x p0 a0 n0 c0 y w9 ⟨k, rfl, hk, hB9, W9, hs9, rfl⟩ hc9 hv9
 have s9 := W9.bel.size
 refine yaC (fun hlt => ?_) fun hge => ?_
 ·have g1 : k < r.parts.length := by omega
  obtain ⟨x, hx⟩ : ∃ x, r.parts[k]? = some x := ⟨_, List.getElem?_eq_getElem g1⟩
  have hxm := List.mem_of_getElem? hx
  refine (h.keep0 (mod0 W9)).parts.ix hx fun q hq => yaG (by simpa [add_zero] using hq 0 _ rfl) (yaF (hq 1 _ rfl) ?_)
  intro b10 f10 w10 A10 hb10 hv10' hv10
  have s10 := A10.mod.size
  have lk := G.len3 k
  refine (yFe (hB9.keep0 A10.mod) (by omega) (by omega) hv10 (by omega) (by have := (G.lenP hxm).2; omega) (G.p x hxm).1).mono ?_
  rintro e w11 ⟨rfl, hB11, W11⟩
  have s11 := W11.bel.size
  obtain ⟨p11, a11, n11, c11, hc11⟩ := hB11.cells
  refine ⟨rfl, hk1 W11, p11, a11, n11, c11, hc11, _, W11.keep hv10' (by omega) (by decide), _, _, W11.keep hv10 (by omega) (by decide), ?_⟩
  refine yzA (r.parts.length - (k + 1)) (by omega) ⟨k + 1, by rw [yaH (by omega) (by omega)]; omega, by omega, ?_, (W9.trans (Wr.of0 A10.mod (by omega))).trans W11, by omega, rfl⟩
  have e : ye9 r (k + 1) = ye9 r k ++ ycW x := by
   rw [ye9, ybB hx, ye9]; simp
  rw [e]
  exact hB11
 ·have hkp : k = r.parts.length := by omega
  subst hkp
  refine (yjT BTw w2.heap.size b3 (ydK r) w9 hB9 ?_).mono ?_
  ·intro e0
   have h1 : (ydK r).length = 0 := by rw [e0]; rfl
   have h2 := (yaL r.parts.length (by omega)).1
   rw [ydK, ye9, List.length_append, List.length_append] at h1
   omega
  ·rintro e w10 ⟨rfl, hB10, h10, o10⟩
   have W10 : Wr w2.heap.size b3 w9 w10 := ⟨h10, o10⟩
   obtain ⟨p10, a10, n10, c10, hc10⟩ := Bd.cells hB10
   refine ⟨_, rfl, hk1 W10, p10, a10, n10, c10, hc10, _, W10.keep hv9 (by omega) (by decide), ?_, mod0 (W9.trans W10)⟩
   rw [if_pos g, g]; rfl
theorem yuD {w : World} {r : PRep} {f p : Sl} (h : RepAt w r f p) :
 Calls pP 26 #[r.v f p] w fun e w' => e = .returned (.tuple #[.string (if yfR r = 0 then bs (ydK r) else bs []), .int .i64 (yfR r)]) ∧ Mod [] w w' := yqC h.wide
theorem BTs : BT 61 := ⟨by kernel_rfl, by decide⟩
abbrev Sb (B b : Nat) (l : List UInt8) (w : World) : Prop := Lib.IsBuilderF 61 5 B b (Lib.byteCells l) w
theorem Sb.cells {B b : Nat} {l : List UInt8} {w : World} (h : Sb B b l w) : ∃ (p a : OA) (n c : Nat), w.heap[b]? = some (.cells #[.pointer p, .slice a n c] 61) := by
 have one : ∀ {p bs}, Lib.BuilderAtF 61 5 B b (.pointer p) bs w → ∃ (p a : OA) (n c : Nat), w.heap[b]? = some (.cells #[.pointer p, .slice a n c] 61) := by
  rintro p bs ⟨hB, v, hb, ⟨hl, ho⟩, hne⟩
  rcases ho with ⟨rfl, _⟩ | ⟨g, cap, cur, fz, rfl, hg, hh, r⟩
  ·exact ⟨_, _, _, _, hb⟩
  ·exact ⟨_, _, _, _, hb⟩
 exact h.elim one one
theorem Sb.keep0 {B b : Nat} {l : List UInt8} {w w' : World} (h : Sb B b l w) (M : Mod [] w w') : Sb B b l w' := by
 have one : ∀ {p bs}, Lib.BuilderAtF 61 5 B b p bs w → Lib.BuilderAtF 61 5 B b p bs w' := by
  rintro p bs ⟨hB, v, hb, ⟨hl, ho⟩, hne⟩
  refine ⟨hB, v, M.keep0 hb, ⟨hl, ?_⟩, hne⟩
  rcases ho with ho | ⟨g, cap, cur, fz, hv, hg, hh, r⟩
  ·exact .inl ho
  ·exact .inr ⟨g, cap, cur, fz, hv, hg, M.keep0 hh, r⟩
 exact h.elim (fun x => .inl (one x)) (fun x => .inr (one x))
theorem Sb.fresh {B b : Nat} {w : World} (hB : B ≤ b) (h : w.heap[b]? = some (.cells #[.pointer none, .slice none 0 0] 61)) : Sb B b [] w :=
 .inl ⟨hB, .slice none 0 0, h, ⟨by simp [Lib.byteCells], .inl ⟨rfl, by simp [Lib.byteCells]⟩⟩, by simp [Value.ownBlock]⟩
theorem yAz {B b : Nat} {l l2 : List UInt8} {w : World} (h : Sb B b l w) (hlen : l.length + l2.length ≤ 100000000000) (hB : B ≤ w.heap.size) :
  Calls pP 23 #[.pointer (some ⟨b, 0, none⟩), .string (bs l2)] w fun e w' => e = .returned (.tuple #[.int .i64 ((bs l2).size : Nat), .nilIface]) ∧ (Sb B b (l ++ l2) w' ∧ Wr B b w w') := by
 refine (yf5 BTs B b (Lib.byteCells l) (bs l2) w h (by rw [Lib.byteCells_length, yaD]; omega) hB).mono ?_
 rintro e w' ⟨rfl, h1, h2, h3⟩
 refine ⟨rfl, .inr ?_, ⟨h2, h3⟩⟩
 have e : Lib.byteCells (l ++ l2) = Lib.byteCells l ++ Lib.strCells (bs l2) := by simp [Lib.byteCells, Lib.strCells, bs]
 rw [e]; exact h1
theorem yFg {B b : Nat} {l : List UInt8} {w : World} (h : Sb B b l w) (h0 : l ≠ []) :
  Calls pP 27 #[.pointer (some ⟨b, 0, none⟩)] w fun e w' => e = .returned (.string (bs l)) ∧ (Sb B b l w' ∧ Wr B b w w') := by
 refine (yjT BTs B b l w h h0).mono ?_
 rintro e w' ⟨rfl, h1, h2, h3⟩
 exact ⟨rfl, h1, h2, h3⟩
def yaR (m : PMail) : List Int := [m.kind, m.fr, m.to, m.view, m.normal, m.last, m.commit, m.nonce, m.base, m.n]
theorem yqD (b : Nat) (w : World) : Calls pP 22 #[.pointer (some ⟨b, 0, none⟩)] w fun e w' => e = .returned (.agg #[.pointer (some ⟨b, 0, none⟩), .pointer (some ⟨b, 1, none⟩), .pointer (some ⟨b, 2, none⟩), .pointer (some ⟨b, 3, none⟩), .pointer (some ⟨b, 4, none⟩), .pointer (some ⟨b, 5, none⟩), .pointer (some ⟨b, 6, none⟩), .pointer (some ⟨b, 7, none⟩), .pointer (some ⟨b, 8, none⟩), .pointer (some ⟨b, 9, none⟩)]) ∧ Mod [] w w' := by
 refine yaP (yIy ?_)
 intro b1 f1 w2 A2
 exact ⟨rfl, A2.mod⟩
theorem yeJ {w : World} {b : Nat} {m : PMail} {s f p : Sl} (h : w.heap[b]? = some (.cells (m.cs s f p).toArray 29)) {k : Nat} {x : Int} (hx : (yaR m)[k]? = some x) : w.cell? ⟨b, k, none⟩ = some (.int .i64 x) := by
 rw [yaZ h]
 have hk := (List.getElem?_eq_some_iff.1 hx).1
 simp [yaR] at hk
 match k, hk, hx with
 | 0, _, hx | 1, _, hx | 2, _, hx | 3, _, hx | 4, _, hx | 5, _, hx | 6, _, hx | 7, _, hx | 8, _, hx | 9, _, hx => simp [yaR] at hx; subst hx; rfl
theorem yFh (b : Nat) (w' : World) : (Instr.index 63 (.agg #[.pointer (some ⟨b, 0, none⟩), .pointer (some ⟨b, 1, none⟩), .pointer (some ⟨b, 2, none⟩), .pointer (some ⟨b, 3, none⟩), .pointer (some ⟨b, 4, none⟩), .pointer (some ⟨b, 5, none⟩), .pointer (some ⟨b, 6, none⟩), .pointer (some ⟨b, 7, none⟩), .pointer (some ⟨b, 8, none⟩), .pointer (some ⟨b, 9, none⟩)]) (.int .i64 0)).run pP w' = .ok (.pointer (some ⟨b, 0, none⟩)) w' := by kernel_rfl
theorem yFi (b : Nat) (w' : World) : (Instr.index 63 (.agg #[.pointer (some ⟨b, 0, none⟩), .pointer (some ⟨b, 1, none⟩), .pointer (some ⟨b, 2, none⟩), .pointer (some ⟨b, 3, none⟩), .pointer (some ⟨b, 4, none⟩), .pointer (some ⟨b, 5, none⟩), .pointer (some ⟨b, 6, none⟩), .pointer (some ⟨b, 7, none⟩), .pointer (some ⟨b, 8, none⟩), .pointer (some ⟨b, 9, none⟩)]) (.int .i64 1)).run pP w' = .ok (.pointer (some ⟨b, 1, none⟩)) w' := by kernel_rfl
theorem yFj (b : Nat) (w' : World) : (Instr.index 63 (.agg #[.pointer (some ⟨b, 0, none⟩), .pointer (some ⟨b, 1, none⟩), .pointer (some ⟨b, 2, none⟩), .pointer (some ⟨b, 3, none⟩), .pointer (some ⟨b, 4, none⟩), .pointer (some ⟨b, 5, none⟩), .pointer (some ⟨b, 6, none⟩), .pointer (some ⟨b, 7, none⟩), .pointer (some ⟨b, 8, none⟩), .pointer (some ⟨b, 9, none⟩)]) (.int .i64 2)).run pP w' = .ok (.pointer (some ⟨b, 2, none⟩)) w' := by kernel_rfl
theorem yFk (b : Nat) (w' : World) : (Instr.index 63 (.agg #[.pointer (some ⟨b, 0, none⟩), .pointer (some ⟨b, 1, none⟩), .pointer (some ⟨b, 2, none⟩), .pointer (some ⟨b, 3, none⟩), .pointer (some ⟨b, 4, none⟩), .pointer (some ⟨b, 5, none⟩), .pointer (some ⟨b, 6, none⟩), .pointer (some ⟨b, 7, none⟩), .pointer (some ⟨b, 8, none⟩), .pointer (some ⟨b, 9, none⟩)]) (.int .i64 3)).run pP w' = .ok (.pointer (some ⟨b, 3, none⟩)) w' := by kernel_rfl
theorem yFl (b : Nat) (w' : World) : (Instr.index 63 (.agg #[.pointer (some ⟨b, 0, none⟩), .pointer (some ⟨b, 1, none⟩), .pointer (some ⟨b, 2, none⟩), .pointer (some ⟨b, 3, none⟩), .pointer (some ⟨b, 4, none⟩), .pointer (some ⟨b, 5, none⟩), .pointer (some ⟨b, 6, none⟩), .pointer (some ⟨b, 7, none⟩), .pointer (some ⟨b, 8, none⟩), .pointer (some ⟨b, 9, none⟩)]) (.int .i64 4)).run pP w' = .ok (.pointer (some ⟨b, 4, none⟩)) w' := by kernel_rfl
theorem yFm (b : Nat) (w' : World) : (Instr.index 63 (.agg #[.pointer (some ⟨b, 0, none⟩), .pointer (some ⟨b, 1, none⟩), .pointer (some ⟨b, 2, none⟩), .pointer (some ⟨b, 3, none⟩), .pointer (some ⟨b, 4, none⟩), .pointer (some ⟨b, 5, none⟩), .pointer (some ⟨b, 6, none⟩), .pointer (some ⟨b, 7, none⟩), .pointer (some ⟨b, 8, none⟩), .pointer (some ⟨b, 9, none⟩)]) (.int .i64 5)).run pP w' = .ok (.pointer (some ⟨b, 5, none⟩)) w' := by kernel_rfl
theorem yFn (b : Nat) (w' : World) : (Instr.index 63 (.agg #[.pointer (some ⟨b, 0, none⟩), .pointer (some ⟨b, 1, none⟩), .pointer (some ⟨b, 2, none⟩), .pointer (some ⟨b, 3, none⟩), .pointer (some ⟨b, 4, none⟩), .pointer (some ⟨b, 5, none⟩), .pointer (some ⟨b, 6, none⟩), .pointer (some ⟨b, 7, none⟩), .pointer (some ⟨b, 8, none⟩), .pointer (some ⟨b, 9, none⟩)]) (.int .i64 6)).run pP w' = .ok (.pointer (some ⟨b, 6, none⟩)) w' := by kernel_rfl
theorem yFo (b : Nat) (w' : World) : (Instr.index 63 (.agg #[.pointer (some ⟨b, 0, none⟩), .pointer (some ⟨b, 1, none⟩), .pointer (some ⟨b, 2, none⟩), .pointer (some ⟨b, 3, none⟩), .pointer (some ⟨b, 4, none⟩), .pointer (some ⟨b, 5, none⟩), .pointer (some ⟨b, 6, none⟩), .pointer (some ⟨b, 7, none⟩), .pointer (some ⟨b, 8, none⟩), .pointer (some ⟨b, 9, none⟩)]) (.int .i64 7)).run pP w' = .ok (.pointer (some ⟨b, 7, none⟩)) w' := by kernel_rfl
theorem yFp (b : Nat) (w' : World) : (Instr.index 63 (.agg #[.pointer (some ⟨b, 0, none⟩), .pointer (some ⟨b, 1, none⟩), .pointer (some ⟨b, 2, none⟩), .pointer (some ⟨b, 3, none⟩), .pointer (some ⟨b, 4, none⟩), .pointer (some ⟨b, 5, none⟩), .pointer (some ⟨b, 6, none⟩), .pointer (some ⟨b, 7, none⟩), .pointer (some ⟨b, 8, none⟩), .pointer (some ⟨b, 9, none⟩)]) (.int .i64 8)).run pP w' = .ok (.pointer (some ⟨b, 8, none⟩)) w' := by kernel_rfl
theorem yFq (b : Nat) (w' : World) : (Instr.index 63 (.agg #[.pointer (some ⟨b, 0, none⟩), .pointer (some ⟨b, 1, none⟩), .pointer (some ⟨b, 2, none⟩), .pointer (some ⟨b, 3, none⟩), .pointer (some ⟨b, 4, none⟩), .pointer (some ⟨b, 5, none⟩), .pointer (some ⟨b, 6, none⟩), .pointer (some ⟨b, 7, none⟩), .pointer (some ⟨b, 8, none⟩), .pointer (some ⟨b, 9, none⟩)]) (.int .i64 9)).run pP w' = .ok (.pointer (some ⟨b, 9, none⟩)) w' := by kernel_rfl
theorem yFr (b : Nat) {k : Nat} (hk : k < 10) (w' : World) : (Instr.index 63 (.agg #[.pointer (some ⟨b, 0, none⟩), .pointer (some ⟨b, 1, none⟩), .pointer (some ⟨b, 2, none⟩), .pointer (some ⟨b, 3, none⟩), .pointer (some ⟨b, 4, none⟩), .pointer (some ⟨b, 5, none⟩), .pointer (some ⟨b, 6, none⟩), .pointer (some ⟨b, 7, none⟩), .pointer (some ⟨b, 8, none⟩), .pointer (some ⟨b, 9, none⟩)]) (.int .i64 (k : Nat))).run pP w' = .ok (.pointer (some ⟨b, k, none⟩)) w' := by
 have e : k = 0 ∨ k = 1 ∨ k = 2 ∨ k = 3 ∨ k = 4 ∨ k = 5 ∨ k = 6 ∨ k = 7 ∨ k = 8 ∨ k = 9 := by omega
 rcases e with rfl | rfl | rfl | rfl | rfl | rfl | rfl | rfl | rfl | rfl
 ·exact yFh b w'
 ·exact yFi b w'
 ·exact yFj b w'
 ·exact yFk b w'
 ·exact yFl b w'
 ·exact yFm b w'
 ·exact yFn b w'
 ·exact yFo b w'
 ·exact yFp b w'
 ·exact yFq b w'
section
variable {R : VWP} {w w0 : World} {m : Nat} {i0 i1 i2 i3 i4 i5 i6 i7 i8 i9 j0 j1 j2 j3 j4 j5 j6 j7 j8 j9 k0 k1 k2 k3 k4 k5 k6 k7 k8 k9 l0 l1 l2 l3 l4 l5 l6 l7 l8 l9 : Int} {s0 s1 s2 s3 s4 s5 s6 s7 s8 s9 t0 t1 t2 t3 t4 t5 t6 t7 t8 t9 : BA} {n0 n1 n2 n3 n4 n5 n6 n7 n8 n9 o0 o1 o2 o3 o4 o5 o6 o7 o8 o9 p0 p1 p2 p3 p4 p5 p6 p7 p8 p9 : Nat} {q0 q1 q2 q3 q4 q5 q6 q7 q8 q9 r0 r1 r2 r3 r4 r5 r6 r7 r8 r9 : OA} {B0 B1 B2 B3 B4 B5 B6 B7 B8 B9 : Bool} {M0 M1 M2 M3 : Option Nat} {V0 V1 V2 V3 V4 V5 : Value} {A0 A1 A2 : Addr}
def ysE : LA := ⟨[0, 0, 1, 0, 1, 1, 1], [1, 5, 24, 25, 26], [(1, 0, 0), (5, 1, 0)], 2, [1]⟩
def ysF : LA := ⟨[0, 0, 1, 0, 1, 1, 1, 1], [5, 36, 37, 38], [(5, 1, 0)], 2, [1]⟩
def yuE : List LA := [ysE, ysF]
abbrev yCH := dnF pP yuE (code Tryz.f162)
abbrev yLp := yaO pP yuE (code Tryz.f162)
abbrev yCI (p : List Nat) (K : List Kh) (R : VWP) := yaO pP yuE (code Tryz.f162) p K (ya4 pP Tryz.f162 [] R)
def yl5 (b0 : OA) (b2 b1 bm0 : Nat) (a7 a8 a9 : Int) (a0 : OA) (a4 a2 bm1 : Nat) : Int × (OA) × (OA) × Nat × Nat → List Value × List TB := fun (b3, a6, a1, a5, a3) => ([(.pointer (some ⟨bm0, 0, none⟩)), (.pointer (some ⟨bm1, 0, none⟩)), .slice b0 b2 b1, (.int .i64 (4 : Int)), .int .i64 b3], [⟨bm0, 46, [.int .i64 a7, .int .i64 a8, .int .i64 a9, .slice a0 a4 a2], false⟩, ⟨bm1, 61, [.pointer a6, .slice a1 a5 a3], true⟩])
def yl6 (b0 : OA) (b2 b1 : Nat) (b3 : Int) (bm0 : Nat) (a7 a8 a9 : Int) (a0 : OA) (a4 a2 bm1 : Nat) : Int × (OA) × (OA) × Nat × Nat → List Value × List TB := fun (b4, a6, a1, a5, a3) => ([(.pointer (some ⟨bm1, 0, none⟩)), .slice b0 b2 b1, .int .i64 b3, .int .i64 b4], [⟨bm0, 46, [.int .i64 a7, .int .i64 a8, .int .i64 a9, .slice a0 a4 a2], false⟩, ⟨bm1, 61, [.pointer a6, .slice a1 a5 a3], true⟩])
abbrev yD0 (a6 : OA) (a8 a7 bm0 : Nat) (a3 a4 a5 : Int) (a0 : OA) (a2 a1 bm1 : Nat) (I : Nat → Int → OA → OA → Nat → Nat → World → Prop) (m : Nat) : Kh := KG (yl5 a6 a8 a7 bm0 a3 a4 a5 a0 a2 a1 bm1) (U5 I) m
theorem yAA {I : Nat → Int → OA → OA → Nat → Nat → World → Prop} (m' : Nat) (h1 : m' < m) (h2 : I m' i3 q2 q3 n6 n7 w) : KS (yD0 q0 n0 n1 n2 i0 i1 i2 q1 n3 n4 n5 I m) (yl5 q0 n0 n1 n2 i0 i1 i2 q1 n3 n4 n5 (i3, q2, q3, n6, n7)) w := ⟨m', h1, _, rfl, rfl, h2⟩
theorem yAB {b1 : OA} {a1 : OA} {b6 b3 : OA} (I : Nat → Int → OA → OA → Nat → Nat → World → Prop) (m0 : Nat) (h0 : I m0 i3 b6 b3 n6 n7 w0)
 (hr : ∀ m b0 a6 a3 a5 a4 w, I m b0 a6 a3 a5 a4 w →
 hpC w n5 #[.pointer a6, .slice a3 a5 a4] 61 →
 brB (decide (b0 < (4 : Int))) (
 ixA b1 n0 b0 1 fun q9 =>
 yaI .i64 w q9 fun d1 =>
 Calls pP 24 #[(.int .u64 (iw .u64 d1))] w fun e b8 => ∃ c5, e = .returned (.string c5) ∧ ya2 [n5] [(n2, 46)] [n2] w b8 ∧ ∃ c9 c6 c8 c7, hpC b8 n5 #[.pointer c9, .slice c6 c8 c7] 61 ∧
 Calls pP 23 #[(.pointer (some ⟨n5, 0, none⟩)), .string c5] b8 fun e c0 => ∃ d2 d0, e = .returned (.tuple #[.int .i64 d2, d0]) ∧ ya2 [n5] [(n2, 46)] [n2] b8 c0 ∧ ∃ c4 c1 c3 c2, hpC c0 n5 #[.pointer c4, .slice c1 c3 c2] 61 ∧
 KS (yD0 b1 n0 n1 n2 i0 i1 i2 a1 n3 n4 n5 I m) (yl5 b1 n0 n1 n2 i0 i1 i2 a1 n3 n4 n5 ((iw .i64 (b0 + 1)), c4, c1, c3, c2)) c0)
 (
 yaK ysF (yCH 394 [0, 0, 1, 0, 1, 1, 1, 1]) (yCI [1, 1, 1, 1, 0, 1, 0] [] R) (yl6 a1 n3 n4 (n3 : Int) n2 i0 i1 i2 a1 n3 n4 n5 (0, a6, a3, a5, a4)) w)) :
 yaK ysE (yCH 395 [0, 0, 1, 0, 1, 1, 1]) (yCI [1, 1, 1, 0, 1, 0] [] R) (yl5 b1 n0 n1 n2 i0 i1 i2 a1 n3 n4 n5 (i3, b6, b3, n6, n7)) w0 :=
 lrule (yl5 b1 n0 n1 n2 i0 i1 i2 a1 n3 n4 n5) (U5 I) h0 (by rintro m ⟨b0, a6, a3, a5, a4⟩ w h; exact ⟨by kernel_rfl, by kernel_rfl, fun js => Eq.mpr (by kernel_rfl) (hr m b0 a6 a3 a5 a4 w h)⟩)
abbrev yD1 (a6 : OA) (a8 a7 : Nat) (a9 : Int) (bm0 : Nat) (a3 a4 a5 : Int) (a0 : OA) (a2 a1 bm1 : Nat) (I : Nat → Int → OA → OA → Nat → Nat → World → Prop) (m : Nat) : Kh := KG (yl6 a6 a8 a7 a9 bm0 a3 a4 a5 a0 a2 a1 bm1) (U5 I) m
theorem yAC {I : Nat → Int → OA → OA → Nat → Nat → World → Prop} (m' : Nat) (h1 : m' < m) (h2 : I m' i4 q2 q3 n6 n7 w) : KS (yD1 q0 n0 n1 i0 n2 i1 i2 i3 q1 n3 n4 n5 I m) (yl6 q0 n0 n1 i0 n2 i1 i2 i3 q1 n3 n4 n5 (i4, q2, q3, n6, n7)) w := ⟨m', h1, _, rfl, rfl, h2⟩
theorem yAD (I : Nat → Int → OA → OA → Nat → Nat → World → Prop) (m0 : Nat) (h0 : I m0 i4 q2 q3 n6 n7 w0)
 (hr : ∀ m b0 a3 a0 a2 a1 w, I m b0 a3 a0 a2 a1 w →
 hpC w n5 #[.pointer a3, .slice a0 a2 a1] 61 →
 brB (decide (b0 < i0)) (
 ixA q0 n0 b0 4 fun c0 =>
 yaT w c0 fun e2 => yaQ w (Addr.add c0 1) fun e0 => yaT w (Addr.add c0 2) fun e3 => yaQ w (Addr.add c0 3) fun e1 =>
 ∀ b5, w.heap.size ≤ b5 →
 ∀ c1, Adv [] [b5] w c1 → hpC c1 n5 #[.pointer a3, .slice a0 a2 a1] 61 →
 Calls pP 97 #[(.agg (Z7 e2 e0 e3 e1))] c1 fun e c2 => ∃ d0, e = .returned (.string d0) ∧ ya2 [n5] [(n2, 46), (b5, 53)] [n2, b5] c1 c2 ∧ ∃ d8 d2 d6 d4, hpC c2 n5 #[.pointer d8, .slice d2 d6 d4] 61 ∧
 Calls pP 23 #[(.pointer (some ⟨n5, 0, none⟩)), .string d0] c2 fun e c4 => ∃ e5 e4, e = .returned (.tuple #[.int .i64 e5, e4]) ∧ ya2 [n5] [(n2, 46), (b5, 53)] [n2, b5] c2 c4 ∧ ∃ c9 c6 c8 c7, hpC c4 n5 #[.pointer c9, .slice c6 c8 c7] 61 ∧
 KS (yD1 q0 n0 n1 i0 n2 i1 i2 i3 q1 n3 n4 n5 I m) (yl6 q0 n0 n1 i0 n2 i1 i2 i3 q1 n3 n4 n5 ((iw .i64 (b0 + 1)), c9, c6, c8, c7)) c4)
 (
 Calls pP 27 #[(.pointer (some ⟨n5, 0, none⟩))] w fun e c5 => ∃ d1, e = .returned (.string d1) ∧ ya2 [n5] [(n2, 46)] [n2] w c5 ∧ ∃ d9 d3 d7 d5, hpC c5 n5 #[.pointer d9, .slice d3 d7 d5] 61 ∧
 R (.tuple #[.string d1, .int .i64 0]) c5)) :
 yaK ysF (yCH 394 [0, 0, 1, 0, 1, 1, 1, 1]) (yCI [1, 1, 1, 1, 0, 1, 0] [] R) (yl6 q0 n0 n1 i0 n2 i1 i2 i3 q1 n3 n4 n5 (i4, q2, q3, n6, n7)) w0 :=
 lrule (yl6 q0 n0 n1 i0 n2 i1 i2 i3 q1 n3 n4 n5) (U5 I) h0 (by rintro m ⟨b0, a3, a0, a2, a1⟩ w h; exact ⟨by kernel_rfl, by kernel_rfl, fun js => Eq.mpr (by kernel_rfl) (hr m b0 a3 a0 a2 a1 w h)⟩)
theorem yIY (h :
 ∀ b1, w.heap.size ≤ b1 →
 ∀ w2, Adv [] [b1] w w2 →
 Calls pP 163 #[(.agg (Z8 i0 i1 i2 q0 n0 n1))] w2 fun e w3 => ∃ x4, e = .returned (.int .i64 x4) ∧ yaE [b1] w2 w3 ∧
 brB (x4 != 0) (
 R (.tuple #[(.string (⟨#[]⟩ : BA)), .int .i64 x4]) w3)
 (
 ∀ b5, w3.heap.size ≤ b5 →
 ∀ w6, Adv [] [b5] w3 w6 →
 al w6 (.cells (Z9 i0 i1 i2 (n0 : Int)) 3) fun b7 w8 =>
 ∀ a6, Adv [] [] w8 a6 → hpC a6 b5 #[.pointer none, .slice none 0 0] 61 →
 yaK ysE (yCH 395 [0, 0, 1, 0, 1, 1, 1]) (yCI [1, 1, 1, 0, 1, 0] [] R) (yl5 (some ⟨b7, 0, none⟩) 4 4 b1 i0 i1 i2 q0 n0 n1 b5 (0, none, none, 0, 0)) a6)) :
 CR pP 162 #[(.agg (Z8 i0 i1 i2 q0 n0 n1))] w R :=
 yaA Tryz.wide_mixed (an := yuE) Tryz.func162 rfl rfl (by kernel_rfl) rfl (Eq.mpr (by kernel_rfl) h)
theorem yIZ {b0 : Nat} {o0 : BA} (hb : hpC w b0 (Z2 o0 i0 i1) 181) (h :
 brB (i1 != 0) (
 ∀ w1, Adv [] [] w w1 → hpC w1 b0 (Z2 o0 i0 i1) 181 →
 R (.string (⟨#[]⟩ : BA)) w1)
 (
 brB (!B0) (
 ∀ w2, Adv [] [] w w2 → hpC w2 b0 (Z2 o0 i0 i1) 181 →
 R (.string (⟨#[]⟩ : BA)) w2)
 (
 ∀ w3, Adv [] [] w w3 →
 Calls pP 78 (Z2 o0 i0 i2) w3 fun e w4 => ∃ s5 x6 x7, e = .returned (.tuple (Z2 s5 x6 x7)) ∧ yaE [b0] w3 w4 ∧
 ∀ w8, Adv [b0] [] w4 w8 → hpC w8 b0 (Z2 o0 x6 x7) 181 →
 R (.string s5) w8))) :
 CR pP 138 #[(.pointer (some ⟨b0, 0, none⟩)), .bool B0, .int .i64 i2] w R :=
 ycA Tryz.wide_mixed (an := []) Tryz.func138 rfl rfl (by kernel_rfl) rfl hb (Eq.mpr (by kernel_rfl) h)
theorem yI0 {b0 : Nat} (hb : hpC w b0 (Z2 s0 i0 i1) 181) (h :
 brB (i1 != 0) (
 ∀ w1, Adv [] [] w w1 → hpC w1 b0 (Z2 s0 i0 i1) 181 →
 R (.int .u64 0) w1)
 (
 ∀ w2, Adv [] [] w w2 →
 Calls pP 79 #[.string s0, .int .i64 i0] w2 fun e w3 => ∃ x4 x5 x6, e = .returned (.tuple #[.int .u64 x4, .int .i64 x5, .int .i64 x6]) ∧ yaE [b0] w2 w3 ∧
 ∀ w7, Adv [b0] [] w3 w7 → hpC w7 b0 (Z2 s0 x5 x6) 181 →
 R (.int .u64 x4) w7)) :
 CR pP 171 #[(.pointer (some ⟨b0, 0, none⟩))] w R :=
 ycA Tryz.wide_mixed (an := []) Tryz.func171 rfl rfl (by kernel_rfl) rfl hb (Eq.mpr (by kernel_rfl) h)
theorem yI1 {b0 : Nat} (hb : hpC w b0 (Z2 s0 i0 i1) 181) (h :
 brB (i1 != 0) (
 ∀ w1, Adv [] [] w w1 → hpC w1 b0 (Z2 s0 i0 i1) 181 →
 R (.int .u8 0) w1)
 (
 brB (decide (i0 < 0)) (
 ∀ w2, Adv [b0] [] w w2 → hpC w2 b0 (Z2 s0 i0 1) 181 →
 R (.int .u8 0) w2)
 (
 brB (decide (i0 > (s0.size : Int))) (
 ∀ w3, Adv [b0] [] w w3 → hpC w3 b0 (Z2 s0 i0 1) 181 →
 R (.int .u8 0) w3)
 (
 brB (i0 == (s0.size : Int)) (
 ∀ w4, Adv [b0] [] w w4 → hpC w4 b0 (Z2 s0 i0 10) 181 →
 R (.int .u8 0) w4)
 (
 ixS s0 i0 fun x5 =>
 brB (x5 != 0) (
 brB (x5 != 1) (
 brB (x5 != 3) (
 ∀ w6, Adv [b0] [] w w6 → w6.heap[b0]? = some (.cells (Z2 s0 (iw .i64 (i0 + 1)) 30) 181) →
 R (.int .u8 x5) w6)
 (
 ∀ w7, Adv [b0] [] w w7 → w7.heap[b0]? = some (.cells (Z2 s0 (iw .i64 (i0 + 1)) i1) 181) →
 R (.int .u8 x5) w7))
 (
 ∀ w8, Adv [b0] [] w w8 → w8.heap[b0]? = some (.cells (Z2 s0 (iw .i64 (i0 + 1)) i1) 181) →
 R (.int .u8 x5) w8))
 (
 ∀ w9, Adv [b0] [] w w9 → w9.heap[b0]? = some (.cells (Z2 s0 (iw .i64 (i0 + 1)) i1) 181) →
 R (.int .u8 x5) w9)))))) :
 CR pP 137 #[(.pointer (some ⟨b0, 0, none⟩))] w R :=
 ycA Tryz.wide_mixed (an := []) Tryz.func137 rfl rfl (by kernel_rfl) rfl hb (Eq.mpr (by kernel_rfl) h)
theorem yI2 {b0 : Nat} {o0 : BA} (hb : hpC w b0 (Z2 o0 i0 i1) 181) (h :
 ∀ b1, w.heap.size ≤ b1 →
 ∀ w2, Adv [] [b1] w w2 → hpC w2 b0 (Z2 o0 i0 i1) 181 →
 Calls pP 137 #[(.pointer (some ⟨b0, 0, none⟩))] w2 fun e w3 => ∃ x4, e = .returned (.int .u8 x4) ∧ ya2 [b0] [(b1, 53)] [b1] w2 w3 ∧ ∃ s5 x6 x7, hpC w3 b0 (Z2 s5 x6 x7) 181 ∧
 ∀ b8, w3.heap.size ≤ b8 →
 ∀ w9, Adv [] [b8] w3 w9 → hpC w9 b0 (Z2 s5 x6 x7) 181 →
 Calls pP 138 #[(.pointer (some ⟨b0, 0, none⟩)), (.bool ((ykS .u8 x4 1) != 0)), .int .i64 64] w9 fun e a1 => ∃ a4, e = .returned (.string a4) ∧ ya2 [b0] [(b1, 53), (b8, 53)] [b1, b8] w9 a1 ∧ ∃ a5 a8 a9, hpC a1 b0 (Z2 a5 a8 a9) 181 ∧
 ∀ a0, Adv [b8] [] a1 a0 → hpC a0 b0 (Z2 a5 a8 a9) 181 →
 Calls pP 138 #[(.pointer (some ⟨b0, 0, none⟩)), (.bool (!((ykS .u8 x4 2) != 0))), .int .i64 512] a0 fun e a2 => ∃ a6, e = .returned (.string a6) ∧ ya2 [b0] [(b1, 53), (b8, 53)] [b1, b8] a0 a2 ∧ ∃ a7 b2 b3, hpC a2 b0 (Z2 a7 b2 b3) 181 ∧
 ∀ a3, Adv [b1, b8] [] a2 a3 → hpC a3 b0 (Z2 a7 b2 b3) 181 →
 R (.agg (Z7 ((ykS .u8 x4 1) != 0) a4 ((ykS .u8 x4 2) != 0) a6)) a3) :
 CR pP 132 #[(.pointer (some ⟨b0, 0, none⟩))] w R :=
 ycA Tryz.wide_mixed (an := []) Tryz.func132 rfl rfl (by kernel_rfl) rfl hb (Eq.mpr (by kernel_rfl) h)
def ysG : LA := ⟨[0, 0, 1, 0, 1, 1, 1], [0, 2, 3, 4, 7], [(0, 0, 0), (2, 1, 0), (3, 2, 0)], 3, [0, 2]⟩
def yuF : List LA := [ysG]
abbrev yI3 := dnF pP yuF (code Tryz.f170)
abbrev yLq := yaO pP yuF (code Tryz.f170)
abbrev yI4 (p : List Nat) (K : List Kh) (R : VWP) := yaO pP yuF (code Tryz.f170) p K (ya4 pP Tryz.f170 [0] R)
def yiJ (bm0 bm1 bm2 : Nat) : Bool × Int × BA × Int × Int × Int × Int × Int × Int → List Value × List TB := fun (a7, a8, a0, a1, a2, a3, a4, a5, a6) => ([(.pointer (some ⟨bm0, 0, none⟩)), (.pointer (some ⟨bm1, 0, none⟩)), (.pointer (some ⟨bm2, 0, none⟩)), .bool a7, .int .i64 a8], [⟨bm0, 181, [.string a0, .int .i64 a1, .int .i64 a2], true⟩, ⟨bm1, 205, [.int .i64 0, .int .i64 0, .int .i64 0, .int .i64 0], false⟩, ⟨bm2, 205, [.int .i64 a3, .int .i64 a4, .int .i64 a5, .int .i64 a6], true⟩])
abbrev yuG (bm0 bm1 bm2 : Nat) (I : Nat → Bool → Int → BA → Int → Int → Int → Int → Int → Int → World → Prop) (m : Nat) : Kh := KG (yiJ bm0 bm1 bm2) (U9 I) m
theorem yj6 {I : Nat → Bool → Int → BA → Int → Int → Int → Int → Int → Int → World → Prop} (m' : Nat) (h1 : m' < m) (h2 : I m' B0 i0 s0 i1 i2 i3 i4 i5 i6 w) : KS (yuG n0 n1 n2 I m) (yiJ n0 n1 n2 (B0, i0, s0, i1, i2, i3, i4, i5, i6)) w := ⟨m', h1, _, rfl, rfl, h2⟩
theorem yAE {a8 : BA} (I : Nat → Bool → Int → BA → Int → Int → Int → Int → Int → Int → World → Prop) (m0 : Nat) (h0 : I m0 B0 i0 a8 i1 i2 i3 i4 i5 i6 w0)
 (hr : ∀ m b5 a6 a4 a5 a7 a1 a2 a3 a0 w, I m b5 a6 a4 a5 a7 a1 a2 a3 a0 w →
 hpC w n0 (Z2 a4 a5 a7) 181 →
 hpC w n2 (Z9 a1 a2 a3 a0) 205 →
 brB (decide (a6 < 4)) (
 Calls pP 171 #[(.pointer (some ⟨n0, 0, none⟩))] w fun e w3 => ∃ x4, e = .returned (.int .u64 x4) ∧ ya2 [n0, n2] [(n1, 205)] [n1] w w3 ∧ ∃ s5 x6 x7, hpC w3 n0 (Z2 s5 x6 x7) 181 ∧ ∃ x8 x9 e7 e8, hpC w3 n2 (Z9 x8 x9 e7 e8) 205 ∧
 brB b5 (0 ≤ a6 ∧ a6 < ((4 : Nat) : Int) ∧
 st w3 (Addr.add ⟨n2, 0, none⟩ (Int.toNat a6 * 1)) [(.int .i64 (iw .i64 (if 1099511627776 < x4 then 1099511627776 else x4)))] fun b6 => ya2 [n0, n2] [(n1, 205)] [n1] w3 b6 ∧ ∃ c6 c9 d0, hpC b6 n0 (Z2 c6 c9 d0) 181 ∧ ∃ d1 d2 d3 d4, hpC b6 n2 (Z9 d1 d2 d3 d4) 205 ∧
 KS (yuG n0 n1 n2 I m) (yiJ n0 n1 n2 (true, (iw .i64 (a6 + 1)), c6, c9, d0, d1, d2, d3, d4)) b6)
 (
 brB (decide (a6 < 3)) (0 ≤ a6 ∧ a6 < ((4 : Nat) : Int) ∧
 st w3 (Addr.add ⟨n2, 0, none⟩ (Int.toNat a6 * 1)) [(.int .i64 (iw .i64 (if 1099511627776 < x4 then 1099511627776 else x4)))] fun b7 => ya2 [n0, n2] [(n1, 205)] [n1] w3 b7 ∧ ∃ c7 d5 d6, hpC b7 n0 (Z2 c7 d5 d6) 181 ∧ ∃ d7 d8 d9 e0, hpC b7 n2 (Z9 d7 d8 d9 e0) 205 ∧
 KS (yuG n0 n1 n2 I m) (yiJ n0 n1 n2 ((decide (x4 > 1099511627776)), (iw .i64 (a6 + 1)), c7, d5, d6, d7, d8, d9, e0)) b7)
 (0 ≤ a6 ∧ a6 < ((4 : Nat) : Int) ∧
 st w3 (Addr.add ⟨n2, 0, none⟩ (Int.toNat a6 * 1)) [(.int .i64 (iw .i64 (if 1099511627776 < x4 then 1099511627776 else x4)))] fun b8 => ya2 [n0, n2] [(n1, 205)] [n1] w3 b8 ∧ ∃ c8 e1 e2, hpC b8 n0 (Z2 c8 e1 e2) 181 ∧ ∃ e3 e4 e5 e6, hpC b8 n2 (Z9 e3 e4 e5 e6) 205 ∧
 KS (yuG n0 n1 n2 I m) (yiJ n0 n1 n2 (false, (iw .i64 (a6 + 1)), c8, e1, e2, e3, e4, e5, e6)) b8)))
 (
 brB (a7 != 0) (
 ∀ b9, Adv [n1] [] w b9 → hpC b9 n0 (Z2 a4 a5 a7) 181 →
 hpC b9 n2 (Z9 a1 a2 a3 a0) 205 →
 R (.agg (Z9 a1 a2 a3 a0)) b9)
 (
 brB b5 (
 ∀ c0, Adv [n1, n0] [] w c0 → hpC c0 n0 (Z2 a4 a5 1) 181 →
 hpC c0 n2 (Z9 a1 a2 a3 a0) 205 →
 R (.agg (Z9 a1 a2 a3 a0)) c0)
 (
 brB (a0 == 0) (
 ∀ c1, Adv [n1, n0] [] w c1 → hpC c1 n0 (Z2 a4 a5 30) 181 →
 hpC c1 n2 (Z9 a1 a2 a3 a0) 205 →
 R (.agg (Z9 a1 a2 a3 a0)) c1)
 (
 brB (decide (a0 > 16)) (
 ∀ c2, Adv [n1, n0] [] w c2 → hpC c2 n0 (Z2 a4 a5 2) 181 →
 hpC c2 n2 (Z9 a1 a2 a3 a0) 205 →
 R (.agg (Z9 a1 a2 a3 a0)) c2)
 (
 ∀ c3, Adv [n1] [] w c3 → hpC c3 n0 (Z2 a4 a5 a7) 181 →
 hpC c3 n2 (Z9 a1 a2 a3 a0) 205 →
 R (.agg (Z9 a1 a2 a3 a0)) c3)))))) :
 yaK ysG (yI3 395 [0, 0, 1, 0, 1, 1, 1]) (yI4 [1, 1, 1, 0, 1, 0] [] R) (yiJ n0 n1 n2 (B0, i0, a8, i1, i2, i3, i4, i5, i6)) w0 :=
 lrule (yiJ n0 n1 n2) (U9 I) h0 (by rintro m ⟨b5, a6, a4, a5, a7, a1, a2, a3, a0⟩ w h; exact ⟨by kernel_rfl, by kernel_rfl, fun js => Eq.mpr (by kernel_rfl) (hr m b5 a6 a4 a5 a7 a1 a2 a3 a0 w h)⟩)
theorem yI5 {b0 : Nat} (hb : hpC w b0 (Z2 s0 i0 i1) 181) (h :
 ∀ b1, w.heap.size ≤ b1 →
 ∀ b2, w.heap.size ≤ b2 →
 ∀ a0, Adv [] [b2, b1] w a0 → hpC a0 b0 (Z2 s0 i0 i1) 181 →
 hpC a0 b2 (Z9 0 0 0 0) 205 →
 yaK ysG (yI3 395 [0, 0, 1, 0, 1, 1, 1]) (yI4 [1, 1, 1, 0, 1, 0] [] R) (yiJ b0 b1 b2 (false, 0, s0, i0, i1, 0, 0, 0, 0)) a0) :
 CR pP 170 #[(.pointer (some ⟨b0, 0, none⟩))] w R :=
 ycA Tryz.wide_mixed (an := yuF) Tryz.func170 rfl rfl (by kernel_rfl) rfl hb (Eq.mpr (by kernel_rfl) h)
def ysH : LA := ⟨[0, 0, 1, 0, 1, 1, 1, 1], [4, 7, 8, 9, 10], [(4, 0, 0), (7, 1, 0), (8, 2, 0), (9, 3, 0)], 4, [1]⟩
def yuH : List LA := [ysH]
abbrev yI6 := dnF pP yuH (code Tryz.f169)
abbrev yLr := yaO pP yuH (code Tryz.f169)
abbrev yI7 (p : List Nat) (K : List Kh) (R : VWP) := yaO pP yuH (code Tryz.f169) p K (ya4 pP Tryz.f169 [] R)
def yl7 (bm0 bm1 bm2 : Nat) (a6 a7 a8 a9 : Int) (bm3 : Nat) (b0 b1 b2 : Int) : Int × BA × Int × Int × (OA) × Nat × Nat → List Value × List TB := fun (b3, a3, a4, a5, a0, a2, a1) => ([(.pointer (some ⟨bm0, 0, none⟩)), (.pointer (some ⟨bm1, 0, none⟩)), (.pointer (some ⟨bm2, 0, none⟩)), (.pointer (some ⟨bm3, 0, none⟩)), .int .i64 b3], [⟨bm0, 46, [.int .i64 0, .int .i64 0, .int .i64 0, .slice none 0 0], false⟩, ⟨bm1, 181, [.string a3, .int .i64 a4, .int .i64 a5], true⟩, ⟨bm2, 205, [.int .i64 a6, .int .i64 a7, .int .i64 a8, .int .i64 a9], false⟩, ⟨bm3, 46, [.int .i64 b0, .int .i64 b1, .int .i64 b2, .slice a0 a2 a1], false⟩])
abbrev yD2 (bm0 bm1 bm2 : Nat) (a0 a1 a2 a3 : Int) (bm3 : Nat) (a4 a5 a6 : Int) (I : Nat → Int → BA → Int → Int → OA → Nat → Nat → World → Prop) (m : Nat) : Kh := KG (yl7 bm0 bm1 bm2 a0 a1 a2 a3 bm3 a4 a5 a6) (U7 I) m
theorem yAF {I : Nat → Int → BA → Int → Int → OA → Nat → Nat → World → Prop} (m' : Nat) (h1 : m' < m) (h2 : I m' i7 s0 i8 i9 q0 n4 n5 w) : KS (yD2 n0 n1 n2 i0 i1 i2 i3 n3 i4 i5 i6 I m) (yl7 n0 n1 n2 i0 i1 i2 i3 n3 i4 i5 i6 (i7, s0, i8, i9, q0, n4, n5)) w := ⟨m', h1, _, rfl, rfl, h2⟩
theorem yAG (I : Nat → Int → BA → Int → Int → OA → Nat → Nat → World → Prop) (m0 : Nat) (h0 : I m0 i7 s0 i8 i9 q0 n4 n5 w0)
 (hr : ∀ m b3 a2 a1 a0 a3 a5 a4 w, I m b3 a2 a1 a0 a3 a5 a4 w →
 hpC w n1 (Z2 a2 a1 a0) 181 →
 brB (a0 == 0) (
 brB (decide (b3 < i3)) (
 ∀ c0, Adv [] [] w c0 → hpC c0 n1 (Z2 a2 a1 a0) 181 →
 Calls pP 132 #[(.pointer (some ⟨n1, 0, none⟩))] c0 fun e c3 => ∃ d3 d1 d4 d2, e = .returned (.agg (Z7 d3 d1 d4 d2)) ∧ ya2 [n1] [(n0, 46), (n2, 205), (n3, 46)] [n0, n2, n3] c0 c3 ∧ ∃ c2 c9 d0, hpC c3 n1 (Z2 c2 c9 d0) 181 ∧ (((.slice a3 a5 a4) : Value) = (.slice a3 a5 a4)) ∧
 al c3 (.cells (Z7 d3 d1 d4 d2) 53) fun d8 d5 =>
 yc6 pP (Builtin.append_ #[44, 44] 44 #[.slice a3 a5 a4, (.slice (some ⟨d8, 0, none⟩) 1 1)]) d5 fun d7 e0 d9 d6 => yaE [n0, n1, n2, n3] d5 d6 ∧
 ∀ c4, Adv [n3] [] d6 c4 → hpC c4 n1 (Z2 c2 c9 d0) 181 →
 KS (yD2 n0 n1 n2 i0 i1 i2 i3 n3 i4 i5 i6 I m) (yl7 n0 n1 n2 i0 i1 i2 i3 n3 i4 i5 i6 ((iw .i64 (b3 + 1)), c2, c9, d0, d7, e0, d9)) c4)
 (
 brB (a0 != 0) ((((.int .i64 a0) : Value) = (.int .i64 a0)) ∧
 ∀ c5, Adv [n0] [] w c5 → hpC c5 n1 (Z2 a2 a1 a0) 181 →
 R (.tuple #[(.agg (Z8 0 0 0 none 0 0)), .int .i64 0, .int .i64 a0]) c5)
 ((((.int .i64 a1) : Value) = (.int .i64 a1)) ∧
 ∀ c6, Adv [n0] [] w c6 → hpC c6 n1 (Z2 a2 a1 a0) 181 →
 R (.tuple #[(.agg (Z8 i4 i5 i6 a3 a5 a4)), .int .i64 a1, .int .i64 0]) c6)))
 (
 brB (a0 != 0) ((((.int .i64 a0) : Value) = (.int .i64 a0)) ∧
 ∀ c7, Adv [n0] [] w c7 → hpC c7 n1 (Z2 a2 a1 a0) 181 →
 R (.tuple #[(.agg (Z8 0 0 0 none 0 0)), .int .i64 0, .int .i64 a0]) c7)
 ((((.int .i64 a1) : Value) = (.int .i64 a1)) ∧
 ∀ c8, Adv [n0] [] w c8 → hpC c8 n1 (Z2 a2 a1 a0) 181 →
 R (.tuple #[(.agg (Z8 i4 i5 i6 a3 a5 a4)), .int .i64 a1, .int .i64 0]) c8))) :
 yaK ysH (yI6 394 [0, 0, 1, 0, 1, 1, 1, 1]) (yI7 [1, 1, 1, 1, 0, 1, 0] [] R) (yl7 n0 n1 n2 i0 i1 i2 i3 n3 i4 i5 i6 (i7, s0, i8, i9, q0, n4, n5)) w0 :=
 lrule (yl7 n0 n1 n2 i0 i1 i2 i3 n3 i4 i5 i6) (U7 I) h0 (by rintro m ⟨b3, a2, a1, a0, a3, a5, a4⟩ w h; exact ⟨by kernel_rfl, by kernel_rfl, fun js => Eq.mpr (by kernel_rfl) (hr m b3 a2 a1 a0 a3 a5 a4 w h)⟩)
theorem yI8 {a1 : BA} (h :
 ∀ b1, w.heap.size ≤ b1 →
 ∀ b2, w.heap.size ≤ b2 →
 ∀ w3, Adv [] [b2, b1] w w3 → hpC w3 b2 (Z2 a1 i0 0) 181 →
 Calls pP 170 #[(.pointer (some ⟨b2, 0, none⟩))] w3 fun e w4 => ∃ x5 x6 x7 x8, e = .returned (.agg (Z9 x5 x6 x7 x8)) ∧ ya2 [b2] [(b1, 46)] [b1] w3 w4 ∧ ∃ s9 a5 a6, hpC w4 b2 (Z2 s9 a5 a6) 181 ∧
 ∀ a2, w4.heap.size ≤ a2 →
 ∀ a3, w4.heap.size ≤ a3 →
 ∀ a4, Adv [] [a3, a2] w4 a4 → hpC a4 b2 (Z2 s9 a5 a6) 181 →
 yaK ysH (yI6 394 [0, 0, 1, 0, 1, 1, 1, 1]) (yI7 [1, 1, 1, 1, 0, 1, 0] [] R) (yl7 b1 b2 a2 x5 x6 x7 x8 a3 x5 x6 x7 (0, s9, a5, a6, none, 0, 0)) a4) :
 CR pP 169 #[.string a1, .int .i64 i0] w R :=
 yaA Tryz.wide_mixed (an := yuH) Tryz.func169 rfl rfl (by kernel_rfl) rfl (Eq.mpr (by kernel_rfl) h)
theorem yI9 {a3 : BA} (h :
 ∀ b1, w.heap.size ≤ b1 →
 ∀ b2, w.heap.size ≤ b2 →
 ∀ w3, Adv [] [b2, b1] w w3 → hpC w3 b2 (Z2 a3 i0 0) 181 →
 Calls pP 132 #[(.pointer (some ⟨b2, 0, none⟩))] w3 fun e w4 => ∃ t5 s6 t7 s8, e = .returned (.agg (Z7 t5 s6 t7 s8)) ∧ ya2 [b2] [(b1, 53)] [b1] w3 w4 ∧ ∃ s9 a1 a0, hpC w4 b2 (Z2 s9 a1 a0) 181 ∧
 ∀ a4, w4.heap.size ≤ a4 →
 brB (a0 != 0) ((((.int .i64 a0) : Value) = (.int .i64 a0)) ∧
 ∀ a5, Adv [b1] [a4] w4 a5 → hpC a5 b2 (Z2 s9 a1 a0) 181 →
 R (.tuple #[(.agg (Z7 false ByteArray.empty false ByteArray.empty)), .int .i64 0, .int .i64 a0]) a5)
 ((((.int .i64 a1) : Value) = (.int .i64 a1)) ∧
 ∀ a6, Adv [b1] [a4] w4 a6 → hpC a6 b2 (Z2 s9 a1 a0) 181 →
 R (.tuple #[(.agg (Z7 t5 s6 t7 s8)), .int .i64 a1, .int .i64 0]) a6)) :
 CR pP 113 #[.string a3, .int .i64 i0] w R :=
 yaA Tryz.wide_mixed (an := []) Tryz.func113 rfl rfl (by kernel_rfl) rfl (Eq.mpr (by kernel_rfl) h)
end
def ycH (b : PBatch) : List Nat := [b.prod.toNat, b.epoch.toNat, b.seq.toNat, b.recs.length]
def ydH (b : PBatch) : List UInt8 := (ycH b).flatMap yaJ ++ b.recs.flatMap yf7
structure BatGood (b : PBatch) : Prop where
 hd : 0 ≤ b.prod ∧ b.prod ≤ 1099511627776 ∧ 0 ≤ b.epoch ∧ b.epoch ≤ 1099511627776 ∧ 0 ≤ b.seq ∧ b.seq ≤ 1099511627776
 r : ∀ x ∈ b.recs, yfQ x = 0
 lr : 1 ≤ b.recs.length ∧ b.recs.length ≤ 16
theorem BatGood.of {b : PBatch} (h : ybD b = 0) : BatGood b := by
 unfold ybD at h
 split at h
 ·omega
 rename_i h1
 split at h
 ·omega
 split at h
 ·omega
 rename_i h2 h3
 have h1 := Bool.not_eq_false _ ▸ h1
 simp only [Bool.and_eq_true] at h1
 have nb : ∀ {x : Int}, num x = true → 0 ≤ x ∧ x ≤ 1099511627776 := fun h => by simpa [num] using h
 have a1 := nb h1.1.1
 have a2 := nb h1.1.2
 have a3 := nb h1.2
 refine ⟨by omega, fun x hx => ?_, by omega⟩
 split at h
 ·rename_i hn
  have := List.find?_eq_none.1 hn x hx
  simpa using this
 ·rename_i r hr
  have := List.find?_some hr
  simp [h] at this
theorem BatGood.le {b : PBatch} (h : BatGood b) : ∀ x ∈ ycH b, x ≤ 1099511627776 := by
 intro x hx
 have := h.hd
 have := h.lr
 simp [ycH] at hx
 omega
theorem BatGood.len1 {b : PBatch} (h : BatGood b) (k : Nat) : (((ycH b).take k).flatMap yaJ).length ≤ 40 := by
 have := ydF (f := yaJ) (c := 10) (l := (ycH b).take k) fun x hx => (yaL x (by have := h.le x (List.mem_of_mem_take hx); omega)).2
 have e : ((ycH b).take k).length ≤ 4 := by rw [List.length_take]; simp [ycH]; omega
 omega
theorem BatGood.len2 {b : PBatch} (h : BatGood b) (k : Nat) : ((b.recs.take k).flatMap yf7).length ≤ 9600 := by
 have := ydF (f := yf7) (c := 600) (l := b.recs.take k) fun x hx => yg3 (h.r x (List.mem_of_mem_take hx))
 have e : (b.recs.take k).length ≤ 16 := by rw [List.length_take]; have := h.lr; omega
 omega
theorem BatGood.len {b : PBatch} (h : BatGood b) : (ydH b).length ≤ 10000 ∧ 1 ≤ (ydH b).length := by
 have h1 := h.len1 4
 have h2 := h.len2 b.recs.length
 have e : (ycH b).take 4 = ycH b := List.take_of_length_le (by simp [ycH])
 rw [e] at h1
 rw [List.take_length] at h2
 have h3 := (yaL b.recs.length (by have := h.lr; omega)).1
 have h4 : (yaJ b.recs.length).length ≤ ((ycH b).flatMap yaJ).length := by simp [ycH]; omega
 unfold ydH; rw [List.length_append]; omega
theorem yCJ {w : World} {b : PBatch} {rs : Sl} (h : yb3 w 4 ye7 rs.a rs.n b.recs) (hl : b.recs.length ≤ 1000000) :
  Calls pP 162 #[b.v rs] w fun e w' => e = .returned (.tuple #[.string (if ybD b = 0 then bs (ydH b) else bs []), .int .i64 (ybD b)]) ∧ Mod [] w w' := by
 refine yaP (yIY ?_)
 intro b1 f1 w1 A1
 have l1 := A1.lt b1 (by simp)
 refine (yp8 (b := b) (rs := rs) (h.keep0 A1.mod) hl).mono ?_
 rintro e w2 ⟨rfl, M2⟩
 refine ⟨_, rfl, yaE.of0 M2, ?_⟩
 have N2 := A1.mod.go0 M2 (by simp)
 have s2 := N2.size
 have s2' := M2.size
 refine yaB (fun g1 => ?_) fun g1 => ?_
 ·have g : ¬ ybD b = 0 := by simpa using g1
  rw [if_neg g]; exact ⟨rfl, N2⟩
 have g : ybD b = 0 := by simpa using g1
 have G := BatGood.of g
 have hhd := G.hd
 have hlr := G.lr
 intro b3 f3 w3 A3
 have l3 := A3.lt b3 (by simp)
 refine ydB fun b4 w4 c4 M4 f4 => ?_
 intro w5 A5 hb5
 have s3 := A3.mod.size
 have s4 := M4.size
 have s5 := A5.mod.size
 have M5 := (A3.mod.go0 M4 (by simp)).go0 A5.mod (by simp)
 have c5 := A5.mod.keep0 c4
 have hbd : Sb w2.heap.size b3 [] w5 := Sb.fresh f3 hb5
 have hne : b4 ≠ b3 := by omega
 have Wr0 : Wr w2.heap.size b3 w2 w5 := Wr.of0 M5 (Nat.le_refl _)
 have mod0 : ∀ {w'}, Wr w2.heap.size b3 w5 w' → Mod [] w w' := fun W => (Wr0.trans W).mod N2 s2
 have hcell : ∀ {w' : World}, Wr w2.heap.size b3 w5 w' → yb3 w' 1 yGv (some ⟨b4, 0, none⟩) 4 (ycH b) := fun {w'} W => by
  have c6 := W.keep c5 hne (by decide)
  refine ⟨rfl, fun i x hx => ⟨_, rfl, fun j v hv => ?_⟩⟩
  have hj : j = 0 := by have := (List.getElem?_eq_some_iff.1 hv).1; simp [yGv] at this; omega
  subst hj
  rw [ya3, ya3, yaZ c6]
  simp [yGv] at hv
  subst hv
  have hi := (List.getElem?_eq_some_iff.1 hx).1
  simp [ycH] at hi
  have e4 := h.1
  match i, hi, hx with
  | 0, _, hx => simp [ycH] at hx; subst hx; simp; omega
  | 1, _, hx => simp [ycH] at hx; subst hx; simp; omega
  | 2, _, hx => simp [ycH] at hx; subst hx; simp; omega
  | 3, _, hx => simp [ycH] at hx; subst hx; simp; omega
 refine yAB (fun mm x p0 a0 n0 c0 w' => ∃ k : Nat, x = k ∧ k ≤ 4 ∧ Sb w2.heap.size b3 (((ycH b).take k).flatMap yaJ) w' ∧ Wr w2.heap.size b3 w5 w' ∧ mm = 4 - k) 4 ⟨0, rfl, by omega, by simpa using hbd, Wr.of0 (Mod.refl _) (by omega), rfl⟩ ?_
 rintro mm x p0 a0 n0 c0 w6 ⟨k, rfl, hk, hB6, W6, rfl⟩ hc6
 have s6 := W6.bel.size
 refine yaC (fun hlt => ?_) fun hge => ?_
 ·obtain ⟨x, hx⟩ : ∃ x, (ycH b)[k]? = some x := ⟨_, List.getElem?_eq_getElem (by simp [ycH]; omega)⟩
  have hx2 := G.le x (List.mem_of_getElem? hx)
  refine (hcell W6).ix hx fun q hq => yaF (x := (x : Nat)) (by simpa [add_zero] using hq 0 _ rfl) ?_
  rw [yd8 (by omega)]
  refine (yjV x (by omega) w6).mono ?_
  rintro e w7 ⟨rfl, M7⟩
  have hB7 := hB6.keep0 M7
  have s7 := M7.size
  obtain ⟨p7, a7, n7, c7, hc7⟩ := Sb.cells hB7
  refine ⟨_, rfl, yaE.of0 M7, p7, a7, n7, c7, hc7, ?_⟩
  refine (yAz (l2 := yaJ x) hB7 (by have := G.len1 k; have := yaL x (by omega); omega) (by omega)).mono ?_
  rintro e w8 ⟨rfl, hB8, W8⟩
  obtain ⟨p8, a8, n8, c8, hc8⟩ := Sb.cells hB8
  refine ⟨_, _, rfl, W8.keepE fun k hk he => ?_, p8, a8, n8, c8, hc8, ?_⟩
  ·simp at hk he; omega
  refine yAA (4 - (k + 1)) (by omega) ⟨k + 1, by rw [yaH (by omega) (by omega)]; omega, by omega, ?_, (W6.trans (Wr.of0 M7 (by omega))).trans W8, rfl⟩
  rw [ybB hx]
  exact hB8
 have hk4 : k = 4 := by omega
 subst hk4
 have e1 : (ycH b).take 4 = ycH b := List.take_of_length_le (by simp [ycH])
 have len1 := G.len1 4
 rw [e1] at hB6 len1
 have e4 := h.1
 refine yAD (fun mm x p0 a0 n0 c0 w' => ∃ k : Nat, x = k ∧ k ≤ b.recs.length ∧ Sb w2.heap.size b3 ((ycH b).flatMap yaJ ++ (b.recs.take k).flatMap yf7) w' ∧ Wr w2.heap.size b3 w5 w' ∧ mm = b.recs.length - k) b.recs.length ⟨0, rfl, by omega, by simpa using hB6, W6, rfl⟩ ?_
 clear hB6 W6 hc6 s6
 rintro mm x p0 a0 n0 c0 w6 ⟨k, rfl, hk, hB6, W6, rfl⟩ hc6
 have s6 := W6.bel.size
 have len2 := G.len2 k
 refine yaC (fun hlt => ?_) fun hge => ?_
 ·obtain ⟨x, hx⟩ : ∃ x, b.recs[k]? = some x := ⟨_, List.getElem?_eq_getElem (by omega)⟩
  have hx2 := G.r x (List.mem_of_getElem? hx)
  refine (h.keep0 (mod0 W6)).ix hx fun q hq => yaN (by simpa [add_zero] using hq 0 _ rfl) (yaG (hq 1 _ rfl) (yaN (hq 2 _ rfl) (yaG (hq 3 _ rfl) ?_)))
  intro b7 f7 w7 A7 hb7
  have s7 := A7.mod.size
  refine (yzC x hx2 w7).mono ?_
  rintro e w8 ⟨rfl, M8⟩
  have hB8 := (hB6.keep0 A7.mod).keep0 M8
  have s8 := M8.size
  obtain ⟨p8, a8, n8, c8, hc8⟩ := Sb.cells hB8
  refine ⟨_, rfl, yaE.of0 M8, p8, a8, n8, c8, hc8, ?_⟩
  refine (yAz (l2 := yf7 x) hB8 (by rw [List.length_append]; have := yg3 hx2; omega) (by omega)).mono ?_
  rintro e w9 ⟨rfl, hB9, W9⟩
  obtain ⟨p9, a9, n9, c9, hc9⟩ := Sb.cells hB9
  refine ⟨_, _, rfl, W9.keepE fun k hk he => ?_, p9, a9, n9, c9, hc9, ?_⟩
  ·simp at hk he
   rcases hk with rfl | rfl
   ·omega
   ·exact ⟨he, .inr ⟨_, by simp; exact .inr rfl, by decide⟩⟩
  refine yAC (b.recs.length - (k + 1)) (by omega) ⟨k + 1, by rw [yaH (by omega) (by omega)]; omega, by omega, ?_, (W6.trans ((Wr.of0 A7.mod (by omega)).trans (Wr.of0 M8 (by omega)))).trans W9, rfl⟩
  rw [ybB hx, ← List.append_assoc]
  exact hB9
 ·have hk : k = b.recs.length := by omega
  subst hk
  rw [List.take_length] at hB6
  have hlen := G.len
  refine (yFg (l := ydH b) hB6 (by intro h; rw [h] at hlen; simp at hlen)).mono ?_
  rintro e w7 ⟨rfl, hB7, W7⟩
  obtain ⟨p7, a7, n7, c7, hc7⟩ := Sb.cells hB7
  refine ⟨_, rfl, W7.keepE fun k hk he => ?_, p7, a7, n7, c7, hc7, ?_, mod0 (W6.trans W7)⟩
  ·simp at hk he; omega
  rw [if_pos g, g]
section
variable {R : VWP} {w w0 : World} {m : Nat} {i0 i1 i2 i3 i4 i5 i6 i7 i8 i9 j0 j1 j2 j3 j4 j5 j6 j7 j8 j9 k0 k1 k2 k3 k4 k5 k6 k7 k8 k9 l0 l1 l2 l3 l4 l5 l6 l7 l8 l9 : Int} {s0 s1 s2 s3 s4 s5 s6 s7 s8 s9 t0 t1 t2 t3 t4 t5 t6 t7 t8 t9 : BA} {n0 n1 n2 n3 n4 n5 n6 n7 n8 n9 o0 o1 o2 o3 o4 o5 o6 o7 o8 o9 p0 p1 p2 p3 p4 p5 p6 p7 p8 p9 : Nat} {q0 q1 q2 q3 q4 q5 q6 q7 q8 q9 r0 r1 r2 r3 r4 r5 r6 r7 r8 r9 : OA} {B0 B1 B2 B3 B4 B5 B6 B7 B8 B9 : Bool} {M0 M1 M2 M3 : Option Nat} {V0 V1 V2 V3 V4 V5 : Value} {A0 A1 A2 : Addr}
theorem yJa (h :
 ∀ b1, w.heap.size ≤ b1 →
 ∀ w2, Adv [] [b1] w w2 →
 yaT w2 A1 fun t3 =>
 brB t3 (
 ∀ w4, Adv [b1] [] w2 w4 → hpC w4 b1 #[.int .i64 1] 3 →
 Calls pP 58 #[(.pointer (some A0)), (.pointer (some ⟨b1, 0, none⟩))] w4 fun e w5 => e = .returned (.tuple #[]) ∧ ∃ x6, hpC w5 b1 #[.int .i64 x6] 3 ∧
 R (.tuple #[]) w5)
 (
 ∀ w7, Adv [] [] w2 w7 → hpC w7 b1 #[.int .i64 0] 3 →
 Calls pP 58 #[(.pointer (some A0)), (.pointer (some ⟨b1, 0, none⟩))] w7 fun e w8 => e = .returned (.tuple #[]) ∧ ∃ x9, hpC w8 b1 #[.int .i64 x9] 3 ∧
 R (.tuple #[]) w8)) :
 CR pP 159 #[(.pointer (some A0)), (.pointer (some A1))] w R :=
 yaA Tryz.wide_mixed (an := []) Tryz.func159 rfl rfl (by kernel_rfl) rfl (Eq.mpr (by kernel_rfl) h)
theorem yJb (h :
 yaI .i64 w A1 fun x1 => yaI .i64 w (Addr.add A1 1) fun x2 => yaI .i64 w (Addr.add A1 2) fun x3 => yaU w (Addr.add A1 3) fun a4 n5 c6 =>
 Calls pP 162 #[(.agg (Z8 x1 x2 x3 a4 n5 c6))] w fun e w7 => ∃ s8 x9, e = .returned (.tuple #[.string s8, .int .i64 x9]) ∧
 Calls pP 23 #[(.pointer (some A0)), .string s8] w7 fun e a3 => ∃ a5 a2, e = .returned (.tuple #[.int .i64 a5, a2]) ∧
 R (.tuple #[]) a3) :
 CR pP 158 #[(.pointer (some A0)), (.pointer (some A1))] w R :=
 yaA Tryz.wide_mixed (an := []) Tryz.func158 rfl rfl (by kernel_rfl) rfl (Eq.mpr (by kernel_rfl) h)
def ysI : LA := ⟨[0, 0, 1, 1, 1], [0, 15, 16, 17], [], 1, [0]⟩
def yuI : List LA := [ysI]
abbrev yJc := dnF pP yuI (code Tryz.f161)
abbrev yLs := yaO pP yuI (code Tryz.f161)
abbrev yJd (p : List Nat) (K : List Kh) (R : VWP) := yaO pP yuI (code Tryz.f161) p K (ya4 pP Tryz.f161 [] R)
def yl8 (a6 : Addr) (a1 : OA) (a3 a2 : Nat) (a4 : Int) (bm0 : Nat) : Int × Int → List Value × List TB := fun (a5, a0) => ([(.pointer (some a6)), .slice a1 a3 a2, .int .i64 a4, .int .i64 a5], [⟨bm0, 3, [.int .i64 a0], true⟩])
abbrev yD3 (a4 : Addr) (a0 : OA) (a2 a1 : Nat) (a3 : Int) (bm0 : Nat) (I : Nat → Int → Int → World → Prop) (m : Nat) : Kh := KG (yl8 a4 a0 a2 a1 a3 bm0) (U2 I) m
theorem yAH {I : Nat → Int → Int → World → Prop} (m' : Nat) (h1 : m' < m) (h2 : I m' i1 i2 w) : KS (yD3 A0 q0 n0 n1 i0 n2 I m) (yl8 A0 q0 n0 n1 i0 n2 (i1, i2)) w := ⟨m', h1, _, rfl, rfl, h2⟩
theorem yAI (I : Nat → Int → Int → World → Prop) (m0 : Nat) (h0 : I m0 i1 i2 w0)
 (hr : ∀ m a1 a0 w, I m a1 a0 w →
 hpC w n2 #[.int .i64 a0] 3 →
 brB (decide (a1 < i0)) (
 ixA q0 n0 a1 1 fun b3 =>
 yaQ w b3 fun b4 =>
 ∀ a7, w.heap.size ≤ a7 →
 ∀ a9, Adv [] [a7] w a9 → hpC a9 n2 #[.int .i64 a0] 3 →
 hpC a9 a7 #[.string b4] 9 →
 Calls pP 160 #[(.pointer (some A0)), (.pointer (some ⟨a7, 0, none⟩))] a9 fun e b1 => e = .returned (.tuple #[]) ∧ ∃ b2, hpC b1 n2 #[.int .i64 b2] 3 ∧ ∃ b5, hpC b1 a7 #[.string b5] 9 ∧
 KS (yD3 A0 q0 n0 n1 i0 n2 I m) (yl8 A0 q0 n0 n1 i0 n2 ((iw .i64 (a1 + 1)), b2)) b1)
 (
 R (.tuple #[]) w)) :
 yaK ysI (yJc 396 [0, 0, 1, 1, 1]) (yJd [1, 1, 1, 0] [] R) (yl8 A0 q0 n0 n1 i0 n2 (i1, i2)) w0 :=
 lrule (yl8 A0 q0 n0 n1 i0 n2) (U2 I) h0 (by rintro m ⟨a1, a0⟩ w h; exact ⟨by kernel_rfl, by kernel_rfl, fun js => Eq.mpr (by kernel_rfl) (hr m a1 a0 w h)⟩)
theorem yJe (h :
 yaU w A1 fun a1 n2 c3 =>
 ∀ b4, w.heap.size ≤ b4 →
 ∀ w5, Adv [] [b4] w w5 → hpC w5 b4 #[(.int .i64 (n2 : Int))] 3 →
 Calls pP 58 #[(.pointer (some A0)), (.pointer (some ⟨b4, 0, none⟩))] w5 fun e w6 => e = .returned (.tuple #[]) ∧ ∃ x7, hpC w6 b4 #[.int .i64 x7] 3 ∧
 yaU w6 A1 fun a8 n9 a3 =>
 yaK ysI (yJc 396 [0, 0, 1, 1, 1]) (yJd [1, 1, 1, 0] [] R) (yl8 A0 a8 n9 a3 (n9 : Int) b4 (0, x7)) w6) :
 CR pP 161 #[(.pointer (some A0)), (.pointer (some A1))] w R :=
 yaA Tryz.wide_mixed (an := yuI) Tryz.func161 rfl rfl (by kernel_rfl) rfl (Eq.mpr (by kernel_rfl) h)
theorem yJf (h :
 ∀ w1, Adv [] [] w w1 →
 Calls pP 160 #[(.pointer (some A1)), (.pointer (some A0))] w1 fun e w2 => e = .returned (.tuple #[]) ∧
 ∀ w3, Adv [] [] w2 w3 →
 Calls pP 58 #[(.pointer (some A1)), (.pointer (some (Addr.add A0 1)))] w3 fun e w4 => e = .returned (.tuple #[]) ∧
 R (.tuple #[]) w4) :
 CR pP 60 #[(.iface 101 (.pointer (some A1))), (.pointer (some A0))] w R :=
 yaA Tryz.wide_mixed (an := []) Tryz.func60 rfl rfl (by kernel_rfl) rfl (Eq.mpr (by kernel_rfl) h)
theorem yJg (h :
 ∀ w1, Adv [] [] w w1 →
 Calls pP 160 #[(.pointer (some A1)), (.pointer (some (Addr.add A0 9)))] w1 fun e w2 => e = .returned (.tuple #[]) ∧
 ∀ w3, Adv [] [] w2 w3 →
 Calls pP 160 #[(.pointer (some A1)), (.pointer (some (Addr.add A0 10)))] w3 fun e w4 => e = .returned (.tuple #[]) ∧
 R (.tuple #[]) w4) :
 CR pP 118 #[(.iface 101 (.pointer (some A1))), (.pointer (some A0))] w R :=
 yaA Tryz.wide_mixed (an := []) Tryz.func118 rfl rfl (by kernel_rfl) rfl (Eq.mpr (by kernel_rfl) h)
theorem yJh (h :
 yaI .i64 w A0 fun x1 =>
 brB (x1 == 0) (
 ∀ w2, Adv [] [] w w2 →
 Calls pP 160 #[(.pointer (some A1)), (.pointer (some (Addr.add A0 1)))] w2 fun e w3 => e = .returned (.tuple #[]) ∧
 ∀ w4, Adv [] [] w3 w4 →
 Calls pP 58 #[(.pointer (some A1)), (.pointer (some (Addr.add A0 3)))] w4 fun e w5 => e = .returned (.tuple #[]) ∧
 R (.tuple #[]) w5)
 (
 brB (x1 == 1) (
 brB (x1 == 1) (
 ∀ w6, Adv [] [] w w6 →
 Calls pP 58 #[(.pointer (some A1)), (.pointer (some (Addr.add A0 3)))] w6 fun e w7 => e = .returned (.tuple #[]) ∧
 R (.tuple #[]) w7)
 (
 brB (x1 == 2) (
 Calls pP 60 #[(.iface 101 (.pointer (some A1))), (.pointer (some (Addr.add A0 1)))] w fun e w8 => e = .returned (.tuple #[]) ∧
 ∀ w9, Adv [] [] w8 w9 →
 Calls pP 158 #[(.pointer (some A1)), (.pointer (some (Addr.add A0 5)))] w9 fun e f3 => e = .returned (.tuple #[]) ∧
 R (.tuple #[]) f3)
 (
 brB (x1 == 3) (
 Calls pP 60 #[(.iface 101 (.pointer (some A1))), (.pointer (some (Addr.add A0 1)))] w fun e f4 => e = .returned (.tuple #[]) ∧
 ∀ a9, Adv [] [] f4 a9 →
 Calls pP 58 #[(.pointer (some A1)), (.pointer (some (Addr.add A0 4)))] a9 fun e f5 => e = .returned (.tuple #[]) ∧
 ∀ b0, Adv [] [] f5 b0 →
 Calls pP 58 #[(.pointer (some A1)), (.pointer (some (Addr.add A0 3)))] b0 fun e f6 => e = .returned (.tuple #[]) ∧
 R (.tuple #[]) f6)
 (
 brB (x1 == 4) (
 Calls pP 60 #[(.iface 101 (.pointer (some A1))), (.pointer (some (Addr.add A0 1)))] w fun e f7 => e = .returned (.tuple #[]) ∧
 ∀ b1, Adv [] [] f7 b1 →
 Calls pP 58 #[(.pointer (some A1)), (.pointer (some (Addr.add A0 4)))] b1 fun e f8 => e = .returned (.tuple #[]) ∧
 R (.tuple #[]) f8)
 (
 brB (x1 == 5) (
 Calls pP 60 #[(.iface 101 (.pointer (some A1))), (.pointer (some (Addr.add A0 1)))] w fun e f9 => e = .returned (.tuple #[]) ∧
 R (.tuple #[]) f9)
 (
 brB (x1 == 6) (
 Calls pP 118 #[(.iface 101 (.pointer (some A1))), (.pointer (some A0))] w fun e g0 => e = .returned (.tuple #[]) ∧
 ∀ b2, Adv [] [] g0 b2 →
 Calls pP 58 #[(.pointer (some A1)), (.pointer (some (Addr.add A0 3)))] b2 fun e g1 => e = .returned (.tuple #[]) ∧
 ∀ b3, Adv [] [] g1 b3 →
 Calls pP 159 #[(.pointer (some A1)), (.pointer (some (Addr.add A0 12)))] b3 fun e g2 => e = .returned (.tuple #[]) ∧
 ∀ b4, Adv [] [] g2 b4 →
 Calls pP 161 #[(.pointer (some A1)), (.pointer (some (Addr.add A0 13)))] b4 fun e g3 => e = .returned (.tuple #[]) ∧
 R (.tuple #[]) g3)
 (
 brB (x1 == 7) (
 brB (x1 == 7) (
 Calls pP 118 #[(.iface 101 (.pointer (some A1))), (.pointer (some A0))] w fun e g4 => e = .returned (.tuple #[]) ∧
 ∀ b5, Adv [] [] g4 b5 →
 Calls pP 58 #[(.pointer (some A1)), (.pointer (some (Addr.add A0 11)))] b5 fun e g5 => e = .returned (.tuple #[]) ∧
 R (.tuple #[]) g5)
 (
 brB (x1 == 10) (
 Calls pP 118 #[(.iface 101 (.pointer (some A1))), (.pointer (some A0))] w fun e g6 => e = .returned (.tuple #[]) ∧
 ∀ b6, Adv [] [] g6 b6 →
 Calls pP 58 #[(.pointer (some A1)), (.pointer (some (Addr.add A0 11)))] b6 fun e g7 => e = .returned (.tuple #[]) ∧
 Calls pP 60 #[(.iface 101 (.pointer (some A1))), (.pointer (some (Addr.add A0 1)))] g7 fun e g8 => e = .returned (.tuple #[]) ∧
 ∀ b7, Adv [] [] g8 b7 →
 Calls pP 58 #[(.pointer (some A1)), (.pointer (some (Addr.add A0 4)))] b7 fun e g9 => e = .returned (.tuple #[]) ∧
 R (.tuple #[]) g9)
 (
 brB (x1 == 11) (
 ∀ b8, Adv [] [] w b8 →
 Calls pP 160 #[(.pointer (some A1)), (.pointer (some (Addr.add A0 9)))] b8 fun e h0 => e = .returned (.tuple #[]) ∧
 Calls pP 60 #[(.iface 101 (.pointer (some A1))), (.pointer (some (Addr.add A0 1)))] h0 fun e h1 => e = .returned (.tuple #[]) ∧
 R (.tuple #[]) h1)
 (
 R (.tuple #[]) w))))
 (
 brB (x1 == 8) (
 brB (x1 == 8) (
 Calls pP 118 #[(.iface 101 (.pointer (some A1))), (.pointer (some A0))] w fun e h2 => e = .returned (.tuple #[]) ∧
 ∀ b9, Adv [] [] h2 b9 →
 Calls pP 58 #[(.pointer (some A1)), (.pointer (some (Addr.add A0 11)))] b9 fun e h3 => e = .returned (.tuple #[]) ∧
 R (.tuple #[]) h3)
 (
 brB (x1 == 10) (
 Calls pP 118 #[(.iface 101 (.pointer (some A1))), (.pointer (some A0))] w fun e h4 => e = .returned (.tuple #[]) ∧
 ∀ c0, Adv [] [] h4 c0 →
 Calls pP 58 #[(.pointer (some A1)), (.pointer (some (Addr.add A0 11)))] c0 fun e h5 => e = .returned (.tuple #[]) ∧
 Calls pP 60 #[(.iface 101 (.pointer (some A1))), (.pointer (some (Addr.add A0 1)))] h5 fun e h6 => e = .returned (.tuple #[]) ∧
 ∀ c1, Adv [] [] h6 c1 →
 Calls pP 58 #[(.pointer (some A1)), (.pointer (some (Addr.add A0 4)))] c1 fun e h7 => e = .returned (.tuple #[]) ∧
 R (.tuple #[]) h7)
 (
 brB (x1 == 11) (
 ∀ c2, Adv [] [] w c2 →
 Calls pP 160 #[(.pointer (some A1)), (.pointer (some (Addr.add A0 9)))] c2 fun e h8 => e = .returned (.tuple #[]) ∧
 Calls pP 60 #[(.iface 101 (.pointer (some A1))), (.pointer (some (Addr.add A0 1)))] h8 fun e h9 => e = .returned (.tuple #[]) ∧
 R (.tuple #[]) h9)
 (
 R (.tuple #[]) w))))
 (
 brB (x1 == 9) (
 Calls pP 118 #[(.iface 101 (.pointer (some A1))), (.pointer (some A0))] w fun e u0 => e = .returned (.tuple #[]) ∧
 ∀ c3, Adv [] [] u0 c3 →
 Calls pP 58 #[(.pointer (some A1)), (.pointer (some (Addr.add A0 11)))] c3 fun e u1 => e = .returned (.tuple #[]) ∧
 R (.tuple #[]) u1)
 (
 brB (x1 == 10) (
 Calls pP 118 #[(.iface 101 (.pointer (some A1))), (.pointer (some A0))] w fun e u2 => e = .returned (.tuple #[]) ∧
 ∀ c4, Adv [] [] u2 c4 →
 Calls pP 58 #[(.pointer (some A1)), (.pointer (some (Addr.add A0 11)))] c4 fun e u3 => e = .returned (.tuple #[]) ∧
 Calls pP 60 #[(.iface 101 (.pointer (some A1))), (.pointer (some (Addr.add A0 1)))] u3 fun e u4 => e = .returned (.tuple #[]) ∧
 ∀ c5, Adv [] [] u4 c5 →
 Calls pP 58 #[(.pointer (some A1)), (.pointer (some (Addr.add A0 4)))] c5 fun e u5 => e = .returned (.tuple #[]) ∧
 R (.tuple #[]) u5)
 (
 brB (x1 == 11) (
 ∀ c6, Adv [] [] w c6 →
 Calls pP 160 #[(.pointer (some A1)), (.pointer (some (Addr.add A0 9)))] c6 fun e u6 => e = .returned (.tuple #[]) ∧
 Calls pP 60 #[(.iface 101 (.pointer (some A1))), (.pointer (some (Addr.add A0 1)))] u6 fun e u7 => e = .returned (.tuple #[]) ∧
 R (.tuple #[]) u7)
 (
 R (.tuple #[]) w))))))))))))
 (
 brB (x1 == 12) (
 ∀ c7, Adv [] [] w c7 →
 Calls pP 58 #[(.pointer (some A1)), (.pointer (some (Addr.add A0 3)))] c7 fun e u9 => e = .returned (.tuple #[]) ∧
 R (.tuple #[]) u9)
 (
 brB (x1 == 2) (
 Calls pP 60 #[(.iface 101 (.pointer (some A1))), (.pointer (some (Addr.add A0 1)))] w fun e v0 => e = .returned (.tuple #[]) ∧
 ∀ c8, Adv [] [] v0 c8 →
 Calls pP 158 #[(.pointer (some A1)), (.pointer (some (Addr.add A0 5)))] c8 fun e v1 => e = .returned (.tuple #[]) ∧
 R (.tuple #[]) v1)
 (
 brB (x1 == 3) (
 Calls pP 60 #[(.iface 101 (.pointer (some A1))), (.pointer (some (Addr.add A0 1)))] w fun e v2 => e = .returned (.tuple #[]) ∧
 ∀ c9, Adv [] [] v2 c9 →
 Calls pP 58 #[(.pointer (some A1)), (.pointer (some (Addr.add A0 4)))] c9 fun e v3 => e = .returned (.tuple #[]) ∧
 ∀ d0, Adv [] [] v3 d0 →
 Calls pP 58 #[(.pointer (some A1)), (.pointer (some (Addr.add A0 3)))] d0 fun e v4 => e = .returned (.tuple #[]) ∧
 R (.tuple #[]) v4)
 (
 brB (x1 == 4) (
 Calls pP 60 #[(.iface 101 (.pointer (some A1))), (.pointer (some (Addr.add A0 1)))] w fun e v5 => e = .returned (.tuple #[]) ∧
 ∀ d1, Adv [] [] v5 d1 →
 Calls pP 58 #[(.pointer (some A1)), (.pointer (some (Addr.add A0 4)))] d1 fun e v6 => e = .returned (.tuple #[]) ∧
 R (.tuple #[]) v6)
 (
 brB (x1 == 5) (
 Calls pP 60 #[(.iface 101 (.pointer (some A1))), (.pointer (some (Addr.add A0 1)))] w fun e v7 => e = .returned (.tuple #[]) ∧
 R (.tuple #[]) v7)
 (
 brB (x1 == 6) (
 Calls pP 118 #[(.iface 101 (.pointer (some A1))), (.pointer (some A0))] w fun e v8 => e = .returned (.tuple #[]) ∧
 ∀ d2, Adv [] [] v8 d2 →
 Calls pP 58 #[(.pointer (some A1)), (.pointer (some (Addr.add A0 3)))] d2 fun e v9 => e = .returned (.tuple #[]) ∧
 ∀ d3, Adv [] [] v9 d3 →
 Calls pP 159 #[(.pointer (some A1)), (.pointer (some (Addr.add A0 12)))] d3 fun e w0 => e = .returned (.tuple #[]) ∧
 ∀ d4, Adv [] [] w0 d4 →
 Calls pP 161 #[(.pointer (some A1)), (.pointer (some (Addr.add A0 13)))] d4 fun e w1 => e = .returned (.tuple #[]) ∧
 R (.tuple #[]) w1)
 (
 brB (x1 == 7) (
 brB (x1 == 7) (
 Calls pP 118 #[(.iface 101 (.pointer (some A1))), (.pointer (some A0))] w fun e x0 => e = .returned (.tuple #[]) ∧
 ∀ d5, Adv [] [] x0 d5 →
 Calls pP 58 #[(.pointer (some A1)), (.pointer (some (Addr.add A0 11)))] d5 fun e x2 => e = .returned (.tuple #[]) ∧
 R (.tuple #[]) x2)
 (
 brB (x1 == 10) (
 Calls pP 118 #[(.iface 101 (.pointer (some A1))), (.pointer (some A0))] w fun e x3 => e = .returned (.tuple #[]) ∧
 ∀ d6, Adv [] [] x3 d6 →
 Calls pP 58 #[(.pointer (some A1)), (.pointer (some (Addr.add A0 11)))] d6 fun e x4 => e = .returned (.tuple #[]) ∧
 Calls pP 60 #[(.iface 101 (.pointer (some A1))), (.pointer (some (Addr.add A0 1)))] x4 fun e x5 => e = .returned (.tuple #[]) ∧
 ∀ d7, Adv [] [] x5 d7 →
 Calls pP 58 #[(.pointer (some A1)), (.pointer (some (Addr.add A0 4)))] d7 fun e x6 => e = .returned (.tuple #[]) ∧
 R (.tuple #[]) x6)
 (
 brB (x1 == 11) (
 ∀ d8, Adv [] [] w d8 →
 Calls pP 160 #[(.pointer (some A1)), (.pointer (some (Addr.add A0 9)))] d8 fun e x7 => e = .returned (.tuple #[]) ∧
 Calls pP 60 #[(.iface 101 (.pointer (some A1))), (.pointer (some (Addr.add A0 1)))] x7 fun e x8 => e = .returned (.tuple #[]) ∧
 R (.tuple #[]) x8)
 (
 R (.tuple #[]) w))))
 (
 brB (x1 == 8) (
 brB (x1 == 8) (
 Calls pP 118 #[(.iface 101 (.pointer (some A1))), (.pointer (some A0))] w fun e x9 => e = .returned (.tuple #[]) ∧
 ∀ d9, Adv [] [] x9 d9 →
 Calls pP 58 #[(.pointer (some A1)), (.pointer (some (Addr.add A0 11)))] d9 fun e y0 => e = .returned (.tuple #[]) ∧
 R (.tuple #[]) y0)
 (
 brB (x1 == 10) (
 Calls pP 118 #[(.iface 101 (.pointer (some A1))), (.pointer (some A0))] w fun e y1 => e = .returned (.tuple #[]) ∧
 ∀ a2, Adv [] [] y1 a2 →
 Calls pP 58 #[(.pointer (some A1)), (.pointer (some (Addr.add A0 11)))] a2 fun e e0 => e = .returned (.tuple #[]) ∧
 Calls pP 60 #[(.iface 101 (.pointer (some A1))), (.pointer (some (Addr.add A0 1)))] e0 fun e e1 => e = .returned (.tuple #[]) ∧
 ∀ a3, Adv [] [] e1 a3 →
 Calls pP 58 #[(.pointer (some A1)), (.pointer (some (Addr.add A0 4)))] a3 fun e e2 => e = .returned (.tuple #[]) ∧
 R (.tuple #[]) e2)
 (
 brB (x1 == 11) (
 ∀ a4, Adv [] [] w a4 →
 Calls pP 160 #[(.pointer (some A1)), (.pointer (some (Addr.add A0 9)))] a4 fun e e3 => e = .returned (.tuple #[]) ∧
 Calls pP 60 #[(.iface 101 (.pointer (some A1))), (.pointer (some (Addr.add A0 1)))] e3 fun e e4 => e = .returned (.tuple #[]) ∧
 R (.tuple #[]) e4)
 (
 R (.tuple #[]) w))))
 (
 brB (x1 == 9) (
 Calls pP 118 #[(.iface 101 (.pointer (some A1))), (.pointer (some A0))] w fun e e5 => e = .returned (.tuple #[]) ∧
 ∀ a5, Adv [] [] e5 a5 →
 Calls pP 58 #[(.pointer (some A1)), (.pointer (some (Addr.add A0 11)))] a5 fun e e6 => e = .returned (.tuple #[]) ∧
 R (.tuple #[]) e6)
 (
 brB (x1 == 10) (
 Calls pP 118 #[(.iface 101 (.pointer (some A1))), (.pointer (some A0))] w fun e e7 => e = .returned (.tuple #[]) ∧
 ∀ a6, Adv [] [] e7 a6 →
 Calls pP 58 #[(.pointer (some A1)), (.pointer (some (Addr.add A0 11)))] a6 fun e e8 => e = .returned (.tuple #[]) ∧
 Calls pP 60 #[(.iface 101 (.pointer (some A1))), (.pointer (some (Addr.add A0 1)))] e8 fun e e9 => e = .returned (.tuple #[]) ∧
 ∀ a7, Adv [] [] e9 a7 →
 Calls pP 58 #[(.pointer (some A1)), (.pointer (some (Addr.add A0 4)))] a7 fun e f0 => e = .returned (.tuple #[]) ∧
 R (.tuple #[]) f0)
 (
 brB (x1 == 11) (
 ∀ a8, Adv [] [] w a8 →
 Calls pP 160 #[(.pointer (some A1)), (.pointer (some (Addr.add A0 9)))] a8 fun e f1 => e = .returned (.tuple #[]) ∧
 Calls pP 60 #[(.iface 101 (.pointer (some A1))), (.pointer (some (Addr.add A0 1)))] f1 fun e f2 => e = .returned (.tuple #[]) ∧
 R (.tuple #[]) f2)
 (
 R (.tuple #[]) w)))))))))))))) :
 CR pP 93 #[(.iface 101 (.pointer (some A1))), (.pointer (some A0))] w R :=
 yaA Tryz.wide_mixed (an := []) Tryz.func93 rfl rfl (by kernel_rfl) rfl (Eq.mpr (by kernel_rfl) h)
theorem yJi {b0 : BA} {b9 a6 : BA} (h :
 ∀ b1, w.heap.size ≤ b1 →
 ∀ w2, Adv [] [b1] w w2 →
 Calls pP 92 #[(.agg (Z1 i0 b0 i1 i2 i3 i4 i5 i6 q0 n0 n1 b9 a6 i7 B0 q1 n2 n3))] w2 fun e w3 => ∃ x4, e = .returned (.int .i64 x4) ∧ yaE [b1] w2 w3 ∧
 brB (x4 != 0) (
 R (.tuple #[(.string (⟨#[]⟩ : BA)), .int .i64 x4]) w3)
 (
 ∀ b5, w3.heap.size ≤ b5 →
 ∀ w6, Adv [] [b5] w3 w6 → hpC w6 b1 (Z1 i0 b0 i1 i2 i3 i4 i5 i6 q0 n0 n1 b9 a6 i7 B0 q1 n2 n3) 49 →
 hpC w6 b5 #[.pointer none, .slice none 0 0] 103 →
 Calls pP 58 #[(.pointer (some ⟨b5, 0, none⟩)), (.pointer (some ⟨b1, 0, none⟩))] w6 fun e w7 => e = .returned (.tuple #[]) ∧ ∃ x8 s9 g4 g5 g6 g7 g8 g9 c3 e1 d2 f3 f4 h0 g1 c4 e2 d3, hpC w7 b1 (Z1 x8 s9 g4 g5 g6 g7 g8 g9 c3 e1 d2 f3 f4 h0 g1 c4 e2 d3) 49 ∧ ∃ f0 c5 e3 d4, hpC w7 b5 #[.pointer f0, .slice c5 e3 d4] 103 ∧
 Calls pP 93 #[(.iface 101 (.pointer (some ⟨b5, 0, none⟩))), (.pointer (some ⟨b1, 0, none⟩))] w7 fun e c0 => e = .returned (.tuple #[]) ∧ ∃ h1 f5 h2 h3 h4 h5 h6 h7 c6 e4 d5 f6 f7 h8 g2 c7 e5 d6, hpC c0 b1 (Z1 h1 f5 h2 h3 h4 h5 h6 h7 c6 e4 d5 f6 f7 h8 g2 c7 e5 d6) 49 ∧ ∃ f1 c8 e6 d7, hpC c0 b5 #[.pointer f1, .slice c8 e6 d7] 103 ∧
 Calls pP 27 #[(.pointer (some ⟨b5, 0, none⟩))] c0 fun e c1 => ∃ c2, e = .returned (.string c2) ∧ ∃ h9 f8 u0 u1 u2 u3 u4 u5 c9 e7 d8 f9 g0 u6 g3 d0 e8 d9, hpC c1 b1 (Z1 h9 f8 u0 u1 u2 u3 u4 u5 c9 e7 d8 f9 g0 u6 g3 d0 e8 d9) 49 ∧ ∃ f2 d1 e9 e0, hpC c1 b5 #[.pointer f2, .slice d1 e9 e0] 103 ∧
 R (.tuple #[.string c2, .int .i64 0]) c1)) :
 CR pP 56 #[(.agg (Z1 i0 b0 i1 i2 i3 i4 i5 i6 q0 n0 n1 b9 a6 i7 B0 q1 n2 n3))] w R :=
 yaA Tryz.wide_mixed (an := []) Tryz.func56 rfl rfl (by kernel_rfl) rfl (Eq.mpr (by kernel_rfl) h)
end
def ygI (b : Bool) : Nat := if b then 1 else 0
def yfH (l : List BA) : List UInt8 := yaJ l.length ++ l.flatMap ybU
def ybF (o : POp) : List UInt8 :=
 if o.kind = 0 then ybU o.part.t ++ yaJ o.n.toNat
 else if o.kind = 1 then yaJ o.n.toNat
 else if o.kind = 2 then ycW o.part ++ ydH o.b
 else if o.kind = 3 then ycW o.part ++ yaJ o.off.toNat ++ yaJ o.n.toNat
 else if o.kind = 4 then ycW o.part ++ yaJ o.off.toNat
 else if o.kind = 5 then ycW o.part
 else if o.kind = 6 then ybU o.g ++ ybU o.m ++ yaJ o.n.toNat ++ yaJ (ygI o.robin) ++ yfH o.topics
 else if o.kind = 7 ∨ o.kind = 8 ∨ o.kind = 9 then ybU o.g ++ ybU o.m ++ yaJ o.gen.toNat
 else if o.kind = 10 then ybU o.g ++ ybU o.m ++ yaJ o.gen.toNat ++ ycW o.part ++ yaJ o.off.toNat
 else if o.kind = 11 then ybU o.g ++ ycW o.part
 else yaJ o.n.toNat
def opB (o : POp) : List UInt8 := yaJ o.kind.toNat ++ ybF o
structure OpGood (o : POp) : Prop where
 k : 0 ≤ o.kind ∧ o.kind ≤ 12
 nn : num o.part.n = true ∧ num o.n = true ∧ num o.off = true ∧ num o.gen = true
 nt : (ha o.kind 112 || ha o.kind 116) = true → ybO o.part.t = true
 ng : ha o.kind 103 = true → ybO o.g = true
 nm : ha o.kind 109 = true → ybO o.m = true
 nl : ha o.kind 108 = true → ycC o.topics = true
 b : o.kind = 2 → ybD o.b = 0
 only : yeA o = true
theorem OpGood.of {o : POp} (h : opE o = 0) : OpGood o := by
 unfold opE at h
 split at h
 ·omega
 rename_i hk
 split at h
 ·omega
 rename_i hf
 split at h
 ·omega
 rename_i hn
 have hf := Bool.not_eq_false _ ▸ hf
 have hn := Bool.not_eq_false _ ▸ hn
 simp only [Bool.and_eq_true] at hn
 simp only [yp3, Bool.and_eq_true] at hf
 obtain ⟨⟨⟨⟨f1, f2⟩, f3⟩, f4⟩, f5⟩ := hf
 refine ⟨by omega, ⟨hn.1.1.1, hn.1.1.2, hn.1.2, hn.2⟩, fun g => ?_, fun g => ?_, fun g => ?_, fun g => ?_, fun g => ?_, f1⟩
 ·rw [g] at f2; simpa using f2
 ·rw [g] at f3; simpa using f3
 ·rw [g] at f4; simpa using f4
 ·rw [g] at f5; simpa using f5
 ·rw [if_pos g] at h; exact h
theorem ycD {s : BA} (h : ybO s = true) : s.size ≤ 16 ∧ 1 ≤ s.size := by simp [ybO] at h; omega
theorem ye8 {x : Int} (h : num x = true) : 0 ≤ x ∧ x ≤ 1099511627776 := by simpa [num] using h
structure WSt (w0 w : World) (B bw bo M : Nat) (l : List UInt8) (cs : List Value) : Prop where
 b : Bd B bw l w
 o : w.heap[bo]? = some (.cells cs.toArray 49)
 m : Mod [] w0 w
 hB : w0.heap.size ≤ B
 ne : bo ≠ bw
 len : l.length ≤ M
 hM : M ≤ 1000000
theorem WSt.adv {w0 w w' : World} {B bw bo M : Nat} {l : List UInt8} {cs : List Value} {N : List Nat} (H : WSt w0 w B bw bo M l cs) (A : Adv [] N w w') : WSt w0 w' B bw bo M l cs :=
 ⟨H.b.keep0 A.mod, A.mod.keep0 H.o, H.m.go0 A.mod (by simp), H.hB, H.ne, H.len, H.hM⟩
theorem WSt.size {w0 w : World} {B bw bo M : Nat} {l : List UInt8} {cs : List Value} (H : WSt w0 w B bw bo M l cs) : B ≤ w.heap.size := by
 have := H.b.lt; omega
theorem WSt.put {w0 w w' : World} {B bw bo M M' : Nat} {l l' : List UInt8} {cs : List Value} (H : WSt w0 w B bw bo M l cs) (hb : Bd B bw (l ++ l') w') (W : Wr B bw w w') (hl : l'.length + M ≤ M') (hM : M' ≤ 1000000) : WSt w0 w' B bw bo M' (l ++ l') cs :=
 ⟨hb, W.keep H.o H.ne (by decide), W.mod H.m H.hB, H.hB, H.ne, by rw [List.length_append]; have := H.len; omega, hM⟩
theorem WSt.cell {w0 w : World} {B bw bo M : Nat} {l : List UInt8} {cs : List Value} (H : WSt w0 w B bw bo M l cs) {i : Nat} {v : Value} (hc : cs[i]? = some v) : w.cell? ⟨bo, i, none⟩ = some v := by
 rw [yaZ H.o]; simpa using hc
theorem yj7 {w0 w : World} {B bw bo M off : Nat} {l : List UInt8} {cs : List Value} {x : Int} {R : World → Prop} (H : WSt w0 w B bw bo M l cs) (hc : cs[off]? = some (.int .i64 x)) (hx : num x = true) (hM : M + 20 ≤ 1000000)
  (k : ∀ w', WSt w0 w' B bw bo (M + 20) (l ++ yaJ x.toNat) cs → R w') :
  Calls pP 58 #[.pointer (some ⟨bw, 0, none⟩), .pointer (some ⟨bo, off, none⟩)] w fun e w' => e = .returned (.tuple #[]) ∧ R w' := by
 have hx := ye8 hx
 obtain ⟨n, rfl⟩ := Int.eq_ofNat_of_zero_le hx.1
 have hl := H.len
 refine (ygG H.b (by omega) H.size (x := n) (H.cell hc) (by omega)).mono ?_
 rintro e w' ⟨rfl, hb, W⟩
 have := yaL n (by omega)
 exact ⟨rfl, k w' (H.put hb W (by rw [Int.toNat_natCast]; omega) hM)⟩
theorem yfU {w0 w : World} {B bw bo M off : Nat} {l : List UInt8} {cs : List Value} {s : BA} {R : World → Prop} (H : WSt w0 w B bw bo M l cs) (hc : cs[off]? = some (.string s)) (hs : s.size ≤ 16) (hM : M + 30 ≤ 1000000)
  (k : ∀ w', WSt w0 w' B bw bo (M + 30) (l ++ ybU s) cs → R w') :
  Calls pP 160 #[.pointer (some ⟨bw, 0, none⟩), .pointer (some ⟨bo, off, none⟩)] w fun e w' => e = .returned (.tuple #[]) ∧ R w' := by
 have hl := H.len
 refine (ynF H.b (by omega) H.size (s := s) (H.cell hc) (by omega)).mono ?_
 rintro e w' ⟨rfl, hb, W⟩
 have := yaW s (by omega)
 exact ⟨rfl, k w' (H.put hb W (by omega) hM)⟩
theorem yvV {w0 w : World} {B bw bo M off : Nat} {l : List UInt8} {cs : List Value} {t : Bool} {R : World → Prop} (H : WSt w0 w B bw bo M l cs) (hc : cs[off]? = some (.bool t)) (hM : M + 20 ≤ 1000000)
  (k : ∀ w', WSt w0 w' B bw bo (M + 20) (l ++ yaJ (ygI t)) cs → R w') :
  Calls pP 159 #[.pointer (some ⟨bw, 0, none⟩), .pointer (some ⟨bo, off, none⟩)] w fun e w' => e = .returned (.tuple #[]) ∧ R w' := by
 refine yaP (yJa ?_)
 intro b1 f1 w1 A1
 have H1 := H.adv A1
 have l1 := A1.lt b1 (by simp)
 have hb0 := H.b.lt
 refine yaN (x := t) (H1.cell hc) ?_
 have hl := H.len
 have go : ∀ {w2 : World} {S : List Nat} (hS : ∀ i ∈ S, i = b1), Adv S [] w1 w2 → w2.heap[b1]? = some (.cells #[.int .i64 (ygI t : Nat)] 3) → Calls pP 58 #[.pointer (some ⟨bw, 0, none⟩), .pointer (some ⟨b1, 0, none⟩)] w2 fun e w5 => e = .returned (.tuple #[]) ∧ ∃ x6 : Int, w5.heap[b1]? = some (.cells #[.int .i64 x6] 3) ∧ (Value.tuple #[] = Value.tuple #[] ∧ R w5) := fun {w2 S} hS A2 h2 => by
  have hne : b1 ≠ bw := by omega
  have hM2 : Mod [] w w2 := A1.mod.go0 A2.mod fun i hi => by rw [hS i hi]; exact f1
  have H2 : WSt w0 w2 B bw bo M l cs := ⟨H.b.keep0 hM2, hM2.keep0 H.o, H.m.go0 hM2 (by simp), H.hB, H.ne, H.len, H.hM⟩
  refine (ygG H2.b (by omega) H2.size (a := ⟨b1, 0, none⟩) (x := ygI t) (by rw [yaZ h2]; rfl) (by cases t <;> decide)).mono ?_
  rintro e w3 ⟨rfl, hb, W⟩
  have := yaL (ygI t) (by cases t <;> decide)
  exact ⟨rfl, _, W.keep h2 hne (by decide), rfl, k w3 (H2.put hb W (by omega) hM)⟩
 refine yaB (fun g => ?_) fun g => ?_
 ·subst g; exact fun w2 A2 h2 => go (by simp) A2 h2
 ·subst g; exact fun w2 A2 h2 => go (by simp) A2 h2
theorem ysJ {w0 w : World} {B bw bo M : Nat} {l : List UInt8} {cs : List Value} {b : PBatch} {rs : Sl} {R : World → Prop} (H : WSt w0 w B bw bo M l cs) (h5 : cs[5]? = some (.int .i64 b.prod)) (h6 : cs[6]? = some (.int .i64 b.epoch)) (h7 : cs[7]? = some (.int .i64 b.seq)) (h8 : cs[8]? = some (.slice rs.a rs.n rs.c))
  (hs : yb3 w0 4 ye7 rs.a rs.n b.recs) (hE : ybD b = 0) (hM : M + 20000 ≤ 1000000) (k : ∀ w', WSt w0 w' B bw bo (M + 20000) (l ++ ydH b) cs → R w') :
  Calls pP 158 #[.pointer (some ⟨bw, 0, none⟩), .pointer (some ⟨bo, 5, none⟩)] w fun e w' => e = .returned (.tuple #[]) ∧ R w' := by
 have G := BatGood.of hE
 have hl := H.len
 have hbl := G.len
 have hr := G.lr
 refine yaP (yJb ?_)
 refine yaF (x := b.prod) (H.cell h5) (yaF (x := b.epoch) (H.cell h6) (yaF (x := b.seq) (H.cell h7) (ybH (H.cell h8) ?_)))
 refine (yCJ (b := b) (rs := rs) (hs.keep0 H.m) (by omega)).mono ?_
 rintro e w1 ⟨rfl, M1⟩
 have H1 : WSt w0 w1 B bw bo M l cs := ⟨H.b.keep0 M1, M1.keep0 H.o, H.m.go0 M1 (by simp), H.hB, H.ne, H.len, H.hM⟩
 refine ⟨_, _, rfl, ?_⟩
 rw [if_pos hE]
 refine (yCu H1.b (l2 := ydH b) (by omega) H1.size).mono ?_
 rintro e w2 ⟨rfl, hb, W⟩
 exact ⟨_, _, rfl, rfl, k w2 (H1.put hb W (by omega) hM)⟩
theorem ysK {w0 w : World} {B bw bo M : Nat} {l : List UInt8} {cs : List Value} {tl : List BA} {ts : Sl} {R : World → Prop} (H : WSt w0 w B bw bo M l cs) (hc : cs[13]? = some (.slice ts.a ts.n ts.c))
  (hs : yb3 w0 1 yiO ts.a ts.n tl) (hn : ycC tl = true) (hM : M + 300 ≤ 1000000) (k : ∀ w', WSt w0 w' B bw bo (M + 300) (l ++ yfH tl) cs → R w') :
  Calls pP 161 #[.pointer (some ⟨bw, 0, none⟩), .pointer (some ⟨bo, 13, none⟩)] w fun e w' => e = .returned (.tuple #[]) ∧ R w' := by
 have hl := H.len
 simp only [ycC, Bool.and_eq_true, decide_eq_true_eq] at hn
 obtain ⟨⟨⟨n1, n2⟩, n3⟩, _⟩ := hn
 have hnm : ∀ s ∈ tl, s.size ≤ 16 := fun s hs => (ycD (List.all_eq_true.1 n3 s hs)).1
 have e4 := hs.1
 refine yaP (yJe ?_)
 refine ybH (H.cell hc) ?_
 intro b1 f1 w1 A1 h1
 have H1 := H.adv A1
 have hb0 := H.b.lt
 refine (ygG H1.b (by omega) H1.size (a := ⟨b1, 0, none⟩) (x := tl.length) (by rw [yaZ h1, e4]; rfl) (by omega)).mono ?_
 rintro e w2 ⟨rfl, hb2, W2⟩
 have hv := yaL tl.length (by omega)
 have H2 := H1.put hb2 W2 (M' := M + 20) (by omega) (by omega)
 refine ⟨rfl, _, W2.keep h1 (by omega) (by decide), ?_⟩
 have h2 := W2.keep h1 (by omega) (by decide)
 refine ybH (H2.cell hc) ?_
 refine yAI (fun mm x y w' => ∃ k : Nat, x = k ∧ k ≤ tl.length ∧ WSt w0 w' B bw bo (M + 20 + k * 30) (l ++ yaJ tl.length ++ (tl.take k).flatMap ybU) cs ∧ b1 < w'.heap.size ∧ mm = tl.length - k) tl.length ⟨0, rfl, by omega, by simpa using H2, yaX h2, rfl⟩ ?_
 rintro mm x y w3 ⟨k', rfl, hk, H3, hb13, rfl⟩ h3
 refine yaC (fun hlt => ?_) fun hge => ?_
 ·obtain ⟨s, hs'⟩ : ∃ s, tl[k']? = some s := ⟨_, List.getElem?_eq_getElem (by omega)⟩
  have hsz := hnm s (List.mem_of_getElem? hs')
  refine (hs.keep0 H3.m).ix hs' fun q hq => yaG (x := s) (by simpa [add_zero] using hq 0 _ rfl) ?_
  intro b4 f4 w4 A4 h4a h4
  have H4 := H3.adv A4
  have hb3 := H3.b.lt
  have hl4 := H4.len
  refine (ynF H4.b (by omega) H4.size (a := ⟨b4, 0, none⟩) (s := s) (by rw [yaZ h4]; rfl) (by omega)).mono ?_
  rintro e w5 ⟨rfl, hb5, W5⟩
  have hp := yaW s (by omega)
  have H5 := H4.put hb5 W5 (M' := M + 20 + (k' + 1) * 30) (by omega) (by omega)
  have k5 := W5.keep h4a (by omega) (by decide)
  refine ⟨rfl, _, k5, _, W5.keep h4 (by omega) (by decide), ?_⟩
  refine yAH (tl.length - (k' + 1)) (by omega) ⟨k' + 1, by rw [yaH (by omega) (by omega)]; omega, by omega, ?_, yaX k5, rfl⟩
  rw [ybB hs', ← List.append_assoc]
  exact H5
 ·have hk' : k' = tl.length := by omega
  subst hk'
  rw [List.take_length, List.append_assoc] at H3
  exact ⟨rfl, k w3 ⟨H3.b, H3.o, H3.m, H3.hB, H3.ne, by have := H3.len; exact Nat.le_trans this (by omega), hM⟩⟩
theorem yvW {w0 w : World} {B bw bo M : Nat} {l : List UInt8} {cs : List Value} {p : PPart} {R : World → Prop} (H : WSt w0 w B bw bo M l cs) (h1 : cs[1]? = some (.string p.t)) (h2 : cs[2]? = some (.int .i64 p.n)) (hs : p.t.size ≤ 16) (hx : num p.n = true) (hM : M + 50 ≤ 1000000)
  (k : ∀ w', WSt w0 w' B bw bo (M + 50) (l ++ ycW p) cs → R w') :
  Calls pP 60 #[.iface 101 (.pointer (some ⟨bw, 0, none⟩)), .pointer (some ⟨bo, 1, none⟩)] w fun e w' => e = .returned (.tuple #[]) ∧ R w' := by
 refine yaP (yJf ?_)
 intro w1 A1
 refine yfU (off := 1) (H.adv A1) h1 hs (by omega) fun w2 H2 => ?_
 intro w3 A3
 refine yj7 (off := 2) (H2.adv A3) h2 hx (by omega) fun w4 H4 => ⟨rfl, k w4 ?_⟩
 rw [List.append_assoc] at H4
 exact H4
theorem yqE {w0 w : World} {B bw bo M : Nat} {l : List UInt8} {cs : List Value} {g m : BA} {R : World → Prop} (H : WSt w0 w B bw bo M l cs) (h1 : cs[9]? = some (.string g)) (h2 : cs[10]? = some (.string m)) (hs : g.size ≤ 16) (hs2 : m.size ≤ 16) (hM : M + 60 ≤ 1000000)
  (k : ∀ w', WSt w0 w' B bw bo (M + 60) (l ++ ybU g ++ ybU m) cs → R w') :
  Calls pP 118 #[.iface 101 (.pointer (some ⟨bw, 0, none⟩)), .pointer (some ⟨bo, 0, none⟩)] w fun e w' => e = .returned (.tuple #[]) ∧ R w' := by
 refine yaP (yJg ?_)
 intro w1 A1
 refine yfU (off := 9) (H.adv A1) h1 hs (by omega) fun w2 H2 => ?_
 intro w3 A3
 refine yfU (off := 10) (H2.adv A3) h2 hs2 (by omega) fun w4 H4 => ⟨rfl, k w4 H4⟩
theorem Mod.via {S T : List Nat} {a b c : World} (h : Mod S a b) (k : Mod T b c) (hs : ∀ i ∈ T, i < a.heap.size → i ∈ S) : Mod S a c :=
 (h.trans k).less fun i hi hl => by
  rcases List.mem_append.1 hi with h1 | h1
  ·exact h1
  ·exact hs i h1 hl
def yfA (l : List UInt8) (a : Nat) : Option (Nat × Nat) := (vg 0 (l.drop a)).map fun p => (p.1, a + p.2)
def yl9 (lim : Nat) (l : List UInt8) (a : Nat) : Option (BA × Nat) := (tg lim (l.drop a)).map fun p => (p.1, a + p.2)
def yj8 (has : Bool) (lim : Nat) (l : List UInt8) (a : Nat) : Option (BA × Nat) := if has then yl9 lim l a else some (⟨#[]⟩, a)
def yCK (l : List UInt8) (a : Nat) : Option (Nat × Nat) := match l[a]? with
 | none => none
 | some c => if c.toNat = 0 ∨ c.toNat = 1 ∨ c.toNat = 3 then some (c.toNat, a + 1) else none
def yqF (l : List UInt8) (a : Nat) : Option (PRec × Nat) :=
 (yCK l a).bind fun p => (yj8 (decide (p.1 % 2 = 1)) 64 l p.2).bind fun q => (yj8 (decide (p.1 / 2 % 2 = 0)) 512 l q.2).bind fun r =>
  some (⟨decide (p.1 % 2 = 1), q.1, decide (p.1 / 2 % 2 = 1), r.1⟩, r.2)
def many (α : Type) : Type := List UInt8 → Nat → Option (α × Nat)
def ycE {α : Type} (f : many α) (l : List UInt8) : Nat → Nat → Option (List α × Nat)
 | 0, a => some ([], a)
 | k + 1, a => (f l a).bind fun p => (ycE f l k p.2).map fun q => (p.1 :: q.1, q.2)
def hdA (l : List UInt8) (a : Nat) : Option (List Nat × Nat) := (ycE yfA l 4 a).bind fun p => match p.1 with
 | [x, y, z, k] => if x ≤ 1099511627776 ∧ y ≤ 1099511627776 ∧ z ≤ 1099511627776 ∧ 1 ≤ k ∧ k ≤ 16 then some p else none
 | _ => none
def yvX (l : List UInt8) (a : Nat) : Option (PBatch × Nat) := (hdA l a).bind fun p => match p.1 with
 | [x, y, z, k] => (ycE yqF l k p.2).map fun q => (⟨(x : Nat), (y : Nat), (z : Nat), q.1⟩, q.2)
 | _ => none
theorem yaV {l x r : List UInt8} {a : Nat} (h : l.drop a = x ++ r) : l.drop (a + x.length) = r := by
 rw [← List.drop_drop, h, List.drop_left']
 rfl
theorem yfV {l r : List UInt8} {a n : Nat} (hn : n < 18446744073709551616) (h : l.drop a = yaJ n ++ r) : yfA l a = some (n, a + (yaJ n).length) := by
 unfold yfA; rw [h, yzP 9 0 n r rfl (by simpa using hn) (by omega)]; rfl
theorem ye3 {l r : List UInt8} {a lim : Nat} {s : BA} (hn : s.size ≤ lim) (hs : s.size < 18446744073709551616) (h : l.drop a = ybU s ++ r) : yl9 lim l a = some (s, a + (ybU s).length) := by
 unfold yl9; rw [h, yDI s r hn hs]; rfl
theorem yhL {α : Type} {f : many α} {enc : α → List UInt8} {l : List UInt8} : ∀ (xs : List α) (hf : ∀ x ∈ xs, ∀ a r, l.drop a = enc x ++ r → f l a = some (x, a + (enc x).length)) (a : Nat) (r : List UInt8),
  l.drop a = xs.flatMap enc ++ r → ycE f l xs.length a = some (xs, a + (xs.flatMap enc).length)
 | [], hf, a, r, h => rfl
 | x :: xs, hf, a, r, h => by
  rw [List.flatMap_cons, List.append_assoc] at h
  have h2 := yaV h
  simp only [List.length_cons, ycE, hf x (by simp) a _ h, Option.bind_some, yhL xs (fun y hy => hf y (by simp [hy])) _ r h2, Option.map_some, List.flatMap_cons, List.length_append]
  simp; omega
theorem yuJ {l r : List UInt8} {a : Nat} {x : PRec} (hx : yfQ x = 0) (h : l.drop a = yf7 x ++ r) : yqF l a = some (x, a + (yf7 x).length) := by
 obtain ⟨hk, hv⟩ := yfT hx
 obtain ⟨k, key, t, val⟩ := x
 have hk : key.size ≤ 64 := hk
 have hv : val.size ≤ 512 := hv
 have h0 : l[a]? = some (ygF ⟨k, key, t, val⟩) := by
  have := congrArg List.head? h
  rw [List.head?_drop] at this
  simpa [yf7] using this
 have hf : yCK l a = some ((ygF ⟨k, key, t, val⟩).toNat, a + 1) := by
  unfold yCK; rw [h0]
  cases k <;> cases t <;> simp [ygF]
 have h1 : l.drop (a + 1) = (if k then ybU key else []) ++ ((if t then [] else ybU val) ++ r) := by
  have e : yf7 ⟨k, key, t, val⟩ ++ r = [ygF ⟨k, key, t, val⟩] ++ ((if k then ybU key else []) ++ ((if t then [] else ybU val) ++ r)) := by simp [yf7]
  rw [e] at h
  exact yaV h
 have hkE : (k = false → key = ⟨#[]⟩) ∧ (t = true → k = true ∧ val = ⟨#[]⟩) := by
  unfold yfQ yGt at hx
  constructor
  ·rintro rfl
   rw [ym9]
   by_cases hk0 : key.size = 0
   ·exact hk0
   ·simp [hk0] at hx
  ·rintro rfl
   rw [ym9]
   cases k with
   | false => simp at hx
   | true =>
    by_cases hv0 : val.size = 0
    ·exact ⟨rfl, hv0⟩
    ·simp [hv0] at hx
 unfold yqF
 rw [hf, Option.bind_some]
 cases k with
 | false =>
  cases t with
  | true => have := hkE.2 rfl; simp at this
  | false =>
   have hkey := hkE.1 rfl
   simp only [Bool.false_eq_true, if_false, List.nil_append] at h1
   have ht := ye3 (lim := 512) hv (by omega) h1
   subst hkey
   simp [ygF, yj8, ht, yf7]
   omega
 | true =>
  simp only [if_true] at h1
  have hk1 := ye3 (lim := 64) hk (by omega) h1
  cases t with
  | true =>
   obtain ⟨_, rfl⟩ := hkE.2 rfl
   simp [ygF, yj8, hk1, yf7]
   omega
  | false =>
   have h2 := yaV h1
   simp only [Bool.false_eq_true, if_false] at h2
   have ht := ye3 (lim := 512) hv (by omega) h2
   simp [ygF, yj8, hk1, ht, yf7]
   omega
theorem yCL {l r : List UInt8} {a : Nat} {b : PBatch} (hb : ybD b = 0) (h : l.drop a = ydH b ++ r) : yvX l a = some (b, a + (ydH b).length) := by
 have G := BatGood.of hb
 have hhd := G.hd
 have hlr := G.lr
 unfold ydH at h
 rw [List.append_assoc] at h
 have h2 := yaV h
 have t1 := yhL (f := yfA) (enc := yaJ) (ycH b) (fun x hx a r hh => yfV (by have := G.le x hx; omega) hh) a _ h
 have t2 := yhL (f := yqF) (enc := yf7) b.recs (fun x hx a r hh => yuJ (G.r x hx) hh) _ _ h2
 have e4 : (ycH b).length = 4 := rfl
 rw [e4] at t1
 unfold yvX hdA
 rw [t1]
 simp only [Option.bind_some, ycH]
 rw [if_pos (by omega)]
 simp only [Option.bind_some]
 simp only [ycH] at t2
 rw [t2, Option.map_some]
 have e1 : ((b.prod.toNat : Nat) : Int) = b.prod := by omega
 have e2 : ((b.epoch.toNat : Nat) : Int) = b.epoch := by omega
 have e3 : ((b.seq.toNat : Nat) : Int) = b.seq := by omega
 rw [e1, e2, e3]
 show some (b, _) = _
 simp only [ydH, ycH, List.length_append, Nat.add_assoc]
theorem ynP {α : Type} {f : many α} {l : List UInt8} (hf : ∀ a x b, f l a = some (x, b) → a ≤ b ∧ b ≤ l.length) : ∀ (k a : Nat) {xs : List α} {b : Nat}, a ≤ l.length → ycE f l k a = some (xs, b) → a ≤ b ∧ b ≤ l.length ∧ xs.length = k
 | 0, a, xs, b, ha, h => by simp [ycE] at h; obtain ⟨rfl, rfl⟩ := h; simp; omega
 | k + 1, a, xs, b, ha, h => by
  simp only [ycE] at h
  cases hp : f l a with
  | none => rw [hp] at h; cases h
  | some p =>
   rw [hp, Option.bind_some] at h
   have h1 := hf a p.1 p.2 hp
   cases hq : ycE f l k p.2 with
   | none => rw [hq] at h; cases h
   | some q =>
    rw [hq] at h
    have h2 := ynP hf k p.2 h1.2 (xs := q.1) (b := q.2) hq
    simp at h
    obtain ⟨rfl, rfl⟩ := h
    simp; omega
theorem ygJ {l : List UInt8} {a n b : Nat} (h : yfA l a = some (n, b)) : a < b ∧ b ≤ l.length ∧ n < 18446744073709551616 := by
 unfold yfA at h
 cases hv : vg 0 (l.drop a) with
 | none => rw [hv] at h; cases h
 | some p =>
  have h1 := yp0 _ (n := p.1) (m := p.2) hv
  have h2 := yE3 _ (n := p.1) (m := p.2) (by omega) hv
  rw [hv] at h
  rw [List.length_drop] at h1
  simp at h h2
  omega
theorem ynQ {l : List UInt8} {a b lim : Nat} {t : BA} (h : yl9 lim l a = some (t, b)) : a < b ∧ b ≤ l.length ∧ t.size ≤ lim := by
 unfold yl9 at h
 cases hv : tg lim (l.drop a) with
 | none => rw [hv] at h; cases h
 | some p =>
  have h1 := ylL (t := p.1) (m := p.2) hv
  rw [hv] at h
  rw [List.length_drop] at h1
  simp at h
  obtain ⟨rfl, rfl⟩ := h
  omega
def Rd (T : TypeId) (s : BA) (br : Nat) (st : Option Nat) (w : World) : Prop :=
 ∃ (a : Nat) (e : Int), w.heap[br]? = some (.cells #[.string s, .int .i64 (a : Nat), .int .i64 e] T) ∧ a ≤ s.size ∧ st = if e = 0 then some a else none
theorem Rd.keep0 {T : TypeId} {s : BA} {br : Nat} {st : Option Nat} {w w' : World} (h : Rd T s br st w) (M : Mod [] w w') : Rd T s br st w' := by
 obtain ⟨a, e, h1, h2, h3⟩ := h; exact ⟨a, e, M.keep0 h1, h2, h3⟩
theorem Rd.keep {T : TypeId} {s : BA} {br : Nat} {st : Option Nat} {S : List Nat} {w w' : World} (h : Rd T s br st w) (M : Mod S w w') (hS : br ∉ S) : Rd T s br st w' := by
 obtain ⟨a, e, h1, h2, h3⟩ := h; exact ⟨a, e, M.keep h1 hS, h2, h3⟩
theorem Rd.lt {T : TypeId} {s : BA} {br : Nat} {st : Option Nat} {w : World} (h : Rd T s br st w) : br < w.heap.size := by
 obtain ⟨a, e, h1, _⟩ := h; exact yaX h1
theorem stB {α β : Type} {st st1 : Option Nat} {c : α} {f : Nat → Option (α × Nat)} {g : α × Nat → Option β} (h : st.bind f = st1.map fun a => (c, a)) : (st.bind fun a => (f a).bind g) = st1.bind fun a => g (c, a) := by
 have e : (st.bind fun a => (f a).bind g) = (st.bind f).bind g := (Option.bind_assoc ..).symm
 rw [e, h]
 cases st1 <;> rfl
abbrev RT : TypeId := 181
abbrev RdC {α : Type} (T : TypeId) (s : BA) (br : Nat) (w : World) (r : Option (α × Nat)) (w' : World) (v : α) : Prop := Mod [br] w w' ∧ ∃ st', Rd T s br st' w' ∧ r = st'.map fun a => (v, a)
theorem yvY {s : BA} {br : Nat} {st : Option Nat} {w : World} (hs : s.size ≤ 1000000000000) (h : Rd RT s br st w) :
  Calls pP 171 #[.pointer (some ⟨br, 0, none⟩)] w fun e w' => ∃ v, e = .returned v ∧ ∃ n : Nat, v = .int .u64 (n : Nat) ∧ n < 18446744073709551616 ∧ RdC RT s br w (st.bind (yfA s.data.toList)) w' n := by
 obtain ⟨a, e, h1, ha, rfl⟩ := h
 refine yI0 h1 ?_
 refine yaB (fun g => ?_) fun g => ?_
 ·have g : e ≠ 0 := by simpa using g
  intro w1 A1 h2
  exact ⟨0, rfl, by omega, A1.mod.less (by simp), none, ⟨a, e, h2, ha, by rw [if_neg g]⟩, by rw [if_neg g]; rfl⟩
 have g : e = 0 := by simpa using g
 subst g
 intro w2 A2
 refine (ygH s a hs ha w2).mono ?_
 rintro e w3 ⟨v, rfl, hv, rfl⟩
 rw [if_pos rfl]
 cases hg : vg 0 (s.data.toList.drop a) with
 | none =>
  rw [hg] at hv
  obtain ⟨e, he, rfl⟩ := hv
  refine ⟨_, _, _, rfl, yaE.of0 (Mod.refl _), fun w7 A7 h7 => ⟨0, rfl, by omega, (A2.mod.trans A7.mod).less (by simp), none, ⟨0, e, h7, by omega, by rw [if_neg he]⟩, ?_⟩⟩
  simp [yfA, hg]
 | some p =>
  rw [hg] at hv
  have hv : v = .tuple #[.int .u64 (p.1 : Nat), .int .i64 ((a + p.2 : Nat) : Int), .int .i64 0] := hv
  subst hv
  have h8 := ygJ (l := s.data.toList) (a := a) (n := p.1) (b := a + p.2) (by simp [yfA, hg])
  have el : s.data.toList.length = s.size := by simp
  refine ⟨_, _, _, rfl, yaE.of0 (Mod.refl _), fun w7 A7 h7 => ⟨p.1, rfl, h8.2.2, (A2.mod.trans A7.mod).less (by simp), some (a + p.2), ⟨a + p.2, 0, h7, by omega, rfl⟩, ?_⟩⟩
  simp [yfA, hg]
theorem yuK {s : BA} {br : Nat} {st : Option Nat} {w : World} (hs : s.size ≤ 1000000000000) (h : Rd RT s br st w) (has : Bool) (lim : Nat) (hl : lim ≤ 1000000) :
  Calls pP 138 #[.pointer (some ⟨br, 0, none⟩), .bool has, .int .i64 (lim : Nat)] w fun e w' => ∃ v, e = .returned v ∧ ∃ t : BA, v = .string t ∧ RdC RT s br w (st.bind (yj8 has lim s.data.toList)) w' t := by
 obtain ⟨a, e, h1, ha, rfl⟩ := h
 refine yIZ h1 ?_
 refine yaB (fun g => ?_) fun g => ?_
 ·have g : e ≠ 0 := by simpa using g
  intro w1 A1 h2
  exact ⟨_, rfl, A1.mod.less (by simp), none, ⟨a, e, h2, ha, by rw [if_neg g]⟩, by rw [if_neg g]; rfl⟩
 have g : e = 0 := by simpa using g
 subst g
 rw [if_pos rfl]
 refine yaB (fun g => ?_) fun g => ?_
 ·have g : has = false := by simpa using g
  subst g
  intro w1 A1 h2
  exact ⟨_, rfl, A1.mod.less (by simp), some a, ⟨a, 0, h2, ha, by rw [if_pos rfl]⟩, rfl⟩
 have g : has = true := by simpa using g
 subst g
 intro w2 A2
 refine (ydN s a lim hs ha (by omega) w2).mono ?_
 rintro e w3 ⟨v, rfl, hv, rfl⟩
 cases hg : tg lim (s.data.toList.drop a) with
 | none =>
  rw [hg] at hv
  obtain ⟨e, he, rfl⟩ := hv
  refine ⟨_, _, _, rfl, yaE.of0 (Mod.refl _), fun w7 A7 h7 => ⟨_, rfl, (A2.mod.trans A7.mod).less (by simp), none, ⟨0, e, h7, by omega, by rw [if_neg he]⟩, ?_⟩⟩
  simp [yj8, yl9, hg]
 | some p =>
  rw [hg] at hv
  have hv : v = .tuple #[.string p.1, .int .i64 ((a + p.2 : Nat) : Int), .int .i64 0] := hv
  subst hv
  have h8 := ynQ (lim := lim) (l := s.data.toList) (a := a) (t := p.1) (b := a + p.2) (by simp [yl9, hg])
  have el : s.data.toList.length = s.size := by simp
  refine ⟨_, _, _, rfl, yaE.of0 (Mod.refl _), fun w7 A7 h7 => ⟨p.1, rfl, (A2.mod.trans A7.mod).less (by simp), some (a + p.2), ⟨a + p.2, 0, h7, by omega, rfl⟩, ?_⟩⟩
  simp [yj8, yl9, hg]
theorem yAJ {s : BA} {br : Nat} {st : Option Nat} {w : World} (hs : s.size ≤ 1000000000000) (h : Rd RT s br st w) :
  Calls pP 137 #[.pointer (some ⟨br, 0, none⟩)] w fun e w' => ∃ v, e = .returned v ∧ ∃ c : Nat, v = .int .u8 (c : Nat) ∧ c < 256 ∧ RdC RT s br w (st.bind (yCK s.data.toList)) w' c := by
 obtain ⟨a, e, h1, ha, rfl⟩ := h
 refine yI1 h1 ?_
 refine yaB (fun g => ?_) fun g => ?_
 ·have g : e ≠ 0 := by simpa using g
  intro w1 A1 h2
  exact ⟨0, rfl, by omega, A1.mod.less (by simp), none, ⟨a, e, h2, ha, by rw [if_neg g]⟩, by rw [if_neg g]; rfl⟩
 have g : e = 0 := by simpa using g
 subst g
 rw [if_pos rfl]
 refine yaC (fun g => by omega) fun _ => yaC (fun g => by omega) fun _ => ?_
 refine yaB (fun g => ?_) fun g => ?_
 ·have g : (a : Int) = s.size := by simpa using g
  have g : a = s.size := by omega
  intro w1 A1 h2
  refine ⟨0, rfl, by omega, A1.mod.less (by simp), none, ⟨a, 10, h2, ha, by rw [if_neg (by decide)]⟩, ?_⟩
  simp [yCK, g]
 have g : ¬ (a : Int) = s.size := by simpa using g
 have hlt : a < s.size := by omega
 obtain ⟨c, hc, hcv⟩ := ycN hlt
 have hc8 := c.toNat_lt
 refine ⟨by omega, by omega, ?_⟩
 rw [Int.toNat_natCast, hcv]
 have ew : iw .i64 ((a : Int) + 1) = ((a + 1 : Nat) : Int) := by rw [yaH (by omega) (by omega)]; omega
 rw [ew]
 have ok : ∀ {w1}, Adv [br] [] w w1 → w1.heap[br]? = some (.cells #[.string s, .int .i64 ((a + 1 : Nat) : Int), .int .i64 0] RT) → (c.toNat = 0 ∨ c.toNat = 1 ∨ c.toNat = 3) → ∃ k : Nat, Value.int .u8 (c.toNat : Nat) = .int .u8 (k : Nat) ∧ k < 256 ∧ RdC RT s br w ((some a).bind (yCK s.data.toList)) w1 k := fun {w1} A1 h2 h3 => by
  refine ⟨c.toNat, rfl, by omega, A1.mod, some (a + 1), ⟨a + 1, 0, h2, by omega, rfl⟩, ?_⟩
  simp only [Option.bind_some, yCK, hc, if_pos h3]; rfl
 refine yaB (fun g0 => ?_) fun g0 => ?_
 ·have g0 : ¬ (c.toNat : Int) = 0 := by simpa using g0
  refine yaB (fun g1 => ?_) fun g1 => ?_
  ·have g1 : ¬ (c.toNat : Int) = 1 := by simpa using g1
   refine yaB (fun g2 => ?_) fun g2 => ?_
   ·have g2 : ¬ (c.toNat : Int) = 3 := by simpa using g2
    intro w1 A1 h2
    refine ⟨c.toNat, rfl, by omega, A1.mod, none, ⟨a + 1, 30, h2, by omega, by rw [if_neg (by decide)]⟩, ?_⟩
    simp only [Option.bind_some, yCK, hc]
    rw [if_neg (by omega)]; rfl
   ·have g2 : (c.toNat : Int) = 3 := by simpa using g2
    intro w1 A1 h2
    exact ok A1 h2 (by omega)
  ·have g1 : (c.toNat : Int) = 1 := by simpa using g1
   intro w1 A1 h2
   exact ok A1 h2 (by omega)
 ·have g0 : (c.toNat : Int) = 0 := by simpa using g0
  intro w1 A1 h2
  exact ok A1 h2 (by omega)
theorem yLt : ∀ c : Fin 256, (ykS .u8 ((c.val : Nat) : Int) 1 != 0) = decide (c.val % 2 = 1) := by decide +kernel
theorem yLu : ∀ c : Fin 256, (ykS .u8 ((c.val : Nat) : Int) 2 != 0) = decide (c.val / 2 % 2 = 1) := by decide +kernel
theorem ymA {s : BA} {br : Nat} {st : Option Nat} {w : World} (hs : s.size ≤ 1000000000000) (h : Rd RT s br st w) :
  Calls pP 132 #[.pointer (some ⟨br, 0, none⟩)] w fun e w' => ∃ v, e = .returned v ∧ ∃ x : PRec, v = x.v ∧ RdC RT s br w (st.bind (yqF s.data.toList)) w' x := by
 have hlt := h.lt
 obtain ⟨a, e, h1, ha, hst⟩ := h
 refine yI2 h1 ?_
 intro b1 f1 w2 A2 h2
 have h : Rd RT s br st w2 := ⟨a, e, h2, ha, hst⟩
 have l1 := A2.lt b1 (by simp)
 have s2 := A2.mod.size
 refine (yAJ hs h).mono ?_
 rintro _ w3 ⟨_, rfl, c, rfl, hc, M3, st1, ⟨a3, e3, h3, ha3, he3⟩, q1⟩
 refine ⟨_, rfl, yaE.ofE M3 fun k hk hl he => by simp at hk ⊢ <;> omega, _, _, _, h3, ?_⟩
 have s3 := M3.size
 have b0 : (ykS .u8 (c : Int) 1 != 0) = decide (c % 2 = 1) := yLt ⟨c, hc⟩
 have b1' : (ykS .u8 (c : Int) 2 != 0) = decide (c / 2 % 2 = 1) := yLu ⟨c, hc⟩
 have b2' : (!decide (c / 2 % 2 = 1)) = decide (c / 2 % 2 = 0) := by
  rw [Bool.eq_iff_iff]; simp
 rw [b0, b1', b2']
 intro b8 f8 w9 A9 h9
 have l9 := A9.lt b8 (by simp)
 have s9 := A9.mod.size
 refine (yuK hs (st := st1) ⟨a3, e3, h9, ha3, he3⟩ (decide (c % 2 = 1)) 64 (by omega)).mono ?_
 rintro _ w10 ⟨_, rfl, key, rfl, M10, st2, ⟨a10, e10, h10, ha10, he10⟩, q2⟩
 refine ⟨_, rfl, yaE.ofE M10 fun k hk hl he => by simp at hk ⊢ <;> omega, _, _, _, h10, ?_⟩
 intro w15 A15 h15
 refine (yuK hs (st := st2) ⟨a10, e10, h15, ha10, he10⟩ (decide (c / 2 % 2 = 0)) 512 (by omega)).mono ?_
 rintro _ w16 ⟨_, rfl, val, rfl, M16, st3, ⟨a16, e16, h16, ha16, he16⟩, q3⟩
 have s10 := M10.size
 have s15 := A15.mod.size
 refine ⟨_, rfl, yaE.ofE M16 fun k hk hl he => by simp at hk ⊢ <;> omega, _, _, _, h16, ?_⟩
 intro w21 A21 h21
 refine ⟨⟨decide (c % 2 = 1), key, decide (c / 2 % 2 = 1), val⟩, rfl, ?_, st3, ⟨a16, e16, h21, ha16, he16⟩, ?_⟩
 ·refine ((((((A2.mod.trans M3).trans A9.mod).trans M10).trans A15.mod).trans M16).trans A21.mod).less fun k hk hl => ?_
  simp at hk ⊢
  omega
 ·unfold yqF
  have r3 := stB (g := fun r : BA × Nat => some ((⟨decide (c % 2 = 1), key, decide (c / 2 % 2 = 1), r.1⟩ : PRec), r.2)) q3
  have r2 := stB (g := fun q : BA × Nat => (yj8 (decide (c / 2 % 2 = 0)) 512 s.data.toList q.2).bind fun r => some ((⟨decide (c % 2 = 1), q.1, decide (c / 2 % 2 = 1), r.1⟩ : PRec), r.2)) q2
  refine (stB q1).trans (r2.trans (r3.trans ?_))
  cases st3 <;> rfl
def yqY (xs : List Nat) (j : Nat) : Nat := min (xs.getD j 0)  1099511627776
theorem yKc (n : Nat) (h : n < 18446744073709551616) : iw .i64 (if (1099511627776 : Int) < (n : Nat) then 1099511627776 else (n : Nat)) = ((min n 1099511627776 : Nat) : Int) := by
 split
 ·rw [yaH (by omega) (by omega)]; omega
 ·rw [yaH (by omega) (by omega)]; omega
theorem stT {α : Type} {st st1 : Option Nat} {x : α} {xs : List α} {k : Nat} {f : many α} {l : List UInt8} (h : st.bind (f l) = st1.map fun a => (x, a)) :
  (st.bind fun a => (ycE f l (k + 1) a).map fun p => (xs ++ p.1, p.2)) = st1.bind fun a => (ycE f l k a).map fun p => ((xs ++ [x]) ++ p.1, p.2) := by
 have e : (st.bind fun a => (ycE f l (k + 1) a).map fun p => (xs ++ p.1, p.2)) = st.bind fun a => (f l a).bind fun q => (ycE f l k q.2).map fun p => ((xs ++ [q.1]) ++ p.1, p.2) := by
  cases st with
  | none => rfl
  | some a =>
   simp only [Option.bind_some, ycE]
   cases f l a with
   | none => rfl
   | some q =>
    simp only [Option.bind_some, Option.map_map]
    congr 1
    funext p
    simp
 rw [e, stB h]
theorem yLv {xs : List Nat} {n : Nat} (h : ((xs.take 3).any fun x => decide (x > 1099511627776)) = true) : true = (((xs ++ [n]).take 3).any fun x => decide (x > 1099511627776)) := by
 rw [List.take_append, List.any_append, h]; rfl
theorem yLw {xs : List Nat} {n : Nat} (h : ((xs.take 3).any fun x => decide (x > 1099511627776)) = false) (hl : xs.length < 3) : decide ((n : Int) > 1099511627776) = (((xs ++ [n]).take 3).any fun x => decide (x > 1099511627776)) := by
 rw [List.take_append, List.any_append, h]
 have e : 3 - xs.length = (2 - xs.length) + 1 := by omega
 rw [e, List.take_succ_cons]
 simp
 omega
theorem yKd {xs : List Nat} {n : Nat} (h : ((xs.take 3).any fun x => decide (x > 1099511627776)) = false) (hl : ¬ xs.length < 3) : false = (((xs ++ [n]).take 3).any fun x => decide (x > 1099511627776)) := by
 rw [List.take_append, List.any_append, h]
 have e : 3 - xs.length = 0 := by omega
 rw [e]; rfl
set_option maxHeartbeats 1000000 in
theorem ysL {s : BA} {br : Nat} {st : Option Nat} {w : World} (hs : s.size ≤ 1000000000000) (h : Rd RT s br st w) :
  Calls pP 170 #[.pointer (some ⟨br, 0, none⟩)] w fun e w' => ∃ v, e = .returned v ∧ ∃ x y z k : Nat, v = .agg #[.int .i64 (x : Nat), .int .i64 (y : Nat), .int .i64 (z : Nat), .int .i64 (k : Nat)] ∧ k ≤  1099511627776 ∧
   Mod [br] w w' ∧ ∃ st', Rd RT s br st' w' ∧ (st.bind (hdA s.data.toList) = st'.map fun a => ([x, y, z, k], a)) ∧ (st' = none ∨ 1 ≤ k ∧ k ≤ 16) := by
 have hlt := h.lt
 obtain ⟨a, e, h1, ha, hst⟩ := h
 refine yI5 h1 ?_
 intro b1 f1 b2 f2 w2 A2 h2 h3
 have s2 := A2.mod.size
 refine yAE (fun mm big i s0 a0 e0 c0 c1 c2 c3 w' => ∃ (xs : List Nat) (a : Nat) (st1 : Option Nat), i = xs.length ∧ xs.length ≤ 4 ∧ s0 = s ∧ a0 = a ∧ a ≤ s.size ∧ (st1 = if e0 = 0 then some a else none) ∧ Mod [br] w w' ∧
  (st.bind (ycE yfA s.data.toList 4) = st1.bind fun a => (ycE yfA s.data.toList (4 - xs.length) a).map fun p => (xs ++ p.1, p.2)) ∧ big = ((xs.take 3).any fun x => decide (x >  1099511627776)) ∧
  c0 = (yqY xs 0 : Nat) ∧ c1 = (yqY xs 1 : Nat) ∧ c2 = (yqY xs 2 : Nat) ∧ c3 = (yqY xs 3 : Nat) ∧ mm = 4 - xs.length) 4
  ⟨[], a, st, rfl, by decide, rfl, rfl, ha, hst, A2.mod.less (by simp), by simp, rfl, rfl, rfl, rfl, rfl, rfl⟩ ?_
 rintro mm big i s0 a0 e0 c0 c1 c2 c3 w3 ⟨xs, a3, st3, rfl, hx4, rfl, rfl, ha3, he3, M3, q3, rfl, rfl, rfl, rfl, rfl, rfl⟩ h31 h32
 have s3 := M3.size
 refine yaC (fun hlt4 => ?_) fun hge => ?_
 ·have hlt4 : xs.length < 4 := by omega
  refine (yvY hs (st := st3) ⟨a3, e0, h31, ha3, he3⟩).mono ?_
  rintro _ w4 ⟨_, rfl, n, rfl, hn, M4, st4, ⟨a4, e4, h4, ha4, he4⟩, q4⟩
  have s4 := M4.size
  have hk4 : 4 - xs.length = (4 - (xs.length + 1)) + 1 := by omega
  have q5 : st.bind (ycE yfA s0.data.toList 4) = st4.bind fun a => (ycE yfA s0.data.toList (4 - (xs ++ [n]).length) a).map fun p => ((xs ++ [n]) ++ p.1, p.2) := by
   rw [q3, hk4, List.length_append]
   exact stT q4
  by_cases hb20 : b2 = br
  ·omega
  refine ⟨_, rfl, yaE.ofE M4 fun k hk hl he => by simp at hk he ⊢; omega, _, _, _, h4, _, _, _, _, M4.keep h32 (by simpa using hb20), ?_⟩
  have h42 := M4.keep h32 (by simpa using hb20)
  have key : ∀ {F : BA → Int → Int → Int → Int → Int → Int → World → Prop}, (∀ w5, w5.heap[br]? = some (.cells #[.string s0, (.int .i64 (a4 : Nat)), .int .i64 e4] 181) → Mod [br] w w5 →
    F s0 (a4 : Nat) e4 (yqY (xs ++ [n]) 0 : Nat) (yqY (xs ++ [n]) 1 : Nat) (yqY (xs ++ [n]) 2 : Nat) (yqY (xs ++ [n]) 3 : Nat) w5) → 0 ≤ (xs.length : Int) ∧ (xs.length : Int) < ((4 : Nat) : Int) ∧
   Go.Proofs.YtkbcmppbjfpjmaaGreat.st w4 (Addr.add ⟨b2, 0, none⟩ (Int.toNat (xs.length : Int) * 1)) [(.int .i64 (iw .i64 (if 1099511627776 < (n : Int) then 1099511627776 else (n : Int))))] fun w12 => ya2 [br, b2] [(b1, 205)] [b1] w4 w12 ∧ ∃ (s13 : BA) (x14 x15 : Int), w12.heap[br]? = some (.cells #[.string s13, .int .i64 x14, .int .i64 x15] 181) ∧ ∃ x16 x17 x18 x19 : Int, w12.heap[b2]? = some (.cells #[.int .i64 x16, .int .i64 x17, .int .i64 x18, .int .i64 x19] 205) ∧ F s13 x14 x15 x16 x17 x18 x19 w12 := by
   intro F hF
   refine ⟨by omega, by omega, ?_⟩
   rw [yKc n hn, ya3]
   have hi : 0 + Int.toNat (xs.length : Int) * 1 = xs.length := by omega
   rw [hi]
   refine ydR h42 rfl (by simp; omega) fun w5 h5 M5 => ⟨yaE.ofE M5 fun k hk hl he => by simp at hk he ⊢; omega, _, _, _, M5.keep h4 (by simpa using Ne.symm hb20), (yqY (xs ++ [n]) 0 : Nat), (yqY (xs ++ [n]) 1 : Nat), (yqY (xs ++ [n]) 2 : Nat), (yqY (xs ++ [n]) 3 : Nat), ?_, hF w5 (M5.keep h4 (by simpa using Ne.symm hb20)) ?_⟩
   ·rw [h5]
    rcases xs with _ | ⟨x0, _ | ⟨x1, _ | ⟨x2, _ | ⟨x3, xs⟩⟩⟩⟩
    ·rfl
    ·rfl
    ·rfl
    ·rfl
    ·simp at hlt4; omega
   ·exact (M3.via M4 (by simp)).via M5 (by simp; omega)
  refine yaB (fun g => ?_) fun g => yaC (fun g2 => ?_) fun g2 => ?_
  ·refine key fun w5 h5 M5 => yj6 (4 - (xs ++ [n]).length) (by rw [List.length_append]; simp; omega) ⟨xs ++ [n], a4, st4, by rw [yaH (by omega) (by omega), List.length_append]; simp, by rw [List.length_append]; simp; omega, rfl, rfl, ha4, he4, M5, q5, ?_, rfl, rfl, rfl, rfl, rfl⟩
   exact yLv g
  ·refine key fun w5 h5 M5 => yj6 (4 - (xs ++ [n]).length) (by rw [List.length_append]; simp; omega) ⟨xs ++ [n], a4, st4, by rw [yaH (by omega) (by omega), List.length_append]; simp, by rw [List.length_append]; simp; omega, rfl, rfl, ha4, he4, M5, q5, ?_, rfl, rfl, rfl, rfl, rfl⟩
   exact yLw g (by omega)
  ·refine key fun w5 h5 M5 => yj6 (4 - (xs ++ [n]).length) (by rw [List.length_append]; simp; omega) ⟨xs ++ [n], a4, st4, by rw [yaH (by omega) (by omega), List.length_append]; simp, by rw [List.length_append]; simp; omega, rfl, rfl, ha4, he4, M5, q5, ?_, rfl, rfl, rfl, rfl, rfl⟩
   exact yKd g (by omega)
 ·have hx : xs.length = 4 := by omega
  obtain ⟨x, y, z, k, rfl⟩ : ∃ x y z k, xs = [x, y, z, k] := by
   rcases xs with _ | ⟨x0, _ | ⟨x1, _ | ⟨x2, _ | ⟨x3, _ | ⟨x4, xs⟩⟩⟩⟩⟩ <;> simp at hx
   exact ⟨_, _, _, _, rfl⟩
  have q4 : st.bind (hdA s0.data.toList) = st3.bind fun a => if x ≤ 1099511627776 ∧ y ≤ 1099511627776 ∧ z ≤ 1099511627776 ∧ 1 ≤ k ∧ k ≤ 16 then some ([x, y, z, k], a) else none := by
   unfold hdA
   have e := Option.bind_assoc (x := st) (f := ycE yfA s0.data.toList 4) (g := fun p => match p.1 with
    | [x, y, z, k] => if x ≤ 1099511627776 ∧ y ≤ 1099511627776 ∧ z ≤ 1099511627776 ∧ 1 ≤ k ∧ k ≤ 16 then some p else none
    | _ => none)
   refine e.symm.trans ?_
   rw [q3]
   cases st3 with
   | none => rfl
   | some a => rfl
  have hbig : (([x, y, z, k].take 3).any fun x => decide (x > 1099511627776)) = false → x ≤ 1099511627776 ∧ y ≤ 1099511627776 ∧ z ≤ 1099511627776 := by
   intro h; simp at h; omega
  have hbig2 : (([x, y, z, k].take 3).any fun x => decide (x > 1099511627776)) = true → ¬ (x ≤ 1099511627776 ∧ y ≤ 1099511627776 ∧ z ≤ 1099511627776) := by
   intro h; simp at h; omega
  have hcut : ∀ x, x ≤ 1099511627776 → min x 1099511627776 = x := fun x h => by omega
  have c0 : yqY [x, y, z, k] 0 = min x 1099511627776 := rfl
  have c1 : yqY [x, y, z, k] 1 = min y 1099511627776 := rfl
  have c2 : yqY [x, y, z, k] 2 = min z 1099511627776 := rfl
  have c3 : yqY [x, y, z, k] 3 = min k 1099511627776 := rfl
  rw [c0, c1, c2, c3]
  have bad : ∀ {w5 : World} {e5 : Int}, Mod [br] w w5 → w5.heap[br]? = some (.cells #[.string s0, (.int .i64 (a3 : Nat)), .int .i64 e5] RT) → e5 ≠ 0 → st3.bind (fun a => if x ≤ 1099511627776 ∧ y ≤ 1099511627776 ∧ z ≤ 1099511627776 ∧ 1 ≤ k ∧ k ≤ 16 then some ([x, y, z, k], a) else none) = none →
    ∃ x' y' z' k' : Nat, Value.agg #[.int .i64 ((min x 1099511627776 : Nat) : Int), .int .i64 ((min y 1099511627776 : Nat) : Int), .int .i64 ((min z 1099511627776 : Nat) : Int), .int .i64 ((min k 1099511627776 : Nat) : Int)] = .agg #[.int .i64 (x' : Nat), .int .i64 (y' : Nat), .int .i64 (z' : Nat), .int .i64 (k' : Nat)] ∧ k' ≤ 1099511627776 ∧
    Mod [br] w w5 ∧ ∃ st', Rd RT s0 br st' w5 ∧ (st.bind (hdA s0.data.toList) = st'.map fun a => ([x', y', z', k'], a)) ∧ (st' = none ∨ 1 ≤ k' ∧ k' ≤ 16) := fun {w5 e5} M5 h5 he hn => by
   refine ⟨min x 1099511627776, min y 1099511627776, min z 1099511627776, min k 1099511627776, rfl, by omega, M5, none, ⟨a3, e5, h5, ha3, by rw [if_neg he]⟩, ?_, .inl rfl⟩
   rw [q4, hn]; rfl
  refine yaB (fun g => ?_) fun g => ?_
  ·have g : e0 ≠ 0 := by simpa using g
   intro w5 A5 h5 _
   refine bad (M3.via A5.mod (by simp; omega)) h5 g ?_
   rw [he3, if_neg g]; rfl
  have g : e0 = 0 := by simpa using g
  rw [if_pos g] at he3
  subst he3
  refine yaB (fun g1 => ?_) fun g1 => ?_
  ·intro w5 A5 h5 _
   refine bad (M3.via A5.mod (by simp; omega)) h5 (by decide) ?_
   have := hbig2 g1
   exact if_neg (by omega)
  have g1 := hbig g1
  refine yaB (fun g2 => ?_) fun g2 => ?_
  ·have g2 : ((min k 1099511627776 : Nat) : Int) = 0 := by simpa using g2
   intro w5 A5 h5 _
   refine bad (M3.via A5.mod (by simp; omega)) h5 (by decide) ?_
   exact if_neg (by omega)
  have g2 : ¬ ((min k 1099511627776 : Nat) : Int) = 0 := by simpa using g2
  refine yaC (fun g3 => ?_) fun g3 => ?_
  ·intro w5 A5 h5 _
   refine bad (M3.via A5.mod (by simp; omega)) h5 (by decide) ?_
   exact if_neg (by omega)
  ·intro w5 A5 h5 _
   rw [hcut x (by omega), hcut y (by omega), hcut z (by omega), hcut k (by omega)]
   refine ⟨x, y, z, k, rfl, by omega, M3.via A5.mod (by simp; omega), some a3, ⟨a3, 0, by rw [h5, g], ha3, rfl⟩, ?_, .inr (by omega)⟩
   rw [q4]
   exact if_pos (by omega)
def yD4 (w0 w : World) : Option (PBatch × Nat) → Value → Prop
 | some (b, a), v => ∃ rs : Sl, v = .tuple #[b.v rs, .int .i64 (a : Nat), .int .i64 0] ∧ Row w w0.heap.size 53 4 ye7 rs.a rs.n rs.c b.recs ∧ b.recs.length ≤ 16
 | none, v => ∃ e : Int, e ≠ 0 ∧ v = .tuple #[.agg #[.int .i64 0, .int .i64 0, .int .i64 0, .slice none 0 0], .int .i64 0, .int .i64 e]
set_option maxHeartbeats 1000000 in
theorem yCM (s : BA) (a : Nat) (hs : s.size ≤ 1000000000000) (ha : a ≤ s.size) (w : World) :
  Calls pP 169 #[.string s, .int .i64 (a : Nat)] w fun e w' => ∃ v, e = .returned v ∧ yD4 w w' (yvX s.data.toList a) v ∧ Mod [] w w' := by
 refine yI8 ?_
 intro b1 f1 b2 f2 w3 A3 h3
 have l3 := A3.lt b2 (by simp)
 have l31 := A3.lt b1 (by simp)
 have s3 := A3.mod.size
 refine (ysL (st := some a) hs ⟨a, 0, h3, ha, rfl⟩).mono ?_
 rintro _ w4 ⟨_, rfl, x, y, z, k, rfl, hk, M4, st4, ⟨a4, e4, h4, ha4, he4⟩, q4, hst4⟩
 have s4 := M4.size
 refine ⟨_, _, _, _, rfl, yaE.ofE M4 fun k hk hl he => by simp at hk he ⊢; omega, _, _, _, h4, ?_⟩
 intro b12 f12 b13 f13 w5 A5 h5
 have l13 := A5.lt b13 (by simp)
 have l12 := A5.lt b12 (by simp)
 have s5 := A5.mod.size
 have N5 : Mod [] w w5 := (A3.mod.go0 M4 (by simp; omega)).go0 A5.mod (by simp)
 have qb : yvX s.data.toList a = (st4.bind fun a => (ycE yqF s.data.toList k a).map fun q => (q.1, q.2)).map fun q => (⟨(x : Nat), (y : Nat), (z : Nat), q.1⟩, q.2) := by
  have q4 : hdA s.data.toList a = st4.map fun a => ([x, y, z, k], a) := q4
  unfold yvX
  rw [q4]
  cases st4 with
  | none => rfl
  | some a =>
   show Option.map _ _ = _
   simp only [Option.bind_some, Option.map_map]
   congr 1
 refine yAG (fun mm i s0 a0 e0 ar nr cr w' => ∃ (j : Nat) (xs : List PRec) (a1 : Nat) (st1 : Option Nat), i = j ∧ xs.length = j ∧ j ≤ k ∧ (st1 = none ∨ k ≤ 16) ∧ s0 = s ∧ a0 = a1 ∧ a1 ≤ s.size ∧ (st1 = if e0 = 0 then some a1 else none) ∧ Mod [] w w' ∧ w5.heap.size ≤ w'.heap.size ∧
  (st4.bind fun a => (ycE yqF s.data.toList k a).map fun q => (q.1, q.2)) = (st1.bind fun a => (ycE yqF s.data.toList (k - j) a).map fun p => (xs ++ p.1, p.2)) ∧ Row w' w5.heap.size 53 4 ye7 ar nr cr xs ∧ mm = k - j) k
  ⟨0, [], a4, st4, rfl, rfl, by omega, by rcases hst4 with h | h; exact .inl h; exact .inr h.2, rfl, rfl, ha4, he4, N5, Nat.le_refl _, by simp, Row.nil .., rfl⟩ ?_
 rintro mm i s0 a0 e0 ar nr cr w6 ⟨j, xs, a1, st1, rfl, hxl, hjk, hk16, rfl, rfl, ha1, he1, N6, s6, q6, hRow, rfl⟩ h6
 have fin0 : ∀ {w7}, e0 ≠ 0 → Adv [b1] [] w6 w7 → yD4 w w7 (yvX s0.data.toList a) (.tuple #[.agg #[.int .i64 0, .int .i64 0, .int .i64 0, .slice none 0 0], .int .i64 0, .int .i64 e0]) ∧ Mod [] w w7 := fun {w7} he A7 => by
  rw [he1, if_neg he] at q6
  rw [qb, q6]
  exact ⟨⟨e0, he, rfl⟩, N6.go0 A7.mod (by simpa using f1)⟩
 refine yaB (fun g => ?_) fun g => ?_
 ·have g : e0 = 0 := by simpa using g
  subst g
  rw [if_pos rfl] at he1
  subst he1
  have hk16 : k ≤ 16 := by simpa using hk16
  refine yaC (fun hlt => ?_) fun hge => ?_
  ·have hlt : j < k := by omega
   intro w7 A7 h7
   have s7 := A7.mod.size
   refine (ymA (st := some a1) hs ⟨a1, 0, h7, ha1, rfl⟩).mono ?_
   rintro _ w8 ⟨_, rfl, r, rfl, M8, st8, ⟨a8, e8, h8, ha8, he8⟩, q8⟩
   have s8 := M8.size
   refine ⟨_, _, _, _, rfl, yaE.ofE M8 fun k hk hl he => by simp at hk he ⊢; omega, _, _, _, h8, rfl, ?_⟩
   refine ydB fun b9 w9 c9 M9 f9 => ?_
   have s9 := M9.size
   have K9 : Mod [b2] w6 w9 := ((A7.mod.trans M8).trans M9).less fun i hi hl => by simp at hi ⊢; omega
   have hR9 : Row w9 w5.heap.size 53 4 ye7 ar nr cr xs := hRow.keep K9 fun ad ha hk => by have := hRow.base ad ha; simp at hk; omega
   have N9 : Mod [] w w9 := N6.go0 K9 (by simpa using f2)
   obtain ⟨i0, hi, hz0, hz1, hz2⟩ := info_parts yFc
   refine yb0 (x := r) hR9 Tryz.underlying44 hi hz0 hz1 hz2 rfl (by decide) c9 rfl (ynH _) (by omega) (by unfold maxLen; omega) (by omega) fun a' c' w10 hR10 hM10 => ?_
   have M10 := hM10 _ (ydC ar)
   have s10 := M10.size
   have hrow := ybM hR9
   refine ⟨yaE.of M10 fun b hb _ hb' => ?_, ?_⟩
   ·have := hrow b hb'; simp at hb; omega
   intro w11 A11 h11
   have s11 := A11.mod.size
   have hkj : k - j = (k - (j + 1)) + 1 := by omega
   refine yAF (k - (j + 1)) (by omega) ⟨j + 1, xs ++ [r], a8, st8, by rw [yaH (by omega) (by omega)]; omega, by rw [List.length_append, hxl]; rfl, by omega, .inr hk16, rfl, rfl, ha8, he8, ?_, by omega, ?_, ?_, rfl⟩
   ·refine (N9.go0 M10 fun i hi => ?_).go0 A11.mod (by simp; omega)
    have := hrow i hi; omega
   ·rw [q6, hkj]
    exact stT q8
   ·refine hR10.keep A11.mod fun ad ha hk => ?_
    have := hR10.base ad ha; simp at hk; omega
  ·refine yaB (fun g => absurd g (by decide)) fun _ => ⟨rfl, fun w7 A7 h7 => ?_⟩
   have hkj : k - j = 0 := by omega
   rw [qb, q6, hkj]
   refine ⟨⟨⟨ar, nr, cr⟩, rfl, ?_, ?_⟩, N6.go0 A7.mod (by simpa using f1)⟩
   ·show Row w7 w.heap.size 53 4 ye7 ar nr cr (xs ++ [])
    rw [List.append_nil]
    refine (hRow.keep A7.mod fun ad ha hk => ?_).rebase (by omega)
    have := hRow.base ad ha; simp at hk; omega
   ·show (xs ++ []).length ≤ 16
    rw [List.append_nil]; omega
 ·have g : e0 ≠ 0 := by simpa using g
  refine yaB (fun _ => ⟨rfl, fun w7 A7 h7 => fin0 g A7⟩) fun g2 => absurd g (by simpa using g2)
section
variable {R : VWP} {w w0 : World} {m : Nat} {i0 i1 i2 i3 i4 i5 i6 i7 i8 i9 j0 j1 j2 j3 j4 j5 j6 j7 j8 j9 k0 k1 k2 k3 k4 k5 k6 k7 k8 k9 l0 l1 l2 l3 l4 l5 l6 l7 l8 l9 : Int} {s0 s1 s2 s3 s4 s5 s6 s7 s8 s9 t0 t1 t2 t3 t4 t5 t6 t7 t8 t9 : BA} {n0 n1 n2 n3 n4 n5 n6 n7 n8 n9 o0 o1 o2 o3 o4 o5 o6 o7 o8 o9 p0 p1 p2 p3 p4 p5 p6 p7 p8 p9 : Nat} {q0 q1 q2 q3 q4 q5 q6 q7 q8 q9 r0 r1 r2 r3 r4 r5 r6 r7 r8 r9 : OA} {B0 B1 B2 B3 B4 B5 B6 B7 B8 B9 : Bool} {M0 M1 M2 M3 : Option Nat} {V0 V1 V2 V3 V4 V5 : Value} {A0 A1 A2 : Addr}
theorem yJj {b0 : Nat} (hb : hpC w b0 (Z2 s0 i0 i1) 151) (h :
 brB (i1 == 0) (
 ∀ w1, Adv [b0] [] w w1 → hpC w1 b0 (Z2 s0 i2 i3) 151 →
 R (.bool (i3 == 0)) w1)
 (
 ∀ w2, Adv [] [] w w2 → hpC w2 b0 (Z2 s0 i0 i1) 151 →
 R (.bool (i1 == 0)) w2)) :
 CR pP 114 (Z10 (some ⟨b0, 0, none⟩) i2 i3) w R :=
 ycA Tryz.wide_mixed (an := []) Tryz.func114 rfl rfl (by kernel_rfl) rfl hb (Eq.mpr (by kernel_rfl) h)
theorem yJk {b0 : Nat} {o0 : BA} (hb : hpC w b0 (Z2 o0 i0 i1) 151) (h :
 ∀ w1, Adv [] [] w w1 →
 Calls pP 79 #[.string o0, .int .i64 i0] w1 fun e w2 => ∃ x3 x4 x5, e = .returned (.tuple #[.int .u64 x3, .int .i64 x4, .int .i64 x5]) ∧ yaE [b0] w1 w2 ∧
 ∀ w6, Adv [] [] w2 w6 → hpC w6 b0 (Z2 o0 i0 i1) 151 →
 Calls pP 114 (Z10 (some ⟨b0, 0, none⟩) x4 x5) w6 fun e w7 => ∃ t8, e = .returned (.bool t8) ∧ ∃ s9 a3 a4, hpC w7 b0 (Z2 s9 a3 a4) 151 ∧
 brB t8 (
 st w7 A0 [(.int .i64 (iw .i64 x3))] fun a1 => ∃ a2 a5 a6, hpC a1 b0 (Z2 a2 a5 a6) 151 ∧
 R (.tuple #[]) a1)
 (
 R (.tuple #[]) w7)) :
 CR pP 112 #[(.pointer (some ⟨b0, 0, none⟩)), (.pointer (some A0))] w R :=
 ycA Tryz.wide_mixed (an := []) Tryz.func112 rfl rfl (by kernel_rfl) rfl hb (Eq.mpr (by kernel_rfl) h)
theorem yJl {b0 : Nat} {o0 : BA} (hb : hpC w b0 (Z2 o0 i0 i1) 151) (h :
 ∀ w1, Adv [] [] w w1 →
 Calls pP 78 (Z2 o0 i0 16) w1 fun e w2 => ∃ s3 x4 x5, e = .returned (.tuple (Z2 s3 x4 x5)) ∧ yaE [b0] w1 w2 ∧
 ∀ w6, Adv [] [] w2 w6 → hpC w6 b0 (Z2 o0 i0 i1) 151 →
 Calls pP 114 (Z10 (some ⟨b0, 0, none⟩) x4 x5) w6 fun e w7 => ∃ t8, e = .returned (.bool t8) ∧ ∃ s9 a3 a4, hpC w7 b0 (Z2 s9 a3 a4) 151 ∧
 brB t8 (
 st w7 A0 [.string s3] fun a1 => ∃ a2 a5 a6, hpC a1 b0 (Z2 a2 a5 a6) 151 ∧
 R (.tuple #[]) a1)
 (
 R (.tuple #[]) w7)) :
 CR pP 167 #[(.pointer (some ⟨b0, 0, none⟩)), (.pointer (some A0))] w R :=
 ycA Tryz.wide_mixed (an := []) Tryz.func167 rfl rfl (by kernel_rfl) rfl hb (Eq.mpr (by kernel_rfl) h)
theorem yJm {b0 : Nat} {o0 : BA} (hb : hpC w b0 (Z2 o0 i0 i1) 151) (h :
 ∀ b1, w.heap.size ≤ b1 →
 ∀ w2, Adv [] [b1] w w2 → hpC w2 b0 (Z2 o0 i0 i1) 151 →
 hpC w2 b1 #[.int .i64 0] 3 →
 Calls pP 112 #[(.pointer (some ⟨b0, 0, none⟩)), (.pointer (some ⟨b1, 0, none⟩))] w2 fun e w3 => e = .returned (.tuple #[]) ∧ ∃ s4 x5 x6, hpC w3 b0 (Z2 s4 x5 x6) 151 ∧ ∃ x7, hpC w3 b1 #[.int .i64 x7] 3 ∧
 st w3 A0 [(.bool (x7 != 0))] fun w8 => ∃ s9 a1 a2, hpC w8 b0 (Z2 s9 a1 a2) 151 ∧ ∃ a3, hpC w8 b1 #[.int .i64 a3] 3 ∧
 R (.tuple #[]) w8) :
 CR pP 166 #[(.pointer (some ⟨b0, 0, none⟩)), (.pointer (some A0))] w R :=
 ycA Tryz.wide_mixed (an := []) Tryz.func166 rfl rfl (by kernel_rfl) rfl hb (Eq.mpr (by kernel_rfl) h)
theorem yJn {b0 : Nat} (hb : hpC w b0 (Z2 s0 i0 i1) 151) (h :
 ((
 ∀ b1, w.heap.size ≤ b1 →
 ∀ w2, Adv [] [b1] w w2 →
 Calls pP 169 #[.string s0, .int .i64 i0] w2 fun e w3 => ∃ x4 x5 x6 a7 n8 c9 b8 b9, e = .returned (.tuple #[(.agg (Z8 x4 x5 x6 a7 n8 c9)), .int .i64 b8, .int .i64 b9]) ∧ yaE [b0, b1] w2 w3 ∧
 ∀ a4, Adv [b1] [] w3 a4 → hpC a4 b0 (Z2 s0 i0 i1) 151 →
 Calls pP 114 (Z10 (some ⟨b0, 0, none⟩) b8 b9) a4 fun e a1 => ∃ b6, e = .returned (.bool b6) ∧ ya2 [b0] [(b1, 46)] [b1] a4 a1 ∧ ∃ c5 d0 d1, hpC a1 b0 (Z2 c5 d0 d1) 151 ∧
 brB b6 (
 st a1 A0 [.int .i64 x4, .int .i64 x5, .int .i64 x6, .slice a7 n8 c9] fun a6 => ya2 [b0] [(b1, 46)] [b1] a1 a6 ∧ ∃ c6 d2 d3, hpC a6 b0 (Z2 c6 d2 d3) 151 ∧
 R (.tuple #[]) a6)
 (
 R (.tuple #[]) a1)) ∧
 (
 ∀ a8, Adv [] [] w a8 →
 Calls pP 169 #[.string s0, .int .i64 i0] a8 fun e a9 => ∃ c0 c1 c2 b3 b5 b4 c3 c4, e = .returned (.tuple #[(.agg (Z8 c0 c1 c2 b3 b5 b4)), .int .i64 c3, .int .i64 c4]) ∧ yaE [b0] a8 a9 ∧
 ∀ a0, a9.heap.size ≤ a0 →
 ∀ a5, Adv [] [a0] a9 a5 → hpC a5 b0 (Z2 s0 i0 i1) 151 →
 Calls pP 114 (Z10 (some ⟨b0, 0, none⟩) c3 c4) a5 fun e a2 => ∃ b7, e = .returned (.bool b7) ∧ ya2 [b0] [(a0, 46)] [a0] a5 a2 ∧ ∃ c7 d4 d5, hpC a2 b0 (Z2 c7 d4 d5) 151 ∧
 brB b7 (
 st a2 A0 [.int .i64 c0, .int .i64 c1, .int .i64 c2, .slice b3 b5 b4] fun b2 => ya2 [b0] [(a0, 46)] [a0] a2 b2 ∧ ∃ c8 d6 d7, hpC b2 b0 (Z2 c8 d6 d7) 151 ∧
 R (.tuple #[]) b2)
 (
 R (.tuple #[]) a2)))) :
 CR pP 165 #[(.pointer (some ⟨b0, 0, none⟩)), (.pointer (some A0))] w R :=
 ycA Tryz.wide_mixed (an := []) Tryz.func165 rfl rfl (by kernel_rfl) rfl hb (Eq.mpr (by kernel_rfl) h)
def ysM : LA := ⟨[0, 0, 1, 1, 1], [0, 1, 4, 5], [(0, 0, 0), (4, 1, 0)], 2, [0, 1]⟩
def yuL : List LA := [ysM]
abbrev yJo := dnF pP yuL (code Tryz.f168)
abbrev yLx := yaO pP yuL (code Tryz.f168)
abbrev yJp (p : List Nat) (K : List Kh) (R : VWP) := yaO pP yuL (code Tryz.f168) p K (ya4 pP Tryz.f168 [0] R)
def ymB (a4 : Addr) (bm0 bm1 : Nat) : Int × BA × Int × Int × Int → List Value × List TB := fun (a5, a0, a1, a2, a3) => ([(.pointer (some ⟨bm0, 0, none⟩)), (.pointer (some a4)), (.pointer (some ⟨bm1, 0, none⟩)), .int .i64 a5], [⟨bm0, 151, [.string a0, .int .i64 a1, .int .i64 a2], true⟩, ⟨bm1, 3, [.int .i64 a3], true⟩])
abbrev yD5 (a0 : Addr) (bm0 bm1 : Nat) (I : Nat → Int → BA → Int → Int → Int → World → Prop) (m : Nat) : Kh := KG (ymB a0 bm0 bm1) (U5 I) m
theorem yAK {I : Nat → Int → BA → Int → Int → Int → World → Prop} (m' : Nat) (h1 : m' < m) (h2 : I m' i0 s0 i1 i2 i3 w) : KS (yD5 A0 n0 n1 I m) (ymB A0 n0 n1 (i0, s0, i1, i2, i3)) w := ⟨m', h1, _, rfl, rfl, h2⟩
theorem yAL (I : Nat → Int → BA → Int → Int → Int → World → Prop) (m0 : Nat) (h0 : I m0 i0 s0 i1 i2 i3 w0)
 (hr : ∀ m b0 a2 a3 a0 a1 w, I m b0 a2 a3 a0 a1 w →
 hpC w n0 (Z2 a2 a3 a0) 151 →
 hpC w n1 #[.int .i64 a1] 3 →
 brB (decide (b0 < a1)) (
 brB (a0 == 0) (
 ∀ b8, w.heap.size ≤ b8 →
 ∀ w9, Adv [] [b8] w w9 → hpC w9 n0 (Z2 a2 a3 a0) 151 →
 hpC w9 n1 #[.int .i64 a1] 3 →
 hpC w9 b8 #[(.string (⟨#[]⟩ : BA))] 9 →
 Calls pP 167 #[(.pointer (some ⟨n0, 0, none⟩)), (.pointer (some ⟨b8, 0, none⟩))] w9 fun e b1 => e = .returned (.tuple #[]) ∧ ∃ b5 c0 c1, hpC b1 n0 (Z2 b5 c0 c1) 151 ∧ ∃ c2, hpC b1 n1 #[.int .i64 c2] 3 ∧ ∃ b3, hpC b1 b8 #[.string b3] 9 ∧
 ∀ a6, Adv [] [] b1 a6 → hpC a6 n0 (Z2 b5 c0 c1) 151 →
 hpC a6 n1 #[.int .i64 c2] 3 →
 hpC a6 b8 #[.string b3] 9 →
 yaU a6 A0 fun c6 d1 c9 =>
 al a6 (.cells #[.string b3] 9) fun c8 b7 =>
 yc6 pP (Builtin.append_ #[47, 47] 47 #[.slice c6 d1 c9, (.slice (some ⟨c8, 0, none⟩) 1 1)]) b7 fun c7 d2 d0 b9 => yaE [n0, n1, b8] b7 b9 ∧
 st b9 A0 [.slice c7 d2 d0] fun b2 => ∃ b6 c3 c4, hpC b2 n0 (Z2 b6 c3 c4) 151 ∧ ∃ c5, hpC b2 n1 #[.int .i64 c5] 3 ∧ ∃ d3, hpC b2 b8 #[.string d3] 9 ∧
 KS (yD5 A0 n0 n1 I m) (ymB A0 n0 n1 ((iw .i64 (b0 + 1)), b6, c3, c4, c5)) b2)
 (
 R (.tuple #[]) w))
 (
 R (.tuple #[]) w)) :
 yaK ysM (yJo 396 [0, 0, 1, 1, 1]) (yJp [1, 1, 1, 0] [] R) (ymB A0 n0 n1 (i0, s0, i1, i2, i3)) w0 :=
 lrule (ymB A0 n0 n1) (U5 I) h0 (by rintro m ⟨b0, a2, a3, a0, a1⟩ w h; exact ⟨by kernel_rfl, by kernel_rfl, fun js => Eq.mpr (by kernel_rfl) (hr m b0 a2 a3 a0 a1 w h)⟩)
theorem yJq {b0 : Nat} {o0 : BA} (hb : hpC w b0 (Z2 o0 i0 i1) 151) (h :
 ∀ b1, w.heap.size ≤ b1 →
 ∀ w2, Adv [] [b1] w w2 → hpC w2 b0 (Z2 o0 i0 i1) 151 →
 hpC w2 b1 #[.int .i64 0] 3 →
 Calls pP 112 #[(.pointer (some ⟨b0, 0, none⟩)), (.pointer (some ⟨b1, 0, none⟩))] w2 fun e w3 => e = .returned (.tuple #[]) ∧ ∃ s4 x5 x6, hpC w3 b0 (Z2 s4 x5 x6) 151 ∧ ∃ x7, hpC w3 b1 #[.int .i64 x7] 3 ∧
 yaK ysM (yJo 396 [0, 0, 1, 1, 1]) (yJp [1, 1, 1, 0] [] R) (ymB A0 b0 b1 (0, s4, x5, x6, x7)) w3) :
 CR pP 168 #[(.pointer (some ⟨b0, 0, none⟩)), (.pointer (some A0))] w R :=
 ycA Tryz.wide_mixed (an := yuL) Tryz.func168 rfl rfl (by kernel_rfl) rfl hb (Eq.mpr (by kernel_rfl) h)
theorem yD6 (h :
 ∀ w1, Adv [] [] w w1 →
 Calls pP 167 #[(.pointer (some A1)), (.pointer (some A0))] w1 fun e w2 => e = .returned (.tuple #[]) ∧
 ∀ w3, Adv [] [] w2 w3 →
 Calls pP 112 #[(.pointer (some A1)), (.pointer (some (Addr.add A0 1)))] w3 fun e w4 => e = .returned (.tuple #[]) ∧
 R (.tuple #[]) w4) :
 CR pP 60 #[(.iface 149 (.pointer (some A1))), (.pointer (some A0))] w R :=
 yaA Tryz.wide_mixed (an := []) Tryz.func60 rfl rfl (by kernel_rfl) rfl (Eq.mpr (by kernel_rfl) h)
theorem yJr (h :
 ∀ w1, Adv [] [] w w1 →
 Calls pP 167 #[(.pointer (some A1)), (.pointer (some (Addr.add A0 9)))] w1 fun e w2 => e = .returned (.tuple #[]) ∧
 ∀ w3, Adv [] [] w2 w3 →
 Calls pP 167 #[(.pointer (some A1)), (.pointer (some (Addr.add A0 10)))] w3 fun e w4 => e = .returned (.tuple #[]) ∧
 R (.tuple #[]) w4) :
 CR pP 118 #[(.iface 149 (.pointer (some A1))), (.pointer (some A0))] w R :=
 yaA Tryz.wide_mixed (an := []) Tryz.func118 rfl rfl (by kernel_rfl) rfl (Eq.mpr (by kernel_rfl) h)
theorem yFs (h :
 yaI .i64 w A0 fun x1 =>
 brB (x1 == 0) (
 ∀ w2, Adv [] [] w w2 →
 Calls pP 167 #[(.pointer (some A1)), (.pointer (some (Addr.add A0 1)))] w2 fun e w3 => e = .returned (.tuple #[]) ∧
 ∀ w4, Adv [] [] w3 w4 →
 Calls pP 112 #[(.pointer (some A1)), (.pointer (some (Addr.add A0 3)))] w4 fun e w5 => e = .returned (.tuple #[]) ∧
 R (.tuple #[]) w5)
 (
 brB (x1 == 1) (
 brB (x1 == 1) (
 ∀ w6, Adv [] [] w w6 →
 Calls pP 112 #[(.pointer (some A1)), (.pointer (some (Addr.add A0 3)))] w6 fun e w7 => e = .returned (.tuple #[]) ∧
 R (.tuple #[]) w7)
 (
 brB (x1 == 2) (
 Calls pP 60 #[(.iface 149 (.pointer (some A1))), (.pointer (some (Addr.add A0 1)))] w fun e w8 => e = .returned (.tuple #[]) ∧
 ∀ w9, Adv [] [] w8 w9 →
 Calls pP 165 #[(.pointer (some A1)), (.pointer (some (Addr.add A0 5)))] w9 fun e f3 => e = .returned (.tuple #[]) ∧
 R (.tuple #[]) f3)
 (
 brB (x1 == 3) (
 Calls pP 60 #[(.iface 149 (.pointer (some A1))), (.pointer (some (Addr.add A0 1)))] w fun e f4 => e = .returned (.tuple #[]) ∧
 ∀ a9, Adv [] [] f4 a9 →
 Calls pP 112 #[(.pointer (some A1)), (.pointer (some (Addr.add A0 4)))] a9 fun e f5 => e = .returned (.tuple #[]) ∧
 ∀ b0, Adv [] [] f5 b0 →
 Calls pP 112 #[(.pointer (some A1)), (.pointer (some (Addr.add A0 3)))] b0 fun e f6 => e = .returned (.tuple #[]) ∧
 R (.tuple #[]) f6)
 (
 brB (x1 == 4) (
 Calls pP 60 #[(.iface 149 (.pointer (some A1))), (.pointer (some (Addr.add A0 1)))] w fun e f7 => e = .returned (.tuple #[]) ∧
 ∀ b1, Adv [] [] f7 b1 →
 Calls pP 112 #[(.pointer (some A1)), (.pointer (some (Addr.add A0 4)))] b1 fun e f8 => e = .returned (.tuple #[]) ∧
 R (.tuple #[]) f8)
 (
 brB (x1 == 5) (
 Calls pP 60 #[(.iface 149 (.pointer (some A1))), (.pointer (some (Addr.add A0 1)))] w fun e f9 => e = .returned (.tuple #[]) ∧
 R (.tuple #[]) f9)
 (
 brB (x1 == 6) (
 Calls pP 118 #[(.iface 149 (.pointer (some A1))), (.pointer (some A0))] w fun e g0 => e = .returned (.tuple #[]) ∧
 ∀ b2, Adv [] [] g0 b2 →
 Calls pP 112 #[(.pointer (some A1)), (.pointer (some (Addr.add A0 3)))] b2 fun e g1 => e = .returned (.tuple #[]) ∧
 ∀ b3, Adv [] [] g1 b3 →
 Calls pP 166 #[(.pointer (some A1)), (.pointer (some (Addr.add A0 12)))] b3 fun e g2 => e = .returned (.tuple #[]) ∧
 ∀ b4, Adv [] [] g2 b4 →
 Calls pP 168 #[(.pointer (some A1)), (.pointer (some (Addr.add A0 13)))] b4 fun e g3 => e = .returned (.tuple #[]) ∧
 R (.tuple #[]) g3)
 (
 brB (x1 == 7) (
 brB (x1 == 7) (
 Calls pP 118 #[(.iface 149 (.pointer (some A1))), (.pointer (some A0))] w fun e g4 => e = .returned (.tuple #[]) ∧
 ∀ b5, Adv [] [] g4 b5 →
 Calls pP 112 #[(.pointer (some A1)), (.pointer (some (Addr.add A0 11)))] b5 fun e g5 => e = .returned (.tuple #[]) ∧
 R (.tuple #[]) g5)
 (
 brB (x1 == 10) (
 Calls pP 118 #[(.iface 149 (.pointer (some A1))), (.pointer (some A0))] w fun e g6 => e = .returned (.tuple #[]) ∧
 ∀ b6, Adv [] [] g6 b6 →
 Calls pP 112 #[(.pointer (some A1)), (.pointer (some (Addr.add A0 11)))] b6 fun e g7 => e = .returned (.tuple #[]) ∧
 Calls pP 60 #[(.iface 149 (.pointer (some A1))), (.pointer (some (Addr.add A0 1)))] g7 fun e g8 => e = .returned (.tuple #[]) ∧
 ∀ b7, Adv [] [] g8 b7 →
 Calls pP 112 #[(.pointer (some A1)), (.pointer (some (Addr.add A0 4)))] b7 fun e g9 => e = .returned (.tuple #[]) ∧
 R (.tuple #[]) g9)
 (
 brB (x1 == 11) (
 ∀ b8, Adv [] [] w b8 →
 Calls pP 167 #[(.pointer (some A1)), (.pointer (some (Addr.add A0 9)))] b8 fun e h0 => e = .returned (.tuple #[]) ∧
 Calls pP 60 #[(.iface 149 (.pointer (some A1))), (.pointer (some (Addr.add A0 1)))] h0 fun e h1 => e = .returned (.tuple #[]) ∧
 R (.tuple #[]) h1)
 (
 R (.tuple #[]) w))))
 (
 brB (x1 == 8) (
 brB (x1 == 8) (
 Calls pP 118 #[(.iface 149 (.pointer (some A1))), (.pointer (some A0))] w fun e h2 => e = .returned (.tuple #[]) ∧
 ∀ b9, Adv [] [] h2 b9 →
 Calls pP 112 #[(.pointer (some A1)), (.pointer (some (Addr.add A0 11)))] b9 fun e h3 => e = .returned (.tuple #[]) ∧
 R (.tuple #[]) h3)
 (
 brB (x1 == 10) (
 Calls pP 118 #[(.iface 149 (.pointer (some A1))), (.pointer (some A0))] w fun e h4 => e = .returned (.tuple #[]) ∧
 ∀ c0, Adv [] [] h4 c0 →
 Calls pP 112 #[(.pointer (some A1)), (.pointer (some (Addr.add A0 11)))] c0 fun e h5 => e = .returned (.tuple #[]) ∧
 Calls pP 60 #[(.iface 149 (.pointer (some A1))), (.pointer (some (Addr.add A0 1)))] h5 fun e h6 => e = .returned (.tuple #[]) ∧
 ∀ c1, Adv [] [] h6 c1 →
 Calls pP 112 #[(.pointer (some A1)), (.pointer (some (Addr.add A0 4)))] c1 fun e h7 => e = .returned (.tuple #[]) ∧
 R (.tuple #[]) h7)
 (
 brB (x1 == 11) (
 ∀ c2, Adv [] [] w c2 →
 Calls pP 167 #[(.pointer (some A1)), (.pointer (some (Addr.add A0 9)))] c2 fun e h8 => e = .returned (.tuple #[]) ∧
 Calls pP 60 #[(.iface 149 (.pointer (some A1))), (.pointer (some (Addr.add A0 1)))] h8 fun e h9 => e = .returned (.tuple #[]) ∧
 R (.tuple #[]) h9)
 (
 R (.tuple #[]) w))))
 (
 brB (x1 == 9) (
 Calls pP 118 #[(.iface 149 (.pointer (some A1))), (.pointer (some A0))] w fun e u0 => e = .returned (.tuple #[]) ∧
 ∀ c3, Adv [] [] u0 c3 →
 Calls pP 112 #[(.pointer (some A1)), (.pointer (some (Addr.add A0 11)))] c3 fun e u1 => e = .returned (.tuple #[]) ∧
 R (.tuple #[]) u1)
 (
 brB (x1 == 10) (
 Calls pP 118 #[(.iface 149 (.pointer (some A1))), (.pointer (some A0))] w fun e u2 => e = .returned (.tuple #[]) ∧
 ∀ c4, Adv [] [] u2 c4 →
 Calls pP 112 #[(.pointer (some A1)), (.pointer (some (Addr.add A0 11)))] c4 fun e u3 => e = .returned (.tuple #[]) ∧
 Calls pP 60 #[(.iface 149 (.pointer (some A1))), (.pointer (some (Addr.add A0 1)))] u3 fun e u4 => e = .returned (.tuple #[]) ∧
 ∀ c5, Adv [] [] u4 c5 →
 Calls pP 112 #[(.pointer (some A1)), (.pointer (some (Addr.add A0 4)))] c5 fun e u5 => e = .returned (.tuple #[]) ∧
 R (.tuple #[]) u5)
 (
 brB (x1 == 11) (
 ∀ c6, Adv [] [] w c6 →
 Calls pP 167 #[(.pointer (some A1)), (.pointer (some (Addr.add A0 9)))] c6 fun e u6 => e = .returned (.tuple #[]) ∧
 Calls pP 60 #[(.iface 149 (.pointer (some A1))), (.pointer (some (Addr.add A0 1)))] u6 fun e u7 => e = .returned (.tuple #[]) ∧
 R (.tuple #[]) u7)
 (
 R (.tuple #[]) w))))))))))))
 (
 brB (x1 == 12) (
 ∀ c7, Adv [] [] w c7 →
 Calls pP 112 #[(.pointer (some A1)), (.pointer (some (Addr.add A0 3)))] c7 fun e u9 => e = .returned (.tuple #[]) ∧
 R (.tuple #[]) u9)
 (
 brB (x1 == 2) (
 Calls pP 60 #[(.iface 149 (.pointer (some A1))), (.pointer (some (Addr.add A0 1)))] w fun e v0 => e = .returned (.tuple #[]) ∧
 ∀ c8, Adv [] [] v0 c8 →
 Calls pP 165 #[(.pointer (some A1)), (.pointer (some (Addr.add A0 5)))] c8 fun e v1 => e = .returned (.tuple #[]) ∧
 R (.tuple #[]) v1)
 (
 brB (x1 == 3) (
 Calls pP 60 #[(.iface 149 (.pointer (some A1))), (.pointer (some (Addr.add A0 1)))] w fun e v2 => e = .returned (.tuple #[]) ∧
 ∀ c9, Adv [] [] v2 c9 →
 Calls pP 112 #[(.pointer (some A1)), (.pointer (some (Addr.add A0 4)))] c9 fun e v3 => e = .returned (.tuple #[]) ∧
 ∀ d0, Adv [] [] v3 d0 →
 Calls pP 112 #[(.pointer (some A1)), (.pointer (some (Addr.add A0 3)))] d0 fun e v4 => e = .returned (.tuple #[]) ∧
 R (.tuple #[]) v4)
 (
 brB (x1 == 4) (
 Calls pP 60 #[(.iface 149 (.pointer (some A1))), (.pointer (some (Addr.add A0 1)))] w fun e v5 => e = .returned (.tuple #[]) ∧
 ∀ d1, Adv [] [] v5 d1 →
 Calls pP 112 #[(.pointer (some A1)), (.pointer (some (Addr.add A0 4)))] d1 fun e v6 => e = .returned (.tuple #[]) ∧
 R (.tuple #[]) v6)
 (
 brB (x1 == 5) (
 Calls pP 60 #[(.iface 149 (.pointer (some A1))), (.pointer (some (Addr.add A0 1)))] w fun e v7 => e = .returned (.tuple #[]) ∧
 R (.tuple #[]) v7)
 (
 brB (x1 == 6) (
 Calls pP 118 #[(.iface 149 (.pointer (some A1))), (.pointer (some A0))] w fun e v8 => e = .returned (.tuple #[]) ∧
 ∀ d2, Adv [] [] v8 d2 →
 Calls pP 112 #[(.pointer (some A1)), (.pointer (some (Addr.add A0 3)))] d2 fun e v9 => e = .returned (.tuple #[]) ∧
 ∀ d3, Adv [] [] v9 d3 →
 Calls pP 166 #[(.pointer (some A1)), (.pointer (some (Addr.add A0 12)))] d3 fun e w0 => e = .returned (.tuple #[]) ∧
 ∀ d4, Adv [] [] w0 d4 →
 Calls pP 168 #[(.pointer (some A1)), (.pointer (some (Addr.add A0 13)))] d4 fun e w1 => e = .returned (.tuple #[]) ∧
 R (.tuple #[]) w1)
 (
 brB (x1 == 7) (
 brB (x1 == 7) (
 Calls pP 118 #[(.iface 149 (.pointer (some A1))), (.pointer (some A0))] w fun e x0 => e = .returned (.tuple #[]) ∧
 ∀ d5, Adv [] [] x0 d5 →
 Calls pP 112 #[(.pointer (some A1)), (.pointer (some (Addr.add A0 11)))] d5 fun e x2 => e = .returned (.tuple #[]) ∧
 R (.tuple #[]) x2)
 (
 brB (x1 == 10) (
 Calls pP 118 #[(.iface 149 (.pointer (some A1))), (.pointer (some A0))] w fun e x3 => e = .returned (.tuple #[]) ∧
 ∀ d6, Adv [] [] x3 d6 →
 Calls pP 112 #[(.pointer (some A1)), (.pointer (some (Addr.add A0 11)))] d6 fun e x4 => e = .returned (.tuple #[]) ∧
 Calls pP 60 #[(.iface 149 (.pointer (some A1))), (.pointer (some (Addr.add A0 1)))] x4 fun e x5 => e = .returned (.tuple #[]) ∧
 ∀ d7, Adv [] [] x5 d7 →
 Calls pP 112 #[(.pointer (some A1)), (.pointer (some (Addr.add A0 4)))] d7 fun e x6 => e = .returned (.tuple #[]) ∧
 R (.tuple #[]) x6)
 (
 brB (x1 == 11) (
 ∀ d8, Adv [] [] w d8 →
 Calls pP 167 #[(.pointer (some A1)), (.pointer (some (Addr.add A0 9)))] d8 fun e x7 => e = .returned (.tuple #[]) ∧
 Calls pP 60 #[(.iface 149 (.pointer (some A1))), (.pointer (some (Addr.add A0 1)))] x7 fun e x8 => e = .returned (.tuple #[]) ∧
 R (.tuple #[]) x8)
 (
 R (.tuple #[]) w))))
 (
 brB (x1 == 8) (
 brB (x1 == 8) (
 Calls pP 118 #[(.iface 149 (.pointer (some A1))), (.pointer (some A0))] w fun e x9 => e = .returned (.tuple #[]) ∧
 ∀ d9, Adv [] [] x9 d9 →
 Calls pP 112 #[(.pointer (some A1)), (.pointer (some (Addr.add A0 11)))] d9 fun e y0 => e = .returned (.tuple #[]) ∧
 R (.tuple #[]) y0)
 (
 brB (x1 == 10) (
 Calls pP 118 #[(.iface 149 (.pointer (some A1))), (.pointer (some A0))] w fun e y1 => e = .returned (.tuple #[]) ∧
 ∀ a2, Adv [] [] y1 a2 →
 Calls pP 112 #[(.pointer (some A1)), (.pointer (some (Addr.add A0 11)))] a2 fun e e0 => e = .returned (.tuple #[]) ∧
 Calls pP 60 #[(.iface 149 (.pointer (some A1))), (.pointer (some (Addr.add A0 1)))] e0 fun e e1 => e = .returned (.tuple #[]) ∧
 ∀ a3, Adv [] [] e1 a3 →
 Calls pP 112 #[(.pointer (some A1)), (.pointer (some (Addr.add A0 4)))] a3 fun e e2 => e = .returned (.tuple #[]) ∧
 R (.tuple #[]) e2)
 (
 brB (x1 == 11) (
 ∀ a4, Adv [] [] w a4 →
 Calls pP 167 #[(.pointer (some A1)), (.pointer (some (Addr.add A0 9)))] a4 fun e e3 => e = .returned (.tuple #[]) ∧
 Calls pP 60 #[(.iface 149 (.pointer (some A1))), (.pointer (some (Addr.add A0 1)))] e3 fun e e4 => e = .returned (.tuple #[]) ∧
 R (.tuple #[]) e4)
 (
 R (.tuple #[]) w))))
 (
 brB (x1 == 9) (
 Calls pP 118 #[(.iface 149 (.pointer (some A1))), (.pointer (some A0))] w fun e e5 => e = .returned (.tuple #[]) ∧
 ∀ a5, Adv [] [] e5 a5 →
 Calls pP 112 #[(.pointer (some A1)), (.pointer (some (Addr.add A0 11)))] a5 fun e e6 => e = .returned (.tuple #[]) ∧
 R (.tuple #[]) e6)
 (
 brB (x1 == 10) (
 Calls pP 118 #[(.iface 149 (.pointer (some A1))), (.pointer (some A0))] w fun e e7 => e = .returned (.tuple #[]) ∧
 ∀ a6, Adv [] [] e7 a6 →
 Calls pP 112 #[(.pointer (some A1)), (.pointer (some (Addr.add A0 11)))] a6 fun e e8 => e = .returned (.tuple #[]) ∧
 Calls pP 60 #[(.iface 149 (.pointer (some A1))), (.pointer (some (Addr.add A0 1)))] e8 fun e e9 => e = .returned (.tuple #[]) ∧
 ∀ a7, Adv [] [] e9 a7 →
 Calls pP 112 #[(.pointer (some A1)), (.pointer (some (Addr.add A0 4)))] a7 fun e f0 => e = .returned (.tuple #[]) ∧
 R (.tuple #[]) f0)
 (
 brB (x1 == 11) (
 ∀ a8, Adv [] [] w a8 →
 Calls pP 167 #[(.pointer (some A1)), (.pointer (some (Addr.add A0 9)))] a8 fun e f1 => e = .returned (.tuple #[]) ∧
 Calls pP 60 #[(.iface 149 (.pointer (some A1))), (.pointer (some (Addr.add A0 1)))] f1 fun e f2 => e = .returned (.tuple #[]) ∧
 R (.tuple #[]) f2)
 (
 R (.tuple #[]) w)))))))))))))) :
 CR pP 93 #[(.iface 149 (.pointer (some A1))), (.pointer (some A0))] w R :=
 yaA Tryz.wide_mixed (an := []) Tryz.func93 rfl rfl (by kernel_rfl) rfl (Eq.mpr (by kernel_rfl) h)
theorem yFt {c6 : BA} (h :
 ∀ b1, w.heap.size ≤ b1 →
 ∀ b2, w.heap.size ≤ b2 →
 ∀ b3, w.heap.size ≤ b3 →
 ∀ w4, Adv [] [b3, b2, b1] w w4 → hpC w4 b2 (Z2 c6 0 0) 151 →
 hpC w4 b3 (Z1 0 ByteArray.empty 0 0 0 0 0 0 none 0 0 ByteArray.empty ByteArray.empty 0 false none 0 0) 49 →
 Calls pP 112 #[(.pointer (some ⟨b2, 0, none⟩)), (.pointer (some ⟨b3, 0, none⟩))] w4 fun e w5 => e = .returned (.tuple #[]) ∧ ya2 [b2, b3] [(b1, 49)] [b1] w4 w5 ∧ ∃ s6 x7 x8, hpC w5 b2 (Z2 s6 x7 x8) 151 ∧ ∃ x9 f7 g2 g3 g4 g5 g6 g7 f1 f5 f3 f8 f9 g8 g1 f2 f6 f4, hpC w5 b3 (Z1 x9 f7 g2 g3 g4 g5 g6 g7 f1 f5 f3 f8 f9 g8 g1 f2 f6 f4) 49 ∧
 Calls pP 93 #[(.iface 149 (.pointer (some ⟨b2, 0, none⟩))), (.pointer (some ⟨b3, 0, none⟩))] w5 fun e c4 => e = .returned (.tuple #[]) ∧ ya2 [b2, b3] [(b1, 49)] [b1] w5 c4 ∧ ∃ g0 g9 h0, hpC c4 b2 (Z2 g0 g9 h0) 151 ∧ ∃ e2 d7 e3 e4 e5 e6 e7 e8 d1 d5 d3 d8 d9 e9 e1 d2 d6 d4, hpC c4 b3 (Z1 e2 d7 e3 e4 e5 e6 e7 e8 d1 d5 d3 d8 d9 e9 e1 d2 d6 d4) 49 ∧
 Calls pP 56 #[(.agg (Z1 e2 d7 e3 e4 e5 e6 e7 e8 d1 d5 d3 d8 d9 e9 e1 d2 d6 d4))] c4 fun e a0 => ∃ e0 f0, e = .returned (.tuple #[.string e0, .int .i64 f0]) ∧ ya2 [b2, b3] [(b1, 49)] [b1] c4 a0 ∧ ∃ c3 c5 b4, hpC a0 b2 (Z2 c3 c5 b4) 151 ∧ ∃ b5 a7 b6 b7 b8 b9 c0 c1 a1 a5 a3 a8 a9 c2 b0 a2 a6 a4, hpC a0 b3 (Z1 b5 a7 b6 b7 b8 b9 c0 c1 a1 a5 a3 a8 a9 c2 b0 a2 a6 a4) 49 ∧
 brB (b4 != 0) (
 ∀ c7, Adv [b1] [] a0 c7 → hpC c7 b2 (Z2 c3 c5 b4) 151 →
 hpC c7 b3 (Z1 b5 a7 b6 b7 b8 b9 c0 c1 a1 a5 a3 a8 a9 c2 b0 a2 a6 a4) 49 →
 R (.tuple #[(.agg (Z1 0 ByteArray.empty 0 0 0 0 0 0 none 0 0 ByteArray.empty ByteArray.empty 0 false none 0 0)), .int .i64 40]) c7)
 (
 brB (f0 != 0) (
 ∀ c8, Adv [b1] [] a0 c8 → hpC c8 b2 (Z2 c3 c5 b4) 151 →
 hpC c8 b3 (Z1 b5 a7 b6 b7 b8 b9 c0 c1 a1 a5 a3 a8 a9 c2 b0 a2 a6 a4) 49 →
 R (.tuple #[(.agg (Z1 0 ByteArray.empty 0 0 0 0 0 0 none 0 0 ByteArray.empty ByteArray.empty 0 false none 0 0)), .int .i64 40]) c8)
 (
 brB (!(e0.toList == c6.toList)) (
 ∀ c9, Adv [b1] [] a0 c9 → hpC c9 b2 (Z2 c3 c5 b4) 151 →
 hpC c9 b3 (Z1 b5 a7 b6 b7 b8 b9 c0 c1 a1 a5 a3 a8 a9 c2 b0 a2 a6 a4) 49 →
 R (.tuple #[(.agg (Z1 0 ByteArray.empty 0 0 0 0 0 0 none 0 0 ByteArray.empty ByteArray.empty 0 false none 0 0)), .int .i64 40]) c9)
 (
 ∀ d0, Adv [b1] [] a0 d0 → hpC d0 b2 (Z2 c3 c5 b4) 151 →
 hpC d0 b3 (Z1 b5 a7 b6 b7 b8 b9 c0 c1 a1 a5 a3 a8 a9 c2 b0 a2 a6 a4) 49 →
 R (.tuple #[(.agg (Z1 b5 a7 b6 b7 b8 b9 c0 c1 a1 a5 a3 a8 a9 c2 b0 a2 a6 a4)), .int .i64 0]) d0)))) :
 CR pP 131 #[.string c6] w R :=
 yaA Tryz.wide_mixed (an := []) Tryz.func131 rfl rfl (by kernel_rfl) rfl (Eq.mpr (by kernel_rfl) h)
end
abbrev QT : TypeId := 151
def ybJ (l : List UInt8) (st : Option Nat) (x : Int) : Option Nat × Int := match st.bind (yfA l) with
 | some p => (some p.2, iw .i64 (p.1 : Nat))
 | none => (none, x)
def yfB (l : List UInt8) (st : Option Nat) (x : BA) : Option Nat × BA := match st.bind (yl9 16 l) with
 | some p => (some p.2, p.1)
 | none => (none, x)
theorem ydW {s : BA} {br : Nat} {st : Option Nat} {w : World} (h : Rd QT s br st w) {to : Nat} {e1 : Int} (hto : to ≤ s.size) :
  Calls pP 114 #[.pointer (some ⟨br, 0, none⟩), .int .i64 (to : Nat), .int .i64 e1] w fun e w' => e = .returned (.bool (st.isSome && decide (e1 = 0))) ∧ Mod [br] w w' ∧ Rd QT s br (if st.isSome ∧ e1 = 0 then some to else none) w' := by
 obtain ⟨a, e, h1, ha, rfl⟩ := h
 refine yaP (yJj h1 ?_)
 refine yaB (fun g => ?_) fun g => ?_
 ·have g : e = 0 := by simpa using g
  subst g
  intro w1 A1 h2
  refine ⟨?_, A1.mod, to, e1, h2, hto, by simp⟩
  congr 1
 ·have g : e ≠ 0 := by simpa using g
  intro w1 A1 h2
  refine ⟨?_, A1.mod.less (by simp), a, e, h2, ha, by simp [g]⟩
  simp [g]
theorem yJs {c : Array Value} {i : Nat} {v : Value} (h : c[i]? = some v) : c.setIfInBounds i v = c := by
 apply Array.ext_getElem?
 intro j
 rw [Array.getElem?_setIfInBounds]
 split
 ·rename_i h1; subst h1
  have := (Array.getElem?_eq_some_iff.1 h).1
  rw [if_pos this, h]
 ·rfl
theorem ybX {s : BA} {br : Nat} {st : Option Nat} {w : World} (hs : s.size ≤ 1000000000000) (h : Rd QT s br st w) {ba off : Nat} {c : Array Value} {T : TypeId} {x : Int} (hb : w.heap[ba]? = some (.cells c T)) (hc : c[off]? = some (.int .i64 x)) (hne : ba ≠ br) :
  Calls pP 112 #[.pointer (some ⟨br, 0, none⟩), .pointer (some ⟨ba, off, none⟩)] w fun e w' => e = .returned (.tuple #[]) ∧ Rd QT s br (ybJ s.data.toList st x).1 w' ∧ w'.heap[ba]? = some (.cells (c.setIfInBounds off (.int .i64 (ybJ s.data.toList st x).2)) T) ∧ Mod [br, ba] w w' := by
 have hoff := (Array.getElem?_eq_some_iff.1 hc).1
 have hlt := h.lt
 obtain ⟨a, e, h1, ha, hst⟩ := h
 refine yaP (yJk h1 ?_)
 intro w1 A1
 have s1 := A1.mod.size
 refine (ygH s a hs ha w1).mono ?_
 rintro e2 w2 ⟨v, rfl, hv, rfl⟩
 have bad : ∀ {w7 : World}, (st.bind (yfA s.data.toList)) = none → Rd QT s br none w7 → Mod [br] w w7 → Rd QT s br (ybJ s.data.toList st x).1 w7 ∧ w7.heap[ba]? = some (.cells (c.setIfInBounds off (.int .i64 (ybJ s.data.toList st x).2)) T) ∧ Mod [br, ba] w w7 := fun {w7} hn h7 M7 => by
  have e : ybJ s.data.toList st x = (none, x) := by unfold ybJ; rw [hn]
  rw [e]
  refine ⟨h7, ?_, M7.less (by simp)⟩
  dsimp only
  rw [yJs hc]
  exact M7.keep hb (by simpa using hne)
 cases hg : vg 0 (s.data.toList.drop a) with
 | none =>
  have hn : (st.bind (yfA s.data.toList)) = none := by
   rw [hst]; split
   ·simp [yfA, hg]
   ·rfl
  rw [hg] at hv
  obtain ⟨e1, he1, rfl⟩ := hv
  refine ⟨_, _, _, rfl, yaE.of0 (Mod.refl _), fun w6 A6 h6 => ?_⟩
  refine (ydW (st := st) ⟨a, e, h6, ha, hst⟩ (to := 0) (e1 := e1) (by omega)).mono ?_
  rintro _ w7 ⟨rfl, M7, h7⟩
  have h70 := h7
  obtain ⟨a7, e7, hh7, _⟩ := h7
  refine ⟨_, rfl, _, _, _, hh7, ?_⟩
  have eb : (st.isSome && decide (e1 = 0)) = false := by simp [he1]
  rw [eb, ydP]
  rw [if_neg (by simp [he1])] at h70
  exact ⟨rfl, bad hn h70 ((A1.mod.trans (A6.mod.trans M7)).less (by simp))⟩
 | some p =>
  rw [hg] at hv
  have hv : v = .tuple #[.int .u64 (p.1 : Nat), .int .i64 ((a + p.2 : Nat) : Int), .int .i64 0] := hv
  subst hv
  have h8 := ygJ (l := s.data.toList) (a := a) (n := p.1) (b := a + p.2) (by simp [yfA, hg])
  have el : s.data.toList.length = s.size := by simp
  refine ⟨_, _, _, rfl, yaE.of0 (Mod.refl _), fun w6 A6 h6 => ?_⟩
  refine (ydW (st := st) ⟨a, e, h6, ha, hst⟩ (to := a + p.2) (e1 := 0) (by omega)).mono ?_
  rintro _ w7 ⟨rfl, M7, h7⟩
  have h70 := h7
  obtain ⟨a7, e7, hh7, _⟩ := h7
  refine ⟨_, rfl, _, _, _, hh7, ?_⟩
  have M77 : Mod [br] w w7 := (A1.mod.trans (A6.mod.trans M7)).less (by simp)
  cases st with
  | none => exact ⟨rfl, bad rfl (by simpa using h70) M77⟩
  | some a' =>
   have ea : a' = a := by
    by_cases he : e = 0
    ·rw [if_pos he] at hst; cases hst; rfl
    ·rw [if_neg he] at hst; cases hst
   subst ea
   have e1 : ybJ s.data.toList (some a') x = (some (a' + p.2), iw .i64 (p.1 : Nat)) := by simp [ybJ, yfA, hg]
   rw [e1]
   refine ydR (M77.keep hb (by simpa using hne)) rfl (by simp; omega) fun w8 h8 M8 => ?_
   have hk : w8.heap[br]? = w7.heap[br]? := by rw [hh7]; exact M8.keep hh7 (by simpa using Ne.symm hne)
   refine ⟨_, _, _, hk.trans hh7, rfl, ?_, h8, (M77.trans M8).less (by simp)⟩
   exact Rd.keep (by simpa using h70) M8 (by simpa using Ne.symm hne)
theorem ynR {s : BA} {br : Nat} {st : Option Nat} {w : World} (hs : s.size ≤ 1000000000000) (h : Rd QT s br st w) {ba off : Nat} {c : Array Value} {T : TypeId} {x : BA} (hb : w.heap[ba]? = some (.cells c T)) (hc : c[off]? = some (.string x)) (hne : ba ≠ br) :
  Calls pP 167 #[.pointer (some ⟨br, 0, none⟩), .pointer (some ⟨ba, off, none⟩)] w fun e w' => e = .returned (.tuple #[]) ∧ Rd QT s br (yfB s.data.toList st x).1 w' ∧ w'.heap[ba]? = some (.cells (c.setIfInBounds off (.string (yfB s.data.toList st x).2)) T) ∧ Mod [br, ba] w w' := by
 have hoff := (Array.getElem?_eq_some_iff.1 hc).1
 have hlt := h.lt
 obtain ⟨a, e, h1, ha, hst⟩ := h
 refine yaP (yJl h1 ?_)
 intro w1 A1
 have s1 := A1.mod.size
 refine (ydN s a 16 hs ha (by omega) w1).mono ?_
 rintro e2 w2 ⟨v, rfl, hv, rfl⟩
 have bad : ∀ {w7 : World}, (st.bind (yl9 16 s.data.toList)) = none → Rd QT s br none w7 → Mod [br] w w7 → Rd QT s br (yfB s.data.toList st x).1 w7 ∧ w7.heap[ba]? = some (.cells (c.setIfInBounds off (.string (yfB s.data.toList st x).2)) T) ∧ Mod [br, ba] w w7 := fun {w7} hn h7 M7 => by
  have e : yfB s.data.toList st x = (none, x) := by unfold yfB; rw [hn]
  rw [e]
  refine ⟨h7, ?_, M7.less (by simp)⟩
  dsimp only
  rw [yJs hc]
  exact M7.keep hb (by simpa using hne)
 cases hg : tg 16 (s.data.toList.drop a) with
 | none =>
  have hn : (st.bind (yl9 16 s.data.toList)) = none := by
   rw [hst]; split
   ·simp [yl9, hg]
   ·rfl
  rw [hg] at hv
  obtain ⟨e1, he1, rfl⟩ := hv
  refine ⟨_, _, _, rfl, yaE.of0 (Mod.refl _), fun w6 A6 h6 => ?_⟩
  refine (ydW (st := st) ⟨a, e, h6, ha, hst⟩ (to := 0) (e1 := e1) (by omega)).mono ?_
  rintro _ w7 ⟨rfl, M7, h7⟩
  have h70 := h7
  obtain ⟨a7, e7, hh7, _⟩ := h7
  refine ⟨_, rfl, _, _, _, hh7, ?_⟩
  have eb : (st.isSome && decide (e1 = 0)) = false := by simp [he1]
  rw [eb, ydP]
  rw [if_neg (by simp [he1])] at h70
  exact ⟨rfl, bad hn h70 ((A1.mod.trans (A6.mod.trans M7)).less (by simp))⟩
 | some p =>
  rw [hg] at hv
  have hv : v = .tuple #[.string p.1, .int .i64 ((a + p.2 : Nat) : Int), .int .i64 0] := hv
  subst hv
  have h8 := ynQ (lim := 16) (l := s.data.toList) (a := a) (t := p.1) (b := a + p.2) (by simp [yl9, hg])
  have el : s.data.toList.length = s.size := by simp
  refine ⟨_, _, _, rfl, yaE.of0 (Mod.refl _), fun w6 A6 h6 => ?_⟩
  refine (ydW (st := st) ⟨a, e, h6, ha, hst⟩ (to := a + p.2) (e1 := 0) (by omega)).mono ?_
  rintro _ w7 ⟨rfl, M7, h7⟩
  have h70 := h7
  obtain ⟨a7, e7, hh7, _⟩ := h7
  refine ⟨_, rfl, _, _, _, hh7, ?_⟩
  have M77 : Mod [br] w w7 := (A1.mod.trans (A6.mod.trans M7)).less (by simp)
  cases st with
  | none => exact ⟨rfl, bad rfl (by simpa using h70) M77⟩
  | some a' =>
   have ea : a' = a := by
    by_cases he : e = 0
    ·rw [if_pos he] at hst; cases hst; rfl
    ·rw [if_neg he] at hst; cases hst
   subst ea
   have e1 : yfB s.data.toList (some a') x = (some (a' + p.2), p.1) := by simp [yfB, yl9, hg]
   rw [e1]
   refine ydR (M77.keep hb (by simpa using hne)) rfl (by simp; omega) fun w8 h8 M8 => ?_
   have hk : w8.heap[br]? = w7.heap[br]? := by rw [hh7]; exact M8.keep hh7 (by simpa using Ne.symm hne)
   refine ⟨_, _, _, hk.trans hh7, rfl, ?_, h8, (M77.trans M8).less (by simp)⟩
   exact Rd.keep (by simpa using h70) M8 (by simpa using Ne.symm hne)
end Go.Proofs.YtkbcmppbjfpjmaaGreat
