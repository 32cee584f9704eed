/- MessageOwn, for every input. No conditions. -/
import Derived.Test.YtkbcmppbjfpjmaaGreatPMOwnK4
namespace Go.Proofs.YtkbcmppbjfpjmaaGreat
open Go Go.RowKit
set_option linter.all false
section
set_option maxRecDepth 100000
variable {R : VWP} {w w0 : World} {m : Nat} {i0 i1 i2 i3 i4 i5 i6 i7 i8 i9 j0 j1 j2 j3 j4 j5 j6 j7 j8 j9 k0 k1 k2 k3 k4 k5 k6 k7 k8 k9 l0 l1 l2 l3 l4 l5 l6 l7 l8 l9 : Int} {s0 s1 s2 s3 s4 s5 s6 s7 s8 s9 t0 t1 t2 t3 t4 t5 t6 t7 t8 t9 : BA} {n0 n1 n2 n3 n4 n5 n6 n7 n8 n9 o0 o1 o2 o3 o4 o5 o6 o7 o8 o9 p0 p1 p2 p3 p4 p5 p6 p7 p8 p9 : Nat} {q0 q1 q2 q3 q4 q5 q6 q7 q8 q9 r0 r1 r2 r3 r4 r5 r6 r7 r8 r9 : OA} {B0 B1 B2 B3 B4 B5 B6 B7 B8 B9 : Bool} {M0 M1 M2 M3 : Option Nat} {V0 V1 V2 V3 V4 V5 : Value} {A0 A1 A2 : Addr}
def ynX : LA := ⟨[0, 0, 1, 0, 1, 1, 1, 1], [0, 2, 4, 5, 6, 7, 8, 26, 27, 28], [(2, 0, 0), (4, 1, 0), (5, 2, 0), (6, 3, 0), (7, 4, 0), (8, 5, 0)], 6, [1, 2, 3, 4]⟩
def ynY : LA := ⟨[0, 0, 1, 0, 1, 1, 1, 1, 1, 1], [0, 2, 4, 5, 7, 8, 11], [(2, 0, 0), (4, 1, 0), (5, 2, 0), (7, 4, 0), (8, 5, 0)], 6, [1, 2, 3, 4]⟩
def ygL : LA := ⟨[0, 0, 1, 0, 1, 1, 1, 1, 1, 1, 1, 1], [0, 2, 4, 5, 8, 16], [(2, 0, 0), (4, 1, 0), (5, 2, 0), (8, 5, 0)], 6, [1, 2, 3, 4, 5]⟩
def ynZ : List LA := [ynX, ynY, ygL]
abbrev yhR := dnF pP ynZ (code Tryz.f81)
abbrev yHR := yaO pP ynZ (code Tryz.f81)
abbrev yjU (p : List Nat) (K : List Kh) (R : VWP) := yaO pP ynZ (code Tryz.f81) p K (ya4 pP Tryz.f81 [] R)
def yhG (b9 : BA) (b5 : OA) (b7 b6 bm0 bm1 bm2 bm3 bm4 bm5 : Nat) : Int × ByteArray × Int × Int × Int × Int × Int × Int × (Option Addr) × Nat × Nat × (Option Addr) × Nat × Nat × Int × Int → List Value × List TB := fun (b8, a6, a7, a8, a9, b0, b1, b2, a0, a4, a2, a1, a5, a3, b3, b4) => ([.string b9, (.pointer (some ⟨bm0, 0, none⟩)), (.pointer (some ⟨bm1, 0, none⟩)), (.pointer (some ⟨bm2, 0, none⟩)), (.pointer (some ⟨bm3, 0, none⟩)), (.pointer (some ⟨bm4, 0, none⟩)), (.pointer (some ⟨bm5, 0, none⟩)), .slice b5 b7 b6, (.int .i64 (5 : Int)), .int .i64 b8], [⟨bm0, 27, [.int .i64 0, .int .i64 0, .int .i64 0, .int .i64 0, .slice none 0 0, .slice none 0 0], false⟩, ⟨bm1, 151, [.string a6, .int .i64 a7, .int .i64 a8], true⟩, ⟨bm2, 27, [.int .i64 a9, .int .i64 b0, .int .i64 b1, .int .i64 b2, .slice a0 a4 a2, .slice a1 a5 a3], true⟩, ⟨bm3, 3, [.int .i64 b3], true⟩, ⟨bm4, 3, [.int .i64 b4], true⟩, ⟨bm5, 3, [.int .i64 0], false⟩])
def yeK (b6 : BA) (bm0 bm1 bm2 bm3 bm4 bm5 : Nat) : Int × ByteArray × Int × Int × Int × Int × Int × Int × (Option Addr) × Nat × Nat × (Option Addr) × Nat × Nat × Int × Int → List Value × List TB := fun (b5, a6, a7, a8, a9, b0, b1, b2, a0, a4, a2, a1, a5, a3, b3, b4) => ([.string b6, (.pointer (some ⟨bm0, 0, none⟩)), (.pointer (some ⟨bm1, 0, none⟩)), (.pointer (some ⟨bm2, 0, none⟩)), (.pointer (some ⟨bm4, 0, none⟩)), (.pointer (some ⟨bm5, 0, none⟩)), .int .i64 b5], [⟨bm0, 27, [.int .i64 0, .int .i64 0, .int .i64 0, .int .i64 0, .slice none 0 0, .slice none 0 0], false⟩, ⟨bm1, 151, [.string a6, .int .i64 a7, .int .i64 a8], true⟩, ⟨bm2, 27, [.int .i64 a9, .int .i64 b0, .int .i64 b1, .int .i64 b2, .slice a0 a4 a2, .slice a1 a5 a3], true⟩, ⟨bm3, 3, [.int .i64 b3], true⟩, ⟨bm4, 3, [.int .i64 b4], true⟩, ⟨bm5, 3, [.int .i64 0], false⟩])
def yeZ (b7 : BA) (bm0 bm1 bm2 bm3 bm4 bm5 : Nat) : Int × ByteArray × Int × Int × Int × Int × Int × Int × (Option Addr) × Nat × Nat × (Option Addr) × Nat × Nat × Int × Int × Int → List Value × List TB := fun (b6, a6, a7, a8, a9, b0, b1, b2, a0, a4, a2, a1, a5, a3, b3, b4, b5) => ([.string b7, (.pointer (some ⟨bm0, 0, none⟩)), (.pointer (some ⟨bm1, 0, none⟩)), (.pointer (some ⟨bm2, 0, none⟩)), (.pointer (some ⟨bm5, 0, none⟩)), .int .i64 b6], [⟨bm0, 27, [.int .i64 0, .int .i64 0, .int .i64 0, .int .i64 0, .slice none 0 0, .slice none 0 0], false⟩, ⟨bm1, 151, [.string a6, .int .i64 a7, .int .i64 a8], true⟩, ⟨bm2, 27, [.int .i64 a9, .int .i64 b0, .int .i64 b1, .int .i64 b2, .slice a0 a4 a2, .slice a1 a5 a3], true⟩, ⟨bm3, 3, [.int .i64 b3], true⟩, ⟨bm4, 3, [.int .i64 b4], true⟩, ⟨bm5, 3, [.int .i64 b5], true⟩])
abbrev yAv (a3 : BA) (a0 : OA) (a2 a1 bm0 bm1 bm2 bm3 bm4 bm5 : Nat) (I : Nat → Int → ByteArray → Int → Int → Int → Int → Int → Int → Option Addr → Nat → Nat → Option Addr → Nat → Nat → Int → Int → World → Prop) (m : Nat) : Kh := KG (yhG a3 a0 a2 a1 bm0 bm1 bm2 bm3 bm4 bm5) (U16 I) m
theorem yd2 {I : Nat → Int → ByteArray → Int → Int → Int → Int → Int → Int → Option Addr → Nat → Nat → Option Addr → Nat → Nat → Int → Int → World → Prop} (m' : Nat) (h1 : m' < m) (h2 : I m' i0 s1 i1 i2 i3 i4 i5 i6 q1 n8 n9 q2 o0 o1 i7 i8 w) : KS (yAv s0 q0 n0 n1 n2 n3 n4 n5 n6 n7 I m) (yhG s0 q0 n0 n1 n2 n3 n4 n5 n6 n7 (i0, s1, i1, i2, i3, i4, i5, i6, q1, n8, n9, q2, o0, o1, i7, i8)) w := ⟨m', h1, _, rfl, rfl, h2⟩
theorem yvG (I : Nat → Int → ByteArray → Int → Int → Int → Int → Int → Int → Option Addr → Nat → Nat → Option Addr → Nat → Nat → Int → Int → World → Prop) (m0 : Nat) (h0 : I m0 i0 s1 i1 i2 i3 i4 i5 i6 q1 n8 n9 q2 o0 o1 i7 i8 w0)
 (hr : ∀ m b6 a7 a8 a9 b4 b0 b1 b2 a1 a5 a3 a2 a6 a4 a0 b3 w, I m b6 a7 a8 a9 b4 b0 b1 b2 a1 a5 a3 a2 a6 a4 a0 b3 w →
 w.heap[n3]? = some (.cells (Z2 a7 a8 a9) 151) →
 w.heap[n4]? = some (.cells (Z3 b4 b0 b1 b2 a1 a5 a3 a2 a6 a4) 27) →
 w.heap[n5]? = some (.cells #[.int .i64 a0] 3) →
 w.heap[n6]? = some (.cells #[.int .i64 b3] 3) →
 brB (decide (b6 < (5 : Int))) (
 ixA q0 n0 b6 1 fun f4 =>
 yn6 w f4 fun f3 =>
 Calls pP 112 #[(.pointer (some ⟨n3, 0, none⟩)), .pointer f3] w fun e c6 => e = .returned (.tuple #[]) ∧ yaZ [n3, n4, n5, n6] [(n2, 27), (n7, 3)] [n2, n7] w c6 ∧ ∃ e4 e5 e6, c6.heap[n3]? = some (.cells (Z2 e4 e5 e6) 151) ∧ ∃ e7 e8 e9 f0 d8 e2 e0 d9 e3 e1, c6.heap[n4]? = some (.cells (Z3 e7 e8 e9 f0 d8 e2 e0 d9 e3 e1) 27) ∧ ∃ f1, c6.heap[n5]? = some (.cells #[.int .i64 f1] 3) ∧ ∃ f2, c6.heap[n6]? = some (.cells #[.int .i64 f2] 3) ∧
 KS (yAv s0 q0 n0 n1 n2 n3 n4 n5 n6 n7 I m) (yhG s0 q0 n0 n1 n2 n3 n4 n5 n6 n7 ((IntKind.wrap .i64 (b6 + 1)), e4, e5, e6, e7, e8, e9, f0, d8, e2, e0, d9, e3, e1, f1, f2)) c6)
 (
 ∀ b5, Adv [n4] [] w b5 → b5.heap[n3]? = some (.cells (Z2 a7 a8 a9) 151) →
 b5.heap[n4]? = some (.cells (Z3 a0 b0 b1 b2 a1 a5 a3 a2 a6 a4) 27) →
 b5.heap[n5]? = some (.cells #[.int .i64 a0] 3) →
 b5.heap[n6]? = some (.cells #[.int .i64 b3] 3) →
 yaJ ynY (yhR 392 [0, 0, 1, 0, 1, 1, 1, 1, 1, 1]) (yjU [1, 1, 1, 1, 1, 1, 0, 1, 0] [] R) (yeK s0 n2 n3 n4 n5 n6 n7 (0, a7, a8, a9, a0, b0, b1, b2, a1, a5, a3, a2, a6, a4, a0, b3)) b5)) :
 yaJ ynX (yhR 394 [0, 0, 1, 0, 1, 1, 1, 1]) (yjU [1, 1, 1, 1, 0, 1, 0] [] R) (yhG s0 q0 n0 n1 n2 n3 n4 n5 n6 n7 (i0, s1, i1, i2, i3, i4, i5, i6, q1, n8, n9, q2, o0, o1, i7, i8)) w0 :=
 lrule (yhG s0 q0 n0 n1 n2 n3 n4 n5 n6 n7) (U16 I) h0 (by rintro m ⟨b6, a7, a8, a9, b4, b0, b1, b2, a1, a5, a3, a2, a6, a4, a0, b3⟩ w h; exact ⟨by kernel_rfl, by kernel_rfl, fun js => Eq.mpr (by kernel_rfl) (hr m b6 a7 a8 a9 b4 b0 b1 b2 a1 a5 a3 a2 a6 a4 a0 b3 w h)⟩)
abbrev yjV (a0 : BA) (bm0 bm1 bm2 bm3 bm4 bm5 : Nat) (I : Nat → Int → ByteArray → Int → Int → Int → Int → Int → Int → Option Addr → Nat → Nat → Option Addr → Nat → Nat → Int → Int → World → Prop) (m : Nat) : Kh := KG (yeK a0 bm0 bm1 bm2 bm3 bm4 bm5) (U16 I) m
theorem ye8 {I : Nat → Int → ByteArray → Int → Int → Int → Int → Int → Int → Option Addr → Nat → Nat → Option Addr → Nat → Nat → Int → Int → World → Prop} (m' : Nat) (h1 : m' < m) (h2 : I m' i0 s1 i1 i2 i3 i4 i5 i6 q0 n6 n7 q1 n8 n9 i7 i8 w) : KS (yjV s0 n0 n1 n2 n3 n4 n5 I m) (yeK s0 n0 n1 n2 n3 n4 n5 (i0, s1, i1, i2, i3, i4, i5, i6, q0, n6, n7, q1, n8, n9, i7, i8)) w := ⟨m', h1, _, rfl, rfl, h2⟩
theorem yvH (I : Nat → Int → ByteArray → Int → Int → Int → Int → Int → Int → Option Addr → Nat → Nat → Option Addr → Nat → Nat → Int → Int → World → Prop) (m0 : Nat) (h0 : I m0 i0 s1 i1 i2 i3 i4 i5 i6 q0 n6 n7 q1 n8 n9 i7 i8 w0)
 (hr : ∀ m c3 a9 b0 a1 b1 b2 b3 b4 a3 a7 a5 a4 a8 a6 b5 a2 w, I m c3 a9 b0 a1 b1 b2 b3 b4 a3 a7 a5 a4 a8 a6 b5 a2 w →
 w.heap[n1]? = some (.cells (Z2 a9 b0 a1) 151) →
 w.heap[n2]? = some (.cells (Z3 b1 b2 b3 b4 a3 a7 a5 a4 a8 a6) 27) →
 w.heap[n3]? = some (.cells #[.int .i64 b5] 3) →
 w.heap[n4]? = some (.cells #[.int .i64 a2] 3) →
 brB (decide (c3 < a2)) (
 brB (a1 == 0) (
 ∀ a0, w.heap.size ≤ a0 →
 ∀ e8, Adv [] [a0] w e8 → e8.heap[n1]? = some (.cells (Z2 a9 b0 a1) 151) →
 e8.heap[n2]? = some (.cells (Z3 b1 b2 b3 b4 a3 a7 a5 a4 a8 a6) 27) →
 e8.heap[n3]? = some (.cells #[.int .i64 b5] 3) →
 e8.heap[n4]? = some (.cells #[.int .i64 a2] 3) →
 e8.heap[a0]? = some (.cells (Z6 0 false ByteArray.empty false ByteArray.empty) 55) →
 Calls pP 112 #[(.pointer (some ⟨n1, 0, none⟩)), (.pointer (some ⟨a0, 0, none⟩))] e8 fun e d3 => e = .returned (.tuple #[]) ∧ yaZ [n1, n2, n3, n4, a0] [(n0, 27), (n5, 3)] [n0, n5] e8 d3 ∧ ∃ v0 v1 ci, d3.heap[n1]? = some (.cells (Z2 v0 v1 ci) 151) ∧ ∃ cj ck cl cm x8 ac z0 x9 ad z1, d3.heap[n2]? = some (.cells (Z3 cj ck cl cm x8 ac z0 x9 ad z1) 27) ∧ ∃ cn, d3.heap[n3]? = some (.cells #[.int .i64 cn] 3) ∧ ∃ co, d3.heap[n4]? = some (.cells #[.int .i64 co] 3) ∧ ∃ cp ap aj aq ak, d3.heap[a0]? = some (.cells (Z6 cp ap aj aq ak) 55) ∧
 ((
 ∀ d2, d3.heap.size ≤ d2 →
 ∀ e9, Adv [] [d2] d3 e9 → e9.heap[n1]? = some (.cells (Z2 v0 v1 ci) 151) →
 e9.heap[n2]? = some (.cells (Z3 cj ck cl cm x8 ac z0 x9 ad z1) 27) →
 e9.heap[n3]? = some (.cells #[.int .i64 cn] 3) →
 e9.heap[n4]? = some (.cells #[.int .i64 co] 3) →
 e9.heap[a0]? = some (.cells (Z6 cp ap aj aq ak) 55) →
 Calls pP 113 #[.string v0, .int .i64 v1] e9 fun e f2 => ∃ w5 w3 w6 w4 dc dd, e = .returned (.tuple #[(.agg (Z7 w5 w3 w6 w4)), .int .i64 dc, .int .i64 dd]) ∧ yaZ [n1, n2, n3, n4, a0] [(n0, 27), (n5, 3), (d2, 53)] [n0, n5, d2] e9 f2 ∧ ∃ cw de df, f2.heap[n1]? = some (.cells (Z2 cw de df) 151) ∧ ∃ dg dh di dj cq cu cs cr cv ct, f2.heap[n2]? = some (.cells (Z3 dg dh di dj cq cu cs cr cv ct) 27) ∧ ∃ dk, f2.heap[n3]? = some (.cells #[.int .i64 dk] 3) ∧ ∃ dl, f2.heap[n4]? = some (.cells #[.int .i64 dl] 3) ∧ ∃ dm cz cx da cy, f2.heap[a0]? = some (.cells (Z6 dm cz cx da cy) 55) ∧
 ∀ f0, Adv [d2] [] f2 f0 → f0.heap[n1]? = some (.cells (Z2 cw de df) 151) →
 f0.heap[n2]? = some (.cells (Z3 dg dh di dj cq cu cs cr cv ct) 27) →
 f0.heap[n3]? = some (.cells #[.int .i64 dk] 3) →
 f0.heap[n4]? = some (.cells #[.int .i64 dl] 3) →
 f0.heap[a0]? = some (.cells (Z6 dm cz cx da cy) 55) →
 Calls pP 114 (Z10 (some ⟨n1, 0, none⟩) dc dd) f0 fun e f1 => ∃ db, e = .returned (.bool db) ∧ yaZ [n1, n2, n3, n4, a0] [(n0, 27), (n5, 3), (d2, 53)] [n0, n5, d2] f0 f1 ∧ ∃ g2 g4 g5, f1.heap[n1]? = some (.cells (Z2 g2 g4 g5) 151) ∧ ∃ g6 g7 g8 g9 v9 w2 w1 f3 f9 f6, f1.heap[n2]? = some (.cells (Z3 g6 g7 g8 g9 v9 w2 w1 f3 f9 f6) 27) ∧ ∃ h1, f1.heap[n3]? = some (.cells #[.int .i64 h1] 3) ∧ ∃ h2, f1.heap[n4]? = some (.cells #[.int .i64 h2] 3) ∧ ∃ h3 ar v2 v6 v3, f1.heap[a0]? = some (.cells (Z6 h3 ar v2 v6 v3) 55) ∧
 brB db (
 ∀ c4, Adv [a0] [] f1 c4 → c4.heap[n1]? = some (.cells (Z2 g2 g4 g5) 151) →
 c4.heap[n2]? = some (.cells (Z3 g6 g7 g8 g9 v9 w2 w1 f3 f9 f6) 27) →
 c4.heap[n3]? = some (.cells #[.int .i64 h1] 3) →
 c4.heap[n4]? = some (.cells #[.int .i64 h2] 3) →
 c4.heap[a0]? = some (.cells (Z6 h3 w5 w3 w6 w4) 55) →
 al c4 (.cells (Z6 h3 w5 w3 w6 w4) 55) fun dn au =>
 ycN pP (Builtin.append_ #[24, 24] 24 #[.slice v9 w2 w1, (.slice (some ⟨dn, 0, none⟩) 1 1)]) au fun w8 z2 y0 av => yaI [n0, n1, n2, n3, n4, n5, a0, d2] au av ∧
 ∀ c5, Adv [n2] [] av c5 → c5.heap[n1]? = some (.cells (Z2 g2 g4 g5) 151) →
 c5.heap[n2]? = some (.cells (Z3 g6 g7 g8 g9 w8 z2 y0 f3 f9 f6) 27) →
 c5.heap[n3]? = some (.cells #[.int .i64 h1] 3) →
 c5.heap[n4]? = some (.cells #[.int .i64 h2] 3) →
 c5.heap[a0]? = some (.cells (Z6 h3 w5 w3 w6 w4) 55) →
 KS (yjV s0 n0 n1 n2 n3 n4 n5 I m) (yeK s0 n0 n1 n2 n3 n4 n5 ((IntKind.wrap .i64 (c3 + 1)), g2, g4, g5, g6, g7, g8, g9, w8, z2, y0, f3, f9, f6, h1, h2)) c5)
 (
 al f1 (.cells (Z6 h3 ar v2 v6 v3) 55) fun dp aw =>
 ycN pP (Builtin.append_ #[24, 24] 24 #[.slice v9 w2 w1, (.slice (some ⟨dp, 0, none⟩) 1 1)]) aw fun w9 z3 y1 ax => yaI [n0, n1, n2, n3, n4, n5, a0, d2] aw ax ∧
 ∀ c6, Adv [n2] [] ax c6 → c6.heap[n1]? = some (.cells (Z2 g2 g4 g5) 151) →
 c6.heap[n2]? = some (.cells (Z3 g6 g7 g8 g9 w9 z3 y1 f3 f9 f6) 27) →
 c6.heap[n3]? = some (.cells #[.int .i64 h1] 3) →
 c6.heap[n4]? = some (.cells #[.int .i64 h2] 3) →
 c6.heap[a0]? = some (.cells (Z6 h3 ar v2 v6 v3) 55) →
 KS (yjV s0 n0 n1 n2 n3 n4 n5 I m) (yeK s0 n0 n1 n2 n3 n4 n5 ((IntKind.wrap .i64 (c3 + 1)), g2, g4, g5, g6, g7, g8, g9, w9, z3, y1, f3, f9, f6, h1, h2)) c6)) ∧
 (
 ∀ b7, Adv [] [] d3 b7 → b7.heap[n1]? = some (.cells (Z2 v0 v1 ci) 151) →
 b7.heap[n2]? = some (.cells (Z3 cj ck cl cm x8 ac z0 x9 ad z1) 27) →
 b7.heap[n3]? = some (.cells #[.int .i64 cn] 3) →
 b7.heap[n4]? = some (.cells #[.int .i64 co] 3) →
 b7.heap[a0]? = some (.cells (Z6 cp ap aj aq ak) 55) →
 Calls pP 113 #[.string v0, .int .i64 v1] b7 fun e b8 => ∃ u7 u5 u9 u6 bc bd, e = .returned (.tuple #[(.agg (Z7 u7 u5 u9 u6)), .int .i64 bc, .int .i64 bd]) ∧ yaZ [n1, n2, n3, n4, a0] [(n0, 27), (n5, 3)] [n0, n5] b7 b8 ∧ ∃ ae be bf, b8.heap[n1]? = some (.cells (Z2 ae be bf) 151) ∧ ∃ bg bh bi bj x0 z4 y2 x1 z5 y3, b8.heap[n2]? = some (.cells (Z3 bg bh bi bj x0 z4 y2 x1 z5 y3) 27) ∧ ∃ bk, b8.heap[n3]? = some (.cells #[.int .i64 bk] 3) ∧ ∃ bl, b8.heap[n4]? = some (.cells #[.int .i64 bl] 3) ∧ ∃ bm am af an ag, b8.heap[a0]? = some (.cells (Z6 bm am af an ag) 55) ∧
 ∀ d5, b8.heap.size ≤ d5 →
 ∀ b9, Adv [] [d5] b8 b9 → b9.heap[n1]? = some (.cells (Z2 ae be bf) 151) →
 b9.heap[n2]? = some (.cells (Z3 bg bh bi bj x0 z4 y2 x1 z5 y3) 27) →
 b9.heap[n3]? = some (.cells #[.int .i64 bk] 3) →
 b9.heap[n4]? = some (.cells #[.int .i64 bl] 3) →
 b9.heap[a0]? = some (.cells (Z6 bm am af an ag) 55) →
 Calls pP 114 (Z10 (some ⟨n1, 0, none⟩) bc bd) b9 fun e c0 => ∃ ao, e = .returned (.bool ao) ∧ yaZ [n1, n2, n3, n4, a0] [(n0, 27), (n5, 3), (d5, 53)] [n0, n5, d5] b9 c0 ∧ ∃ d8 d9 e0, c0.heap[n1]? = some (.cells (Z2 d8 d9 e0) 151) ∧ ∃ e1 e2 e3 e4 u2 u4 u3 d4 d7 d6, c0.heap[n2]? = some (.cells (Z3 e1 e2 e3 e4 u2 u4 u3 d4 d7 d6) 27) ∧ ∃ e5, c0.heap[n3]? = some (.cells #[.int .i64 e5] 3) ∧ ∃ e6, c0.heap[n4]? = some (.cells #[.int .i64 e6] 3) ∧ ∃ e7 v7 v4 v8 v5, c0.heap[a0]? = some (.cells (Z6 e7 v7 v4 v8 v5) 55) ∧
 brB ao (
 ∀ c7, Adv [a0] [] c0 c7 → c7.heap[n1]? = some (.cells (Z2 d8 d9 e0) 151) →
 c7.heap[n2]? = some (.cells (Z3 e1 e2 e3 e4 u2 u4 u3 d4 d7 d6) 27) →
 c7.heap[n3]? = some (.cells #[.int .i64 e5] 3) →
 c7.heap[n4]? = some (.cells #[.int .i64 e6] 3) →
 c7.heap[a0]? = some (.cells (Z6 e7 u7 u5 u9 u6) 55) →
 al c7 (.cells (Z6 e7 u7 u5 u9 u6) 55) fun dq ay =>
 ycN pP (Builtin.append_ #[24, 24] 24 #[.slice u2 u4 u3, (.slice (some ⟨dq, 0, none⟩) 1 1)]) ay fun x2 z6 y4 az => yaI [n0, n1, n2, n3, n4, n5, a0, d5] ay az ∧
 ∀ c8, Adv [n2] [] az c8 → c8.heap[n1]? = some (.cells (Z2 d8 d9 e0) 151) →
 c8.heap[n2]? = some (.cells (Z3 e1 e2 e3 e4 x2 z6 y4 d4 d7 d6) 27) →
 c8.heap[n3]? = some (.cells #[.int .i64 e5] 3) →
 c8.heap[n4]? = some (.cells #[.int .i64 e6] 3) →
 c8.heap[a0]? = some (.cells (Z6 e7 u7 u5 u9 u6) 55) →
 KS (yjV s0 n0 n1 n2 n3 n4 n5 I m) (yeK s0 n0 n1 n2 n3 n4 n5 ((IntKind.wrap .i64 (c3 + 1)), d8, d9, e0, e1, e2, e3, e4, x2, z6, y4, d4, d7, d6, e5, e6)) c8)
 (
 al c0 (.cells (Z6 e7 v7 v4 v8 v5) 55) fun dr ba =>
 ycN pP (Builtin.append_ #[24, 24] 24 #[.slice u2 u4 u3, (.slice (some ⟨dr, 0, none⟩) 1 1)]) ba fun x3 z7 y5 bb => yaI [n0, n1, n2, n3, n4, n5, a0, d5] ba bb ∧
 ∀ c9, Adv [n2] [] bb c9 → c9.heap[n1]? = some (.cells (Z2 d8 d9 e0) 151) →
 c9.heap[n2]? = some (.cells (Z3 e1 e2 e3 e4 x3 z7 y5 d4 d7 d6) 27) →
 c9.heap[n3]? = some (.cells #[.int .i64 e5] 3) →
 c9.heap[n4]? = some (.cells #[.int .i64 e6] 3) →
 c9.heap[a0]? = some (.cells (Z6 e7 v7 v4 v8 v5) 55) →
 KS (yjV s0 n0 n1 n2 n3 n4 n5 I m) (yeK s0 n0 n1 n2 n3 n4 n5 ((IntKind.wrap .i64 (c3 + 1)), d8, d9, e0, e1, e2, e3, e4, x3, z7, y5, d4, d7, d6, e5, e6)) c9))))
 (
 ∀ c1, Adv [] [] w c1 → c1.heap[n1]? = some (.cells (Z2 a9 b0 a1) 151) →
 c1.heap[n2]? = some (.cells (Z3 b1 b2 b3 b4 a3 a7 a5 a4 a8 a6) 27) →
 c1.heap[n3]? = some (.cells #[.int .i64 b5] 3) →
 c1.heap[n4]? = some (.cells #[.int .i64 a2] 3) →
 c1.heap[n5]? = some (.cells #[.int .i64 0] 3) →
 Calls pP 112 #[(.pointer (some ⟨n1, 0, none⟩)), (.pointer (some ⟨n5, 0, none⟩))] c1 fun e d0 => e = .returned (.tuple #[]) ∧ yaZ [n1, n2, n3, n4, n5] [(n0, 27)] [n0] c1 d0 ∧ ∃ ah bn bo, d0.heap[n1]? = some (.cells (Z2 ah bn bo) 151) ∧ ∃ bp bq br bt x4 z8 y6 x5 z9 y7, d0.heap[n2]? = some (.cells (Z3 bp bq br bt x4 z8 y6 x5 z9 y7) 27) ∧ ∃ bu, d0.heap[n3]? = some (.cells #[.int .i64 bu] 3) ∧ ∃ bv, d0.heap[n4]? = some (.cells #[.int .i64 bv] 3) ∧ ∃ bw, d0.heap[n5]? = some (.cells #[.int .i64 bw] 3) ∧
 yaJ ygL (yhR 390 [0, 0, 1, 0, 1, 1, 1, 1, 1, 1, 1, 1]) (yjU [1, 1, 1, 1, 1, 1, 1, 1, 0, 1, 0] [] R) (yeZ s0 n0 n1 n2 n3 n4 n5 (0, ah, bn, bo, bp, bq, br, bt, x4, z8, y6, x5, z9, y7, bu, bv, bw)) d0))
 (
 ∀ c2, Adv [] [] w c2 → c2.heap[n1]? = some (.cells (Z2 a9 b0 a1) 151) →
 c2.heap[n2]? = some (.cells (Z3 b1 b2 b3 b4 a3 a7 a5 a4 a8 a6) 27) →
 c2.heap[n3]? = some (.cells #[.int .i64 b5] 3) →
 c2.heap[n4]? = some (.cells #[.int .i64 a2] 3) →
 c2.heap[n5]? = some (.cells #[.int .i64 0] 3) →
 Calls pP 112 #[(.pointer (some ⟨n1, 0, none⟩)), (.pointer (some ⟨n5, 0, none⟩))] c2 fun e d1 => e = .returned (.tuple #[]) ∧ yaZ [n1, n2, n3, n4, n5] [(n0, 27)] [n0] c2 d1 ∧ ∃ ai bx bz, d1.heap[n1]? = some (.cells (Z2 ai bx bz) 151) ∧ ∃ ca cb cc cd x6 aa y8 x7 ab y9, d1.heap[n2]? = some (.cells (Z3 ca cb cc cd x6 aa y8 x7 ab y9) 27) ∧ ∃ ce, d1.heap[n3]? = some (.cells #[.int .i64 ce] 3) ∧ ∃ cf, d1.heap[n4]? = some (.cells #[.int .i64 cf] 3) ∧ ∃ ch, d1.heap[n5]? = some (.cells #[.int .i64 ch] 3) ∧
 yaJ ygL (yhR 390 [0, 0, 1, 0, 1, 1, 1, 1, 1, 1, 1, 1]) (yjU [1, 1, 1, 1, 1, 1, 1, 1, 0, 1, 0] [] R) (yeZ s0 n0 n1 n2 n3 n4 n5 (0, ai, bx, bz, ca, cb, cc, cd, x6, aa, y8, x7, ab, y9, ce, cf, ch)) d1)) :
 yaJ ynY (yhR 392 [0, 0, 1, 0, 1, 1, 1, 1, 1, 1]) (yjU [1, 1, 1, 1, 1, 1, 0, 1, 0] [] R) (yeK s0 n0 n1 n2 n3 n4 n5 (i0, s1, i1, i2, i3, i4, i5, i6, q0, n6, n7, q1, n8, n9, i7, i8)) w0 :=
 lrule (yeK s0 n0 n1 n2 n3 n4 n5) (U16 I) h0 (by rintro m ⟨c3, a9, b0, a1, b1, b2, b3, b4, a3, a7, a5, a4, a8, a6, b5, a2⟩ w h; exact ⟨by kernel_rfl, by kernel_rfl, fun js => Eq.mpr (by kernel_rfl) (hr m c3 a9 b0 a1 b1 b2 b3 b4 a3 a7 a5 a4 a8 a6 b5 a2 w h)⟩)
abbrev yAw (a0 : BA) (bm0 bm1 bm2 bm3 bm4 bm5 : Nat) (I : Nat → Int → ByteArray → Int → Int → Int → Int → Int → Int → Option Addr → Nat → Nat → Option Addr → Nat → Nat → Int → Int → Int → World → Prop) (m : Nat) : Kh := KG (yeZ a0 bm0 bm1 bm2 bm3 bm4 bm5) (U17 I) m
theorem yvI {I : Nat → Int → ByteArray → Int → Int → Int → Int → Int → Int → Option Addr → Nat → Nat → Option Addr → Nat → Nat → Int → Int → Int → World → Prop} (m' : Nat) (h1 : m' < m) (h2 : I m' i0 s1 i1 i2 i3 i4 i5 i6 q0 n6 n7 q1 n8 n9 i7 i8 i9 w) : KS (yAw s0 n0 n1 n2 n3 n4 n5 I m) (yeZ s0 n0 n1 n2 n3 n4 n5 (i0, s1, i1, i2, i3, i4, i5, i6, q0, n6, n7, q1, n8, n9, i7, i8, i9)) w := ⟨m', h1, _, rfl, rfl, h2⟩
theorem yvJ (I : Nat → Int → ByteArray → Int → Int → Int → Int → Int → Int → Option Addr → Nat → Nat → Option Addr → Nat → Nat → Int → Int → Int → World → Prop) (m0 : Nat) (h0 : I m0 i0 s1 i1 i2 i3 i4 i5 i6 q0 n6 n7 q1 n8 n9 i7 i8 i9 w0)
 (hr : ∀ m g2 b6 b9 b2 a6 a7 a8 a9 a0 a4 a2 a1 a5 a3 c0 c1 b3 w, I m g2 b6 b9 b2 a6 a7 a8 a9 a0 a4 a2 a1 a5 a3 c0 c1 b3 w →
 w.heap[n1]? = some (.cells (Z2 b6 b9 b2) 151) →
 w.heap[n2]? = some (.cells (Z3 a6 a7 a8 a9 a0 a4 a2 a1 a5 a3) 27) →
 w.heap[n3]? = some (.cells #[.int .i64 c0] 3) →
 w.heap[n4]? = some (.cells #[.int .i64 c1] 3) →
 w.heap[n5]? = some (.cells #[.int .i64 b3] 3) →
 brB (decide (g2 < b3)) (
 brB (b2 == 0) (
 ∀ b5, w.heap.size ≤ b5 →
 ∀ b4, Adv [] [b5] w b4 → b4.heap[n1]? = some (.cells (Z2 b6 b9 b2) 151) →
 b4.heap[n2]? = some (.cells (Z3 a6 a7 a8 a9 a0 a4 a2 a1 a5 a3) 27) →
 b4.heap[n3]? = some (.cells #[.int .i64 c0] 3) →
 b4.heap[n4]? = some (.cells #[.int .i64 c1] 3) →
 b4.heap[n5]? = some (.cells #[.int .i64 b3] 3) →
 b4.heap[b5]? = some (.cells #[.string ByteArray.empty, .int .i64 0] 43) →
 Calls pP 60 #[(.iface 149 (.pointer (some ⟨n1, 0, none⟩))), (.pointer (some ⟨b5, 0, none⟩))] b4 fun e b7 => e = .returned (.tuple #[]) ∧ yaZ [n1, n2, n3, n4, n5, b5] [(n0, 27)] [n0] b4 b7 ∧ ∃ u4 u6 u7, b7.heap[n1]? = some (.cells (Z2 u4 u6 u7) 151) ∧ ∃ u9 v0 v1 v2 u1 u3 u2 v8 w3 w1, b7.heap[n2]? = some (.cells (Z3 u9 v0 v1 v2 u1 u3 u2 v8 w3 w1) 27) ∧ ∃ v3, b7.heap[n3]? = some (.cells #[.int .i64 v3] 3) ∧ ∃ v4, b7.heap[n4]? = some (.cells #[.int .i64 v4] 3) ∧ ∃ v5, b7.heap[n5]? = some (.cells #[.int .i64 v5] 3) ∧ ∃ u5 v6, b7.heap[b5]? = some (.cells #[.string u5, .int .i64 v6] 43) ∧
 al b7 (.cells #[.string u5, .int .i64 v6] 43) fun x1 w7 =>
 ycN pP (Builtin.append_ #[25, 25] 25 #[.slice v8 w3 w1, (.slice (some ⟨x1, 0, none⟩) 1 1)]) w7 fun v9 w4 w2 w8 => yaI [n0, n1, n2, n3, n4, n5, b5] w7 w8 ∧
 ∀ b8, Adv [n2] [] w8 b8 → b8.heap[n1]? = some (.cells (Z2 u4 u6 u7) 151) →
 b8.heap[n2]? = some (.cells (Z3 u9 v0 v1 v2 u1 u3 u2 v9 w4 w2) 27) →
 b8.heap[n3]? = some (.cells #[.int .i64 v3] 3) →
 b8.heap[n4]? = some (.cells #[.int .i64 v4] 3) →
 b8.heap[n5]? = some (.cells #[.int .i64 v5] 3) →
 b8.heap[b5]? = some (.cells #[.string u5, .int .i64 v6] 43) →
 KS (yAw s0 n0 n1 n2 n3 n4 n5 I m) (yeZ s0 n0 n1 n2 n3 n4 n5 ((IntKind.wrap .i64 (g2 + 1)), u4, u6, u7, u9, v0, v1, v2, u1, u3, u2, v9, w4, w2, v3, v4, v5)) b8)
 (
 Calls pP 26 #[(.agg (Z3 a6 a7 a8 a9 a0 a4 a2 a1 a5 a3))] w fun e b0 => ∃ w5 w9, e = .returned (.tuple #[.string w5, .int .i64 w9]) ∧ yaZ [n1, n2, n3, n4, n5] [(n0, 27)] [n0] w b0 ∧ ∃ f2 f4 e2, b0.heap[n1]? = some (.cells (Z2 f2 f4 e2) 151) ∧ ∃ e3 e4 e5 e6 d0 d8 d4 d1 d9 d5, b0.heap[n2]? = some (.cells (Z3 e3 e4 e5 e6 d0 d8 d4 d1 d9 d5) 27) ∧ ∃ f5, b0.heap[n3]? = some (.cells #[.int .i64 f5] 3) ∧ ∃ f6, b0.heap[n4]? = some (.cells #[.int .i64 f6] 3) ∧ ∃ f7, b0.heap[n5]? = some (.cells #[.int .i64 f7] 3) ∧
 brB (e2 != 0) (
 ∀ c2, Adv [n0] [] b0 c2 → c2.heap[n1]? = some (.cells (Z2 f2 f4 e2) 151) →
 c2.heap[n2]? = some (.cells (Z3 e3 e4 e5 e6 d0 d8 d4 d1 d9 d5) 27) →
 c2.heap[n3]? = some (.cells #[.int .i64 f5] 3) →
 c2.heap[n4]? = some (.cells #[.int .i64 f6] 3) →
 c2.heap[n5]? = some (.cells #[.int .i64 f7] 3) →
 R (.tuple #[(.agg (Z3 0 0 0 0 none 0 0 none 0 0)), .int .i64 40]) c2)
 (
 brB (w9 != 0) (
 ∀ c3, Adv [n0] [] b0 c3 → c3.heap[n1]? = some (.cells (Z2 f2 f4 e2) 151) →
 c3.heap[n2]? = some (.cells (Z3 e3 e4 e5 e6 d0 d8 d4 d1 d9 d5) 27) →
 c3.heap[n3]? = some (.cells #[.int .i64 f5] 3) →
 c3.heap[n4]? = some (.cells #[.int .i64 f6] 3) →
 c3.heap[n5]? = some (.cells #[.int .i64 f7] 3) →
 R (.tuple #[(.agg (Z3 0 0 0 0 none 0 0 none 0 0)), .int .i64 40]) c3)
 (
 brB (!(w5.toList == s0.toList)) (
 ∀ c4, Adv [n0] [] b0 c4 → c4.heap[n1]? = some (.cells (Z2 f2 f4 e2) 151) →
 c4.heap[n2]? = some (.cells (Z3 e3 e4 e5 e6 d0 d8 d4 d1 d9 d5) 27) →
 c4.heap[n3]? = some (.cells #[.int .i64 f5] 3) →
 c4.heap[n4]? = some (.cells #[.int .i64 f6] 3) →
 c4.heap[n5]? = some (.cells #[.int .i64 f7] 3) →
 R (.tuple #[(.agg (Z3 0 0 0 0 none 0 0 none 0 0)), .int .i64 40]) c4)
 (
 ∀ c5, Adv [n0] [] b0 c5 → c5.heap[n1]? = some (.cells (Z2 f2 f4 e2) 151) →
 c5.heap[n2]? = some (.cells (Z3 e3 e4 e5 e6 d0 d8 d4 d1 d9 d5) 27) →
 c5.heap[n3]? = some (.cells #[.int .i64 f5] 3) →
 c5.heap[n4]? = some (.cells #[.int .i64 f6] 3) →
 c5.heap[n5]? = some (.cells #[.int .i64 f7] 3) →
 R (.tuple #[(.agg (Z3 e3 e4 e5 e6 d0 d8 d4 d1 d9 d5)), .int .i64 0]) c5)))))
 (
 Calls pP 26 #[(.agg (Z3 a6 a7 a8 a9 a0 a4 a2 a1 a5 a3))] w fun e b1 => ∃ w6 x0, e = .returned (.tuple #[.string w6, .int .i64 x0]) ∧ yaZ [n1, n2, n3, n4, n5] [(n0, 27)] [n0] w b1 ∧ ∃ f3 f8 e7, b1.heap[n1]? = some (.cells (Z2 f3 f8 e7) 151) ∧ ∃ e8 e9 f0 f1 d2 e0 d6 d3 e1 d7, b1.heap[n2]? = some (.cells (Z3 e8 e9 f0 f1 d2 e0 d6 d3 e1 d7) 27) ∧ ∃ f9, b1.heap[n3]? = some (.cells #[.int .i64 f9] 3) ∧ ∃ g0, b1.heap[n4]? = some (.cells #[.int .i64 g0] 3) ∧ ∃ g1, b1.heap[n5]? = some (.cells #[.int .i64 g1] 3) ∧
 brB (e7 != 0) (
 ∀ c6, Adv [n0] [] b1 c6 → c6.heap[n1]? = some (.cells (Z2 f3 f8 e7) 151) →
 c6.heap[n2]? = some (.cells (Z3 e8 e9 f0 f1 d2 e0 d6 d3 e1 d7) 27) →
 c6.heap[n3]? = some (.cells #[.int .i64 f9] 3) →
 c6.heap[n4]? = some (.cells #[.int .i64 g0] 3) →
 c6.heap[n5]? = some (.cells #[.int .i64 g1] 3) →
 R (.tuple #[(.agg (Z3 0 0 0 0 none 0 0 none 0 0)), .int .i64 40]) c6)
 (
 brB (x0 != 0) (
 ∀ c7, Adv [n0] [] b1 c7 → c7.heap[n1]? = some (.cells (Z2 f3 f8 e7) 151) →
 c7.heap[n2]? = some (.cells (Z3 e8 e9 f0 f1 d2 e0 d6 d3 e1 d7) 27) →
 c7.heap[n3]? = some (.cells #[.int .i64 f9] 3) →
 c7.heap[n4]? = some (.cells #[.int .i64 g0] 3) →
 c7.heap[n5]? = some (.cells #[.int .i64 g1] 3) →
 R (.tuple #[(.agg (Z3 0 0 0 0 none 0 0 none 0 0)), .int .i64 40]) c7)
 (
 brB (!(w6.toList == s0.toList)) (
 ∀ c8, Adv [n0] [] b1 c8 → c8.heap[n1]? = some (.cells (Z2 f3 f8 e7) 151) →
 c8.heap[n2]? = some (.cells (Z3 e8 e9 f0 f1 d2 e0 d6 d3 e1 d7) 27) →
 c8.heap[n3]? = some (.cells #[.int .i64 f9] 3) →
 c8.heap[n4]? = some (.cells #[.int .i64 g0] 3) →
 c8.heap[n5]? = some (.cells #[.int .i64 g1] 3) →
 R (.tuple #[(.agg (Z3 0 0 0 0 none 0 0 none 0 0)), .int .i64 40]) c8)
 (
 ∀ c9, Adv [n0] [] b1 c9 → c9.heap[n1]? = some (.cells (Z2 f3 f8 e7) 151) →
 c9.heap[n2]? = some (.cells (Z3 e8 e9 f0 f1 d2 e0 d6 d3 e1 d7) 27) →
 c9.heap[n3]? = some (.cells #[.int .i64 f9] 3) →
 c9.heap[n4]? = some (.cells #[.int .i64 g0] 3) →
 c9.heap[n5]? = some (.cells #[.int .i64 g1] 3) →
 R (.tuple #[(.agg (Z3 e8 e9 f0 f1 d2 e0 d6 d3 e1 d7)), .int .i64 0]) c9))))) :
 yaJ ygL (yhR 390 [0, 0, 1, 0, 1, 1, 1, 1, 1, 1, 1, 1]) (yjU [1, 1, 1, 1, 1, 1, 1, 1, 0, 1, 0] [] R) (yeZ s0 n0 n1 n2 n3 n4 n5 (i0, s1, i1, i2, i3, i4, i5, i6, q0, n6, n7, q1, n8, n9, i7, i8, i9)) w0 :=
 lrule (yeZ s0 n0 n1 n2 n3 n4 n5) (U17 I) h0 (by rintro m ⟨g2, b6, b9, b2, a6, a7, a8, a9, a0, a4, a2, a1, a5, a3, c0, c1, b3⟩ w h; exact ⟨by kernel_rfl, by kernel_rfl, fun js => Eq.mpr (by kernel_rfl) (hr m g2 b6 b9 b2 a6 a7 a8 a9 a0 a4 a2 a1 a5 a3 c0 c1 b3 w h)⟩)
theorem yEt (h :
 ∀ b1, w.heap.size ≤ b1 →
 ∀ b2, w.heap.size ≤ b2 →
 ∀ b3, w.heap.size ≤ b3 →
 ∀ b4, w.heap.size ≤ b4 →
 ∀ b5, w.heap.size ≤ b5 →
 ∀ b6, w.heap.size ≤ b6 →
 ∀ w7, Adv [] [b6, b5, b4, b3, b2, b1] w w7 → w7.heap[b3]? = some (.cells (Z3 0 0 0 0 none 0 0 none 0 0) 27) →
 w7.heap[b4]? = some (.cells #[.int .i64 0] 3) →
 w7.heap[b5]? = some (.cells #[.int .i64 0] 3) →
 al w7 (.cells #[(.pointer (some ⟨b4, 0, none⟩)), (.pointer (some ⟨b3, 1, none⟩)), (.pointer (some ⟨b3, 2, none⟩)), (.pointer (some ⟨b3, 3, none⟩)), (.pointer (some ⟨b5, 0, none⟩))] 62) fun b8 w9 =>
 ∀ a0, Adv [] [] w9 a0 → a0.heap[b2]? = some (.cells (Z2 s0 0 0) 151) →
 a0.heap[b3]? = some (.cells (Z3 0 0 0 0 none 0 0 none 0 0) 27) →
 a0.heap[b4]? = some (.cells #[.int .i64 0] 3) →
 a0.heap[b5]? = some (.cells #[.int .i64 0] 3) →
 yaJ ynX (yhR 394 [0, 0, 1, 0, 1, 1, 1, 1]) (yjU [1, 1, 1, 1, 0, 1, 0] [] R) (yhG s0 (some ⟨b8, 0, none⟩) 5 5 b1 b2 b3 b4 b5 b6 (0, s0, 0, 0, 0, 0, 0, 0, none, 0, 0, none, 0, 0, 0, 0)) a0) :
 CR pP 81 #[.string s0] w R :=
 yaA Tryz.wide_mixed (an := ynZ) Tryz.func81 rfl rfl (by kernel_rfl) rfl (Eq.mpr (by kernel_rfl) h)
def yn0 : LA := ⟨[0, 0, 1, 0, 1, 1, 1], [0, 2, 3, 4, 15, 16], [(2, 0, 0), (3, 1, 0)], 2, [1]⟩
def yn1 : List LA := [yn0]
abbrev yC5 := dnF pP yn1 (code Tryz.f42)
abbrev yIZ := yaO pP yn1 (code Tryz.f42)
abbrev yC6 (p : List Nat) (K : List Kh) (R : VWP) := yaO pP yn1 (code Tryz.f42) p K (ya4 pP Tryz.f42 [] R)
def yhH (d4 : BA) (b3 b4 b5 b6 b7 b8 b9 c0 c1 c2 : OA) (bm0 bm1 : Nat) : Int × Int × Int × Int × Int × Int × Int × Int × Int × Int × Int × Int × (Option Addr) × Nat × Nat × Int × Int × Int × Int × (Option Addr) × Nat × Nat × (Option Addr) × Nat × Nat → List Value × List TB := fun (d5, d3, c3, c4, c5, c6, c7, c8, c9, d0, d1, d2, a0, a6, a3, a9, b0, b1, b2, a1, a7, a4, a2, a8, a5) => ([.string d4, (.pointer (some ⟨bm0, 0, none⟩)), (.pointer (some ⟨bm1, 0, none⟩)), .int .i64 d5, (.agg (Z4 b3 b4 b5 b6 b7 b8 b9 c0 c1 c2)), .int .i64 d3], [⟨bm0, 29, [.int .i64 0, .int .i64 0, .int .i64 0, .int .i64 0, .int .i64 0, .int .i64 0, .int .i64 0, .int .i64 0, .int .i64 0, .int .i64 0, .slice none 0 0, .int .i64 0, .int .i64 0, .int .i64 0, .int .i64 0, .slice none 0 0, .slice none 0 0], false⟩, ⟨bm1, 29, [.int .i64 c3, .int .i64 c4, .int .i64 c5, .int .i64 c6, .int .i64 c7, .int .i64 c8, .int .i64 c9, .int .i64 d0, .int .i64 d1, .int .i64 d2, .slice a0 a6 a3, .int .i64 a9, .int .i64 b0, .int .i64 b1, .int .i64 b2, .slice a1 a7 a4, .slice a2 a8 a5], true⟩])
abbrev yAx (b0 : BA) (a0 a1 a2 a3 a4 a5 a6 a7 a8 a9 : OA) (bm0 bm1 : Nat) (I : Nat → Int → Int → Int → Int → Int → Int → Int → Int → Int → Int → Int → Int → Option Addr → Nat → Nat → Int → Int → Int → Int → Option Addr → Nat → Nat → Option Addr → Nat → Nat → World → Prop) (m : Nat) : Kh := KG (yhH b0 a0 a1 a2 a3 a4 a5 a6 a7 a8 a9 bm0 bm1) (U25 I) m
theorem yvK {I : Nat → Int → Int → Int → Int → Int → Int → Int → Int → Int → Int → Int → Int → Option Addr → Nat → Nat → Int → Int → Int → Int → Option Addr → Nat → Nat → Option Addr → Nat → Nat → World → Prop} (m' : Nat) (h1 : m' < m) (h2 : I m' i0 i1 i2 i3 i4 i5 i6 i7 i8 i9 j0 j1 r0 n2 n3 j2 j3 j4 j5 r1 n4 n5 r2 n6 n7 w) : KS (yAx s0 q0 q1 q2 q3 q4 q5 q6 q7 q8 q9 n0 n1 I m) (yhH s0 q0 q1 q2 q3 q4 q5 q6 q7 q8 q9 n0 n1 (i0, i1, i2, i3, i4, i5, i6, i7, i8, i9, j0, j1, r0, n2, n3, j2, j3, j4, j5, r1, n4, n5, r2, n6, n7)) w := ⟨m', h1, _, rfl, rfl, h2⟩
theorem yvL (I : Nat → Int → Int → Int → Int → Int → Int → Int → Int → Int → Int → Int → Int → Option Addr → Nat → Nat → Int → Int → Int → Int → Option Addr → Nat → Nat → Option Addr → Nat → Nat → World → Prop) (m0 : Nat) (h0 : I m0 i0 i1 i2 i3 i4 i5 i6 i7 i8 i9 j0 j1 r0 n2 n3 j2 j3 j4 j5 r1 n4 n5 r2 n6 n7 w0)
 (hr : ∀ m g2 d3 c3 c4 c5 c6 c7 c8 c9 d0 d1 d2 b0 b6 b3 b9 c0 c1 c2 b1 b7 b4 b2 b8 b5 w, I m g2 d3 c3 c4 c5 c6 c7 c8 c9 d0 d1 d2 b0 b6 b3 b9 c0 c1 c2 b1 b7 b4 b2 b8 b5 w →
 w.heap[n1]? = some (.cells (Z0 c3 c4 c5 c6 c7 c8 c9 d0 d1 d2 b0 b6 b3 b9 c0 c1 c2 b1 b7 b4 b2 b8 b5) 29) →
 brB (decide (d3 < 10)) (
 ∃ co, (∀ w' : World, (Instr.index 63 (.agg (Z4 q0 q1 q2 q3 q4 q5 q6 q7 q8 q9)) (.int .i64 d3)).run pP w' = .ok (.pointer co) w') ∧
 Calls pP 79 #[.string s0, .int .i64 g2] w fun e e9 => ∃ bm cq cr, e = .returned (.tuple #[.int .u64 bm, .int .i64 cq, .int .i64 cr]) ∧ yaZ [n1] [(n0, 29)] [n0] w e9 ∧ ∃ bn bo bp bq br bt bu bv bw bx w4 y8 x6 bz ca cb cc w5 y9 x7 w6 z0 x8, e9.heap[n1]? = some (.cells (Z0 bn bo bp bq br bt bu bv bw bx w4 y8 x6 bz ca cb cc w5 y9 x7 w6 z0 x8) 29) ∧
 brB (cr != 0) (
 ∀ z2, Adv [n0] [] e9 z2 → z2.heap[n1]? = some (.cells (Z0 bn bo bp bq br bt bu bv bw bx w4 y8 x6 bz ca cb cc w5 y9 x7 w6 z0 x8) 29) →
 R (.agg (Z0 0 0 0 0 0 0 0 0 0 0 none 0 0 0 0 0 0 none 0 0 none 0 0)) z2)
 (
 brB (decide (bm > 1099511627776)) (
 ∀ z3, Adv [n0] [] e9 z3 → z3.heap[n1]? = some (.cells (Z0 bn bo bp bq br bt bu bv bw bx w4 y8 x6 bz ca cb cc w5 y9 x7 w6 z0 x8) 29) →
 R (.agg (Z0 0 0 0 0 0 0 0 0 0 0 none 0 0 0 0 0 0 none 0 0 none 0 0)) z3)
 (
 ylV co fun ec =>
 st e9 ec [(.int .i64 (IntKind.wrap .i64 bm))] fun z4 => yaZ [n1] [(n0, 29)] [n0] e9 z4 ∧ ∃ cs ct cu cv cw cx cy cz da db ce cl ci dc dd de df cf cm cj ch cn ck, z4.heap[n1]? = some (.cells (Z0 cs ct cu cv cw cx cy cz da db ce cl ci dc dd de df cf cm cj ch cn ck) 29) ∧
 KS (yAx s0 q0 q1 q2 q3 q4 q5 q6 q7 q8 q9 n0 n1 I m) (yhH s0 q0 q1 q2 q3 q4 q5 q6 q7 q8 q9 n0 n1 (cq, (IntKind.wrap .i64 (d3 + 1)), cs, ct, cu, cv, cw, cx, cy, cz, da, db, ce, cl, ci, dc, dd, de, df, cf, cm, cj, ch, cn, ck)) z4)))
 (
 Calls pP 78 (Z2 s0 g2 1048576) w fun e g1 => ∃ cp dg dh, e = .returned (.tuple (Z2 cp dg dh)) ∧ yaZ [n1] [(n0, 29)] [n0] w g1 ∧ ∃ di dj dk z5 z6 z7 z8 z9 aa ab v4 x9 w7 ac ad ae af v5 y0 w8 v6 y1 w9, g1.heap[n1]? = some (.cells (Z0 di dj dk z5 z6 z7 z8 z9 aa ab v4 x9 w7 ac ad ae af v5 y0 w8 v6 y1 w9) 29) ∧
 brB (dh != 0) (
 ∀ h3, Adv [n0] [] g1 h3 → h3.heap[n1]? = some (.cells (Z0 di dj dk z5 z6 z7 z8 z9 aa ab v4 x9 w7 ac ad ae af v5 y0 w8 v6 y1 w9) 29) →
 R (.agg (Z0 0 0 0 0 0 0 0 0 0 0 none 0 0 0 0 0 0 none 0 0 none 0 0)) h3)
 (
 Calls pP 78 (Z2 s0 dg 1048576) g1 fun e e4 => ∃ z1 dv ag, e = .returned (.tuple (Z2 z1 dv ag)) ∧ yaZ [n1] [(n0, 29)] [n0] g1 e4 ∧ ∃ ah ai aj ak am an ao ap aq ar v7 y2 x0 au av aw ax v8 y3 x1 v9 y4 x2, e4.heap[n1]? = some (.cells (Z0 ah ai aj ak am an ao ap aq ar v7 y2 x0 au av aw ax v8 y3 x1 v9 y4 x2) 29) ∧
 brB (ag != 0) (
 ∀ h4, Adv [n0] [] e4 h4 → h4.heap[n1]? = some (.cells (Z0 ah ai aj ak am an ao ap aq ar v7 y2 x0 au av aw ax v8 y3 x1 v9 y4 x2) 29) →
 R (.agg (Z0 0 0 0 0 0 0 0 0 0 0 none 0 0 0 0 0 0 none 0 0 none 0 0)) h4)
 (
 Calls pP 80 #[.string cp] e4 fun e h5 => ∃ w1 y5 x3 dw, e = .returned (.tuple #[.slice w1 y5 x3, .int .i64 dw]) ∧ yaZ [n1] [(n0, 29)] [n0] e4 h5 ∧ ∃ ay az ba bb bc bd be bf bg bh dl ds dp bi bj bk bl w2 y6 x4 w3 y7 x5, h5.heap[n1]? = some (.cells (Z0 ay az ba bb bc bd be bf bg bh dl ds dp bi bj bk bl w2 y6 x4 w3 y7 x5) 29) ∧
 ∀ g0, Adv [n1] [] h5 g0 → g0.heap[n1]? = some (.cells (Z0 ay az ba bb bc bd be bf bg bh w1 y5 x3 bi bj bk bl w2 y6 x4 w3 y7 x5) 29) →
 Calls pP 81 #[.string z1] g0 fun e h6 => ∃ h8 h9 u0 u1 g3 g9 g6 g4 h1 g7 dx, e = .returned (.tuple #[(.agg (Z3 h8 h9 u0 u1 g3 g9 g6 g4 h1 g7)), .int .i64 dx]) ∧ yaZ [n1] [(n0, 29)] [n0] g0 h6 ∧ ∃ u2 u3 u4 u5 u6 u7 u9 v0 v1 v2 g5 h2 g8 dy dz ea eb dm dt dq dn du dr, h6.heap[n1]? = some (.cells (Z0 u2 u3 u4 u5 u6 u7 u9 v0 v1 v2 g5 h2 g8 dy dz ea eb dm dt dq dn du dr) 29) ∧
 ∀ h7, Adv [n0, n1] [] h6 h7 → h7.heap[n1]? = some (.cells (Z0 u2 u3 u4 u5 u6 u7 u9 v0 v1 v2 g5 h2 g8 h8 h9 u0 u1 g3 g9 g6 g4 h1 g7) 29) →
 R (.agg (Z0 u2 u3 u4 u5 u6 u7 u9 v0 v1 v2 g5 h2 g8 h8 h9 u0 u1 g3 g9 g6 g4 h1 g7)) h7)))) :
 yaJ yn0 (yC5 395 [0, 0, 1, 0, 1, 1, 1]) (yC6 [1, 1, 1, 0, 1, 0] [] R) (yhH s0 q0 q1 q2 q3 q4 q5 q6 q7 q8 q9 n0 n1 (i0, i1, i2, i3, i4, i5, i6, i7, i8, i9, j0, j1, r0, n2, n3, j2, j3, j4, j5, r1, n4, n5, r2, n6, n7)) w0 :=
 lrule (yhH s0 q0 q1 q2 q3 q4 q5 q6 q7 q8 q9 n0 n1) (U25 I) h0 (by rintro m ⟨g2, d3, c3, c4, c5, c6, c7, c8, c9, d0, d1, d2, b0, b6, b3, b9, c0, c1, c2, b1, b7, b4, b2, b8, b5⟩ w h; exact ⟨by kernel_rfl, by kernel_rfl, fun js => Eq.mpr (by kernel_rfl) (hr m g2 d3 c3 c4 c5 c6 c7 c8 c9 d0 d1 d2 b0 b6 b3 b9 c0 c1 c2 b1 b7 b4 b2 b8 b5 w h)⟩)
theorem yEu (h :
 ∀ b1, w.heap.size ≤ b1 →
 ∀ b2, w.heap.size ≤ b2 →
 ∀ w3, Adv [] [b2, b1] w w3 → w3.heap[b2]? = some (.cells (Z0 0 0 0 0 0 0 0 0 0 0 none 0 0 0 0 0 0 none 0 0 none 0 0) 29) →
 Calls pP 22 #[(.pointer (some ⟨b2, 0, none⟩))] w3 fun e w4 => ∃ p5 p6 p7 p8 p9 b0 b3 b4 b5 b6, e = .returned (.agg (Z4 p5 p6 p7 p8 p9 b0 b3 b4 b5 b6)) ∧ yaZ [b2] [(b1, 29)] [b1] w3 w4 ∧ ∃ b7 b8 b9 c0 c1 c2 c3 c4 c5 c6 a1 a7 a4 c7 c8 c9 d0 a2 a8 a5 a3 a9 a6, w4.heap[b2]? = some (.cells (Z0 b7 b8 b9 c0 c1 c2 c3 c4 c5 c6 a1 a7 a4 c7 c8 c9 d0 a2 a8 a5 a3 a9 a6) 29) ∧
 yaJ yn0 (yC5 395 [0, 0, 1, 0, 1, 1, 1]) (yC6 [1, 1, 1, 0, 1, 0] [] R) (yhH s0 p5 p6 p7 p8 p9 b0 b3 b4 b5 b6 b1 b2 (0, 0, b7, b8, b9, c0, c1, c2, c3, c4, c5, c6, a1, a7, a4, c7, c8, c9, d0, a2, a8, a5, a3, a9, a6)) w4) :
 CR pP 42 #[.string s0] w R :=
 yaA Tryz.wide_mixed (an := yn1) Tryz.func42 rfl rfl (by kernel_rfl) rfl (Eq.mpr (by kernel_rfl) h)
theorem yEv {a1 : BA} (h :
 ∀ b1, w.heap.size ≤ b1 →
 ∀ w2, Adv [] [b1] w w2 →
 Calls pP 41 (Z2 a1 0 1048576) w2 fun e w3 => ∃ s4 x5 x6, e = .returned (.tuple (Z2 s4 x5 x6)) ∧ yaI [b1] w2 w3 ∧
 Calls pP 42 #[.string s4] w3 fun e w7 => ∃ x8 x9 b4 b5 b6 b7 b8 b9 c0 c1 a2 a9 a6 c2 c3 c4 c5 a3 b0 a7 a4 b2 a8, e = .returned (.agg (Z0 x8 x9 b4 b5 b6 b7 b8 b9 c0 c1 a2 a9 a6 c2 c3 c4 c5 a3 b0 a7 a4 b2 a8)) ∧ yaI [b1] w3 w7 ∧
 ∀ a5, w7.heap.size ≤ a5 →
 ∀ b3, Adv [] [a5] w7 b3 →
 Calls pP 10 #[(.agg (Z0 x8 x9 b4 b5 b6 b7 b8 b9 c0 c1 a2 a9 a6 c2 c3 c4 c5 a3 b0 a7 a4 b2 a8))] b3 fun e a0 => ∃ c6 d1, e = .returned (.tuple #[.string c6, .int .i64 d1]) ∧ yaI [b1, a5] b3 a0 ∧
 brB (x6 != 0) (
 ∀ c7, Adv [b1] [] a0 c7 →
 R (.tuple #[(.agg (Z0 0 0 0 0 0 0 0 0 0 0 none 0 0 0 0 0 0 none 0 0 none 0 0)), .int .i64 180]) c7)
 (
 brB (d1 != 0) (
 ∀ c8, Adv [b1] [] a0 c8 →
 R (.tuple #[(.agg (Z0 0 0 0 0 0 0 0 0 0 0 none 0 0 0 0 0 0 none 0 0 none 0 0)), .int .i64 180]) c8)
 (
 brB (!(c6.toList == a1.toList)) (
 ∀ c9, Adv [b1] [] a0 c9 →
 R (.tuple #[(.agg (Z0 0 0 0 0 0 0 0 0 0 0 none 0 0 0 0 0 0 none 0 0 none 0 0)), .int .i64 180]) c9)
 (
 ∀ d0, Adv [b1] [] a0 d0 →
 R (.tuple #[(.agg (Z0 x8 x9 b4 b5 b6 b7 b8 b9 c0 c1 a2 a9 a6 c2 c3 c4 c5 a3 b0 a7 a4 b2 a8)), .int .i64 0]) d0)))) :
 CR pP 17 #[.string a1] w R :=
 yaA Tryz.wide_mixed (an := []) Tryz.func17 rfl rfl (by kernel_rfl) rfl (Eq.mpr (by kernel_rfl) h)
end
def yIx (o : Option (PRec × Nat)) (v : Value) : Prop := ∃ (x : PRec) (b : Nat) (e : Int), v = .tuple #[x.v, .int .i64 (b : Nat), .int .i64 e] ∧ ((e = 0 ∧ o = some (x, b)) ∨ (e ≠ 0 ∧ b = 0 ∧ o = none))
theorem ylQ (s : ByteArray) (a : Nat) (hs : s.size ≤ 1000000000000) (ha : a ≤ s.size) (w : World) :
  Calls pP 113 #[.string s, .int .i64 (a : Nat)] w fun e w' => ∃ v, e = .returned v ∧ yIx (yo8 s.data.toList a) v ∧ Mod [] w w' := by
 refine yG8 ?_
 intro b1 f1 b2 f2 w3 A3 h3
 have s3 := A3.mod.size
 have l1 := A3.lt b1 (by simp)
 have hne : b1 ≠ b2 := by have := A3.nd; simp at this; exact fun h => this h.symm
 refine (ylE (st := some a) hs ⟨a, 0, h3, ha, rfl⟩).mono ?_
 rintro _ w4 ⟨_, rfl, x, rfl, M4, st, ⟨a4, e4, h4, ha4, he4⟩, q4⟩
 have s4 := M4.size
 refine ⟨_, _, _, _, rfl, yaI.ofE M4 fun k hk hl he => by simp at hk he ⊢; omega, _, _, _, h4, ?_⟩
 have q4 : yo8 s.data.toList a = st.map fun a => (x, a) := q4
 intro b12 f12
 have N : ∀ {w'}, Adv [b1] [b12] w4 w' → Mod [] w w' := fun A => (A3.mod.go0 M4 (by simpa using f2)).go0 A.mod (by simpa using f1)
 refine yaB (fun g => ⟨rfl, fun w5 A5 _ => ⟨?_, N A5⟩⟩) fun g => ⟨rfl, fun w5 A5 _ => ⟨?_, N A5⟩⟩
 ·have g : e4 ≠ 0 := by simpa using g
  rw [if_neg g] at he4
  refine ⟨⟨false, ⟨#[]⟩, false, ⟨#[]⟩⟩, 0, e4, rfl, .inr ⟨g, rfl, ?_⟩⟩
  rw [q4, he4]; rfl
 ·have g : e4 = 0 := by simpa using g
  rw [if_pos g] at he4
  refine ⟨x, a4, 0, rfl, .inl ⟨rfl, ?_⟩⟩
  rw [q4, he4]; rfl
theorem yBH {s : ByteArray} {br bp : Nat} {st : Option Nat} {w : World} (hs : s.size ≤ 1000000000000) (h : Rd QT s br st w) (hb : w.heap[bp]? = some (.cells #[.string ⟨#[]⟩, .int .i64 0] 43)) (hne : bp ≠ br) :
  Calls pP 60 #[.iface 149 (.pointer (some ⟨br, 0, none⟩)), .pointer (some ⟨bp, 0, none⟩)] w fun e w' => e = .returned (.tuple #[]) ∧ Rd QT s br (ycK s.data.toList st).1 w' ∧ w'.heap[bp]? = some (.cells (yi1 (ycK s.data.toList st).2).toArray 43) ∧ Mod [br, bp] w w' := by
 refine yaQ (yCF ?_)
 intro w1 A1
 refine (ymO hs (h.keep0 A1.mod) (off := 0) (x := ⟨#[]⟩) (A1.mod.keep0 hb) rfl hne).mono ?_
 rintro _ w2 ⟨rfl, h2, hb2, M2⟩
 refine ⟨rfl, ?_⟩
 intro w3 A3
 refine (ybI hs (h2.keep0 A3.mod) (off := 1) (x := 0) (A3.mod.keep0 hb2) rfl hne).mono ?_
 rintro _ w4 ⟨rfl, h4, hb4, M4⟩
 refine ⟨rfl, rfl, h4, ?_, ?_⟩
 ·rw [hb4]; rfl
 ·refine (((A1.mod.trans M2).trans A3.mod).trans M4).less fun k hk hl => ?_
  simp at hk ⊢; omega
theorem yn2 {w : World} {B : Nat} {f : Sl} {l : List PFound} {y : PFound} {bs : List Nat} {F : Option Addr → Nat → Nat → World → Prop} (hR : Row w B 55 5 yhT f.a f.n f.c l) (hl : l.length ≤ 1000000) (hB : B ≤ w.heap.size) (hbs : ∀ b ∈ bs, b ∉ yjY f.a)
  (hF : ∀ a' c' w', Row w' B 55 5 yhT a' (f.n + 1) c' (l ++ [y]) → Mod (yjY f.a) w w' → F a' (f.n + 1) c' w') :
  al w (.cells (yhT y).toArray 55) fun b w1 => ycN pP (Builtin.append_ #[24, 24] 24 #[.slice f.a f.n f.c, .slice (some ⟨b, 0, none⟩) 1 1]) w1 fun a n c w2 => yaI bs w1 w2 ∧ F a n c w2 := by
 refine ycZ fun b w1 c1 M1 f1 => ?_
 have s1 := M1.size
 obtain ⟨i0, hi0, hz0, hz1, hz2⟩ := info_parts yDo
 refine ybN (x := y) (hR.keep0 M1) Tryz.underlying24 hi0 hz0 hz1 hz2 rfl (by decide) c1 rfl (ymE _) (by omega) (by unfold maxLen; omega) (by omega) fun a' c' w8 hR8 hM8 => ?_
 have M8 := hM8 _ (ycS f.a)
 refine ⟨yaI.of M8 fun b hb _ => hbs b hb, hF a' c' w8 hR8 ?_⟩
 exact (M1.trans M8).less fun k hk _ => by simpa using hk
theorem yEw {w : World} {B : Nat} {f : Sl} {l : List PPart} {y : PPart} {bs : List Nat} {F : Option Addr → Nat → Nat → World → Prop} (hR : Row w B 43 2 yi1 f.a f.n f.c l) (hl : l.length ≤ 1000000) (hB : B ≤ w.heap.size) (hbs : ∀ b ∈ bs, b ∉ yjY f.a)
  (hF : ∀ a' c' w', Row w' B 43 2 yi1 a' (f.n + 1) c' (l ++ [y]) → Mod (yjY f.a) w w' → F a' (f.n + 1) c' w') :
  al w (.cells (yi1 y).toArray 43) fun b w1 => ycN pP (Builtin.append_ #[25, 25] 25 #[.slice f.a f.n f.c, .slice (some ⟨b, 0, none⟩) 1 1]) w1 fun a n c w2 => yaI bs w1 w2 ∧ F a n c w2 := by
 refine ycZ fun b w1 c1 M1 f1 => ?_
 have s1 := M1.size
 obtain ⟨i0, hi0, hz0, hz1, hz2⟩ := info_parts yBe
 refine ybN (x := y) (hR.keep0 M1) Tryz.underlying25 hi0 hz0 hz1 hz2 rfl (by decide) c1 rfl (yh5 _) (by omega) (by unfold maxLen; omega) (by omega) fun a' c' w8 hR8 hM8 => ?_
 have M8 := hM8 _ (ycS f.a)
 refine ⟨yaI.of M8 fun b hb _ => hbs b hb, hF a' c' w8 hR8 ?_⟩
 exact (M1.trans M8).less fun k hk _ => by simpa using hk
theorem yBI {l : List UInt8} {st : Option Nat} {b : Nat} {n : Int} (h : ya8 l st 0 = (some b, n)) (x : Int) : ya8 l st x = (some b, n) := by
 unfold ya8 at *
 split at h
 ·rename_i p hp; simpa [hp] using h
 ·simp at h
theorem yAy {l : List UInt8} {a b : Nat} {x : Int} (h : (ya8 l (some a) x).1 = some b) : a < b ∧ b ≤ l.length := by
 unfold ya8 at h
 split at h
 ·rename_i p hp
  have := yfU (n := p.1) (b := p.2) hp
  simp at h; omega
 ·simp at h
structure RPS (w0 w : World) (b0 b1 b2 b3 b4 b5 : Nat) (s : ByteArray) (a e : Int) (x : PRep) (f p : Sl) (ev fv : Int) : Prop where
 hr : w.heap[b1]? = some (.cells #[.string s, .int .i64 a, .int .i64 e] QT)
 hx : w.heap[b2]? = some (.cells #[.int .i64 x.e, .int .i64 x.off, .int .i64 x.n, .int .i64 x.gen, .slice f.a f.n f.c, .slice p.a p.n p.c] 27)
 he : w.heap[b3]? = some (.cells #[.int .i64 ev] 3)
 hn : w.heap[b4]? = some (.cells #[.int .i64 fv] 3)
 fr : Row w w0.heap.size 55 5 yhT f.a f.n f.c x.found
 pr : Row w w0.heap.size 43 2 yi1 p.a p.n p.c x.parts
 m : Mod [b1, b2, b3, b4, b5] w0 w
 lt : b0 < w0.heap.size ∧ b1 < w0.heap.size ∧ b2 < w0.heap.size ∧ b3 < w0.heap.size ∧ b4 < w0.heap.size ∧ b5 < w0.heap.size
 nd : [b5, b4, b3, b2, b1, b0].Nodup
 pos : ∃ n : Nat, a = n ∧ n ≤ s.size
def ycE (a e : Int) : Option Nat := if e = 0 then some a.toNat else none
theorem RPS.rd {w0 w : World} {b0 b1 b2 b3 b4 b5 : Nat} {s : ByteArray} {a e : Int} {x : PRep} {f p : Sl} {ev fv : Int} (H : RPS w0 w b0 b1 b2 b3 b4 b5 s a e x f p ev fv) : Rd QT s b1 (ycE a e) w := by
 obtain ⟨n, h1, h2⟩ := H.pos
 have h3 := H.hr
 rw [h1] at h3
 refine ⟨n, e, h3, h2, ?_⟩
 unfold ycE; rw [h1, Int.toNat_natCast]
theorem RPS.go {w0 w w' : World} {b0 b1 b2 b3 b4 b5 : Nat} {s : ByteArray} {a e : Int} {x : PRep} {f p : Sl} {ev fv : Int} {st : Option Nat} (H : RPS w0 w b0 b1 b2 b3 b4 b5 s a e x f p ev fv) (M : Mod [b1] w w') (hr : Rd QT s b1 st w') :
  ∃ a' e', RPS w0 w' b0 b1 b2 b3 b4 b5 s a' e' x f p ev fv ∧ st = ycE a' e' := by
 obtain ⟨n, e', h1, h2, h3⟩ := hr
 have nd := H.nd
 have lt := H.lt
 simp at nd
 refine ⟨n, e', ⟨h1, M.keep H.hx (by simp; omega), M.keep H.he (by simp; omega), M.keep H.hn (by simp; omega), H.fr.keep M fun ad ha hk => ?_, H.pr.keep M fun ad ha hk => ?_, H.m.via M (by simp), H.lt, H.nd, n, rfl, h2⟩, ?_⟩
 ·have := H.fr.base ad ha; simp at hk; omega
 ·have := H.pr.base ad ha; simp at hk; omega
 ·rw [h3]; unfold ycE; rw [Int.toNat_natCast]
theorem RPS.keep0 {w0 w w' : World} {b0 b1 b2 b3 b4 b5 : Nat} {s : ByteArray} {a e : Int} {x : PRep} {f p : Sl} {ev fv : Int} (H : RPS w0 w b0 b1 b2 b3 b4 b5 s a e x f p ev fv) (M : Mod [] w w') : RPS w0 w' b0 b1 b2 b3 b4 b5 s a e x f p ev fv :=
 ⟨M.keep0 H.hr, M.keep0 H.hx, M.keep0 H.he, M.keep0 H.hn, H.fr.keep0 M, H.pr.keep0 M, H.m.via M (by simp), H.lt, H.nd, H.pos⟩
def yEx (w0 w : World) (s : ByteArray) (v : Value) : Prop :=
 (∃ (x : PRep) (f p : Sl), ye7 s x ∧ v = .tuple #[x.v f p, .int .i64 0] ∧ RepOwn w w0.heap.size x f p) ∨ ((∀ x, ¬ ye7 s x) ∧ v = .tuple #[yeG.v ybL ybL, .int .i64 40])
set_option maxHeartbeats 4000000 in
theorem yHS {wS w0 wX : World} {b0 b1 b2 b3 b4 b5 : Nat} {s : ByteArray} {a e : Int} {x : PRep} {f p : Sl} {ev fv pv : Int} (H : RPS w0 wX b0 b1 b2 b3 b4 b5 s a e x f p ev fv) (h5 : wX.heap[b5]? = some (.cells #[.int .i64 pv] 3))
  (N : Mod [] wS wX) (hb : wS.heap.size ≤ b0) (hl : x.found.length ≤ 1000000 ∧ x.parts.length ≤ 1000000) (hB : wS.heap.size ≤ w0.heap.size) (hsp : ∀ y, ye7 s y → e = 0 ∧ x = y) :
  Calls pP 26 #[(.agg #[.int .i64 x.e, .int .i64 x.off, .int .i64 x.n, .int .i64 x.gen, .slice f.a f.n f.c, .slice p.a p.n p.c])] wX fun e w254 => ∃ (s255 : ByteArray) (x256 : Int), e = .returned (.tuple #[.string s255, .int .i64 x256]) ∧ yaZ [b1, b2, b3, b4, b5] [(b0, 27)] [b0] wX w254 ∧ ∃ (s257 : ByteArray) (x258 x259 : Int), w254.heap[b1]? = some (.cells #[.string s257, .int .i64 x258, .int .i64 x259] 151) ∧ ∃ (x260 x261 x262 x263 : Int) (a264 : Option Addr) (n265 c266 : Nat) (a267 : Option Addr) (n268 c269 : Nat), w254.heap[b2]? = some (.cells #[.int .i64 x260, .int .i64 x261, .int .i64 x262, .int .i64 x263, .slice a264 n265 c266, .slice a267 n268 c269] 27) ∧ ∃ x270 : Int, w254.heap[b3]? = some (.cells #[.int .i64 x270] 3) ∧ ∃ x271 : Int, w254.heap[b4]? = some (.cells #[.int .i64 x271] 3) ∧ ∃ x272 : Int, w254.heap[b5]? = some (.cells #[.int .i64 x272] 3) ∧ brB (x259 != 0) ( ∀ w273, Adv [b0] [] w254 w273 → w273.heap[b1]? = some (.cells #[.string s257, .int .i64 x258, .int .i64 x259] 151) → w273.heap[b2]? = some (.cells #[.int .i64 x260, .int .i64 x261, .int .i64 x262, .int .i64 x263, .slice a264 n265 c266, .slice a267 n268 c269] 27) → w273.heap[b3]? = some (.cells #[.int .i64 x270] 3) → w273.heap[b4]? = some (.cells #[.int .i64 x271] 3) → w273.heap[b5]? = some (.cells #[.int .i64 x272] 3) → (fun v w' => yEx wS w' s v ∧ Mod [] wS w') (.tuple #[(.agg #[.int .i64 0, .int .i64 0, .int .i64 0, .int .i64 0, .slice none 0 0, .slice none 0 0]), .int .i64 40]) w273) ( brB (x256 != 0) ( ∀ w274, Adv [b0] [] w254 w274 → w274.heap[b1]? = some (.cells #[.string s257, .int .i64 x258, .int .i64 x259] 151) → w274.heap[b2]? = some (.cells #[.int .i64 x260, .int .i64 x261, .int .i64 x262, .int .i64 x263, .slice a264 n265 c266, .slice a267 n268 c269] 27) → w274.heap[b3]? = some (.cells #[.int .i64 x270] 3) → w274.heap[b4]? = some (.cells #[.int .i64 x271] 3) → w274.heap[b5]? = some (.cells #[.int .i64 x272] 3) → (fun v w' => yEx wS w' s v ∧ Mod [] wS w') (.tuple #[(.agg #[.int .i64 0, .int .i64 0, .int .i64 0, .int .i64 0, .slice none 0 0, .slice none 0 0]), .int .i64 40]) w274) ( brB (!(s255.toList == s.toList)) ( ∀ w275, Adv [b0] [] w254 w275 → w275.heap[b1]? = some (.cells #[.string s257, .int .i64 x258, .int .i64 x259] 151) → w275.heap[b2]? = some (.cells #[.int .i64 x260, .int .i64 x261, .int .i64 x262, .int .i64 x263, .slice a264 n265 c266, .slice a267 n268 c269] 27) → w275.heap[b3]? = some (.cells #[.int .i64 x270] 3) → w275.heap[b4]? = some (.cells #[.int .i64 x271] 3) → w275.heap[b5]? = some (.cells #[.int .i64 x272] 3) → (fun v w' => yEx wS w' s v ∧ Mod [] wS w') (.tuple #[(.agg #[.int .i64 0, .int .i64 0, .int .i64 0, .int .i64 0, .slice none 0 0, .slice none 0 0]), .int .i64 40]) w275) ( ∀ w276, Adv [b0] [] w254 w276 → w276.heap[b1]? = some (.cells #[.string s257, .int .i64 x258, .int .i64 x259] 151) → w276.heap[b2]? = some (.cells #[.int .i64 x260, .int .i64 x261, .int .i64 x262, .int .i64 x263, .slice a264 n265 c266, .slice a267 n268 c269] 27) → w276.heap[b3]? = some (.cells #[.int .i64 x270] 3) → w276.heap[b4]? = some (.cells #[.int .i64 x271] 3) → w276.heap[b5]? = some (.cells #[.int .i64 x272] 3) → (fun v w' => yEx wS w' s v ∧ Mod [] wS w') (.tuple #[(.agg #[.int .i64 x260, .int .i64 x261, .int .i64 x262, .int .i64 x263, .slice a264 n265 c266, .slice a267 n268 c269]), .int .i64 0]) w276))) := by
 have hA : RepOwn wX w0.heap.size x f p := ⟨H.fr, H.pr, hl.1, hl.2⟩
 refine (ysS hA.at).mono ?_
 rintro _ w1 ⟨rfl, M1⟩
 have H1 := H.keep0 M1
 have lt := H.lt
 refine ⟨_, _, rfl, yaI.of0 M1, _, _, _, H1.hr, _, _, _, _, _, _, _, _, _, _, H1.hx, _, H1.he, _, H1.hn, _, M1.keep0 h5, ?_⟩
 have no : ∀ {w'}, Adv [b0] [] w1 w' → (∀ y, ¬ ye7 s y) → yEx wS w' s (.tuple #[yeG.v ybL ybL, .int .i64 40]) ∧ Mod [] wS w' := fun {w'} A h => ⟨.inr ⟨h, rfl⟩, (N.go0 M1 (by simp)).go0 A.mod (by simpa using hb)⟩
 refine yaB (fun g => fun w2 A2 _ _ _ _ _ => no A2 fun y hy => ?_) fun g => ?_
 ·have := (hsp y hy).1; simp [this] at g
 refine yaB (fun g2 => fun w2 A2 _ _ _ _ _ => no A2 fun y hy => ?_) fun g2 => ?_
 ·have := (hsp y hy).2; subst this; simp [hy.1] at g2
 have g2 : yfA x = 0 := by simpa using g2
 rw [if_pos g2, yf9]
 refine yaB (fun g3 => fun w2 A2 _ _ _ _ _ => no A2 fun y hy => ?_) fun g3 => fun w2 A2 _ _ _ _ _ => ?_
 ·have := (hsp y hy).2; subst this; simp [hy.eq] at g3
 ·have g3 : bs (ydF x) = s := by simpa using g3
  exact ⟨.inl ⟨x, f, p, ye7.of g2 g3.symm, rfl, ((hA.keep0 M1).keepB A2.mod (by simpa using lt.1)).rebase hB⟩, (N.go0 M1 (by simp)).go0 A2.mod (by simpa using hb)⟩
set_option maxHeartbeats 4000000 in
theorem yHT {wS w0 wX : World} {b0 b1 b2 b3 b4 b5 : Nat} {s : ByteArray} {a e : Int} {x : PRep} {f : Sl} {ev fv : Int} (H : RPS w0 wX b0 b1 b2 b3 b4 b5 s a e x f ybL ev fv) (h5 : wX.heap[b5]? = some (.cells #[.int .i64 0] 3)) (hp0 : x.parts = [])
  (N : Mod [] wS w0) (hb : wS.heap.size ≤ b0 ∧ wS.heap.size ≤ b1 ∧ wS.heap.size ≤ b2 ∧ wS.heap.size ≤ b3 ∧ wS.heap.size ≤ b4 ∧ wS.heap.size ≤ b5) (hs : s.size ≤ 900000) (hl : x.found.length ≤ 1000000)
  (hsp : ∀ y, ye7 s y → e = 0 ∧ a = (ycU y y.found.length).length ∧ x = ⟨y.e, y.off, y.n, y.gen, y.found, []⟩) :
  Calls pP 112 #[(.pointer (some ⟨b1, 0, none⟩)), (.pointer (some ⟨b5, 0, none⟩))] wX fun e w278 => e = .returned (.tuple #[]) ∧ yaZ [b1, b2, b3, b4, b5] [(b0, 27)] [b0] wX w278 ∧ ∃ (s279 : ByteArray) (x280 x281 : Int), w278.heap[b1]? = some (.cells #[.string s279, .int .i64 x280, .int .i64 x281] 151) ∧ ∃ (x282 x283 x284 x285 : Int) (a286 : Option Addr) (n287 c288 : Nat) (a289 : Option Addr) (n290 c291 : Nat), w278.heap[b2]? = some (.cells #[.int .i64 x282, .int .i64 x283, .int .i64 x284, .int .i64 x285, .slice a286 n287 c288, .slice a289 n290 c291] 27) ∧ ∃ x292 : Int, w278.heap[b3]? = some (.cells #[.int .i64 x292] 3) ∧ ∃ x293 : Int, w278.heap[b4]? = some (.cells #[.int .i64 x293] 3) ∧ ∃ x294 : Int, w278.heap[b5]? = some (.cells #[.int .i64 x294] 3) ∧ yaJ ygL (yhR 390 [0, 0, 1, 0, 1, 1, 1, 1, 1, 1, 1, 1]) (yHR [1, 1, 1, 1, 1, 1, 1, 1, 0, 1, 0] [] (ya4 pP Tryz.f81 [] (fun v w' => yEx wS w' s v ∧ Mod [] wS w'))) (yeZ s b0 b1 b2 b3 b4 b5 (0, s279, x280, x281, x282, x283, x284, x285, a286, n287, c288, a289, n290, c291, x292, x293, x294)) w278 := by
 have sB := N.size
 have nd := H.nd
 simp at nd
 have lt := H.lt
 have hss : s.data.toList.length = s.size := by simp
 refine (ybI (by omega) H.rd (off := 0) (x := 0) h5 rfl (by omega)).mono ?_
 rintro _ w1 ⟨rfl, hr1, hb1, M1⟩
 obtain ⟨pv, hpv⟩ : ∃ pv, pv = (ya8 s.data.toList (ycE a e) 0).2 := ⟨_, rfl⟩
 have hb1 : w1.heap[b5]? = some (.cells #[.int .i64 pv] 3) := by rw [hb1, hpv]; rfl
 obtain ⟨a1, e1, H1, hst1⟩ : ∃ a1 e1, RPS w0 w1 b0 b1 b2 b3 b4 b5 s a1 e1 x f ybL ev fv ∧ (ya8 s.data.toList (ycE a e) 0).1 = ycE a1 e1 := by
  obtain ⟨n, e', h1, h2, h3⟩ := hr1
  refine ⟨n, e', ⟨h1, M1.keep H.hx (by simp; omega), M1.keep H.he (by simp; omega), M1.keep H.hn (by simp; omega), H.fr.keep M1 fun ad ha hk => ?_, by rw [hp0]; exact Row.nil .., H.m.via M1 (by simp), H.lt, H.nd, n, rfl, h2⟩, ?_⟩
  ·have := H.fr.base ad ha; simp at hk; omega
  ·rw [h3]; unfold ycE; rw [Int.toNat_natCast]
 refine ⟨rfl, yaI.ofE M1 fun k hk hl he => by simp at hk he ⊢; omega, _, _, _, H1.hr, _, _, _, _, _, _, _, _, _, _, H1.hx, _, H1.he, _, H1.hn, _, hb1, ?_⟩
 have hsp1 : ∀ y, ye7 s y → e1 = 0 ∧ a1 = (yeM y 0).length ∧ x = ⟨y.e, y.off, y.n, y.gen, y.found, []⟩ ∧ pv = y.parts.length := fun y hy => by
  obtain ⟨h1, h2, h3⟩ := hsp y hy
  have h4 := hy.np
  have h5 : ycE a e = some (ycU y y.found.length).length := by unfold ycE; rw [if_pos h1, h2, Int.toNat_natCast]
  rw [h5, h4] at hst1 hpv
  obtain ⟨n, hn1, hn2⟩ := H1.pos
  unfold ycE at hst1
  by_cases he : e1 = 0
  ·rw [if_pos he] at hst1
   simp only [Option.some.injEq] at hst1
   exact ⟨he, by omega, h3, hpv⟩
  ·rw [if_neg he] at hst1; cases hst1
 obtain ⟨ve, voff, vn, vgen, lf, lp⟩ := x
 have hp0 : lp = [] := hp0
 subst hp0
 refine yvJ (fun mm x16 s1 a e y0 y1 y2 y3 fa fn fc pa pn pc ev' fv' pv' w' => ∃ (i : Nat) (l : List PPart), x16 = i ∧ l.length = i ∧ i ≤ s.size + 1 ∧ (e = 0 → (i : Int) ≤ a) ∧ s1 = s ∧ y0 = ve ∧ y1 = voff ∧ y2 = vn ∧ y3 = vgen ∧ fa = f.a ∧ fn = f.n ∧ fc = f.c ∧ ev' = ev ∧ fv' = fv ∧ pv' = pv ∧ RPS w0 w' b0 b1 b2 b3 b4 b5 s a e ⟨ve, voff, vn, vgen, lf, l⟩ f ⟨pa, pn, pc⟩ ev fv ∧
  (∀ y, ye7 s y → e = 0 ∧ a = (yeM y i).length ∧ l = y.parts.take i) ∧ mm = pv.toNat - i) pv.toNat
  ⟨0, [], rfl, rfl, by omega, fun h => by obtain ⟨n, h1, _⟩ := H1.pos; omega, rfl, rfl, rfl, rfl, rfl, rfl, rfl, rfl, rfl, rfl, rfl, H1, fun y hy => ⟨(hsp1 y hy).1, (hsp1 y hy).2.1, by simp⟩, by omega⟩ ?_
 rintro mm x16 s1 a2 e2 y0 y1 y2 y3 fa fn fc pa pn pc ev' fv' pv' w2 ⟨i, l, rfl, hli, his, hia, rfl, rfl, rfl, rfl, rfl, rfl, rfl, rfl, rfl, rfl, rfl, H2, hsp2, rfl⟩ _ _ _ _ h52
 have N2 : Mod [] wS w2 := (N.go0 H2.m (by simp; omega))
 have s2 := H2.m.size
 have ek : IntKind.wrap .i64 ((i : Int) + 1) = ((i + 1 : Nat) : Int) := by rw [yaG (by omega) (by omega)]; omega
 have fin : (∀ y, ye7 s1 y → l = y.parts) → _ := fun hd => yHS (a := a2) (pv := pv') H2 h52 N2 hb.1 ⟨hl, by show l.length ≤ _; omega⟩ sB fun y hy => ⟨(hsp2 y hy).1, by rw [hd y hy]; obtain ⟨h1, h2, h3, h4⟩ := hsp1 y hy; cases h3; rfl⟩
 refine yaC (fun hlt => ?_) fun hge => fin fun y hy => ?_
 rotate_left
 ·have h1 := (hsp1 y hy).2.2.2
  have h2 := (hsp2 y hy).2.2
  rw [h2, List.take_of_length_le (by omega)]
 refine yaB (fun g => ?_) fun g => fin fun y hy => ?_
 rotate_left
 ·have := (hsp2 y hy).1; simp [this] at g
 have g : e2 = 0 := by simpa using g
 intro b6 f6 w3 A3 _ _ _ _ _ hp3
 have l6 := A3.lt b6 (by simp)
 have s3 := A3.mod.size
 refine (yBH (by omega) (H2.rd.keep0 A3.mod) hp3 (by omega)).mono ?_
 rintro _ w4 ⟨rfl, hr4, hp4, M4⟩
 have K4 : Mod [b1] w2 w4 := (A3.mod.trans M4).less fun k hk hl => by simp at hk ⊢; omega
 obtain ⟨a4, e4, H4, hst4⟩ := H2.go K4 hr4
 have s4 := M4.size
 generalize hyp : (ycK s1.data.toList (ycE a2 e2)).2 = yp at hp4
 refine ⟨rfl, yaI.ofE M4 fun k hk hl he => by simp at hk he ⊢; omega, _, _, _, H4.hr, _, _, _, _, _, _, _, _, _, _, H4.hx, _, H4.he, _, H4.hn, _, K4.keep h52 (by simp; omega), _, _, hp4, ?_⟩
 have hrow : ∀ k ∈ yjY pa, w0.heap.size ≤ k ∧ k < w2.heap.size := fun k hk => by
  have := ybA H2.pr k hk; exact ⟨this.1, this.2.1⟩
 refine yEw (f := ⟨pa, pn, pc⟩) (y := yp) H4.pr (by show l.length ≤ _; omega) (by have := H4.m.size; exact this) (fun b hb' hk => by have := hrow b hk; simp at hb'; omega) fun a' c' w5 hR5 M5 => ?_
 intro w6 A6 hr6 hx6 he6 hn6 h56 _
 have H6 : RPS w0 w6 b0 b1 b2 b3 b4 b5 s1 a4 e4 ⟨y0, y1, y2, y3, lf, l ++ [yp]⟩ f ⟨a', pn + 1, c'⟩ ev' fv' := by
  refine ⟨hr6, hx6, he6, hn6, ?_, hR5.keep A6.mod fun ad ha hk => ?_, (H4.m.via (M5.trans A6.mod) fun k hk hl => ?_), H4.lt, H4.nd, H4.pos⟩
  ·refine (H4.fr.keep M5 fun ad ha hk => ?_).keep A6.mod fun ad ha hk => ?_
   ·obtain ⟨_, cur, hc⟩ := H4.fr.block ad ha
    obtain ⟨_, _, cur2, hc2⟩ := ybA H4.pr _ hk
    rw [hc2] at hc; cases hc
   ·have := H4.fr.base ad ha; simp at hk; omega
  ·have := hR5.base ad ha; simp at hk; omega
  ·rcases List.mem_append.1 hk with hk | hk
   ·have := hrow k hk; omega
   ·simp at hk ⊢; omega
 refine yvI (pv'.toNat - (i + 1)) (by omega) ⟨i + 1, l ++ [yp], ek, by simp [hli], ?_, fun he => ?_, rfl, rfl, rfl, rfl, rfl, rfl, rfl, rfl, rfl, rfl, rfl, H6, fun y hy => ?_, by omega⟩
 ·have := hia g
  obtain ⟨n, hn1, hn2⟩ := H2.pos
  omega
 ·
  have hst : ycE a4 e4 = some a4.toNat := by unfold ycE; rw [if_pos he]
  obtain ⟨n, hn1, hn2⟩ := H2.pos
  have h2 : ycE a2 e2 = some n := by unfold ycE; rw [if_pos g, hn1, Int.toNat_natCast]
  rw [hst, h2] at hst4
  unfold ycK at hst4
  simp only at hst4
  have := hia g
  cases hq : (yeO s1.data.toList (some n) ⟨#[]⟩).1 with
  | none => rw [hq] at hst4; simp [ya8] at hst4
  | some q =>
   have h5 := yzC hq
   rw [hq] at hst4
   have h6 := yAy hst4
   obtain ⟨n4, hn4, _⟩ := H4.pos
   omega
 ·obtain ⟨h1, h2, h3⟩ := hsp2 y hy
  have h4 := (hsp1 y hy).2.2.2
  obtain ⟨y0', hy0⟩ : ∃ z, y.parts[i]? = some z := ⟨_, List.getElem?_eq_getElem (by omega)⟩
  have h5 := hy.p hy0
  have h6 : ycE a2 e2 = some (yeM y i).length := by unfold ycE; rw [if_pos h1, h2, Int.toNat_natCast]
  rw [h6, h5] at hst4 hyp
  obtain ⟨n4, hn4, _⟩ := H4.pos
  unfold ycE at hst4
  by_cases he : e4 = 0
  ·rw [if_pos he] at hst4
   simp only [Option.some.injEq] at hst4
   refine ⟨he, by omega, ?_⟩
   have hyp : y0' = yp := hyp
   rw [List.take_add_one, hy0, h3, hyp]; rfl
  ·rw [if_neg he] at hst4; cases hst4
theorem RPS.app {w0 w w1 w2 : World} {b0 b1 b2 b3 b4 b5 : Nat} {s : ByteArray} {a e : Int} {x : PRep} {f p : Sl} {ev fv : Int} {y : PFound} {a' : Option Addr} {n' c' : Nat} (H : RPS w0 w b0 b1 b2 b3 b4 b5 s a e x f p ev fv) (hp : p = ybL) (hx0 : x.parts = []) (hR : Row w1 w0.heap.size 55 5 yhT a' n' c' (x.found ++ [y])) (M : Mod (yjY f.a) w w1) (A : Mod [b2] w1 w2)
  (hr : w2.heap[b1]? = some (.cells #[.string s, .int .i64 a, .int .i64 e] QT)) (hx : w2.heap[b2]? = some (.cells #[.int .i64 x.e, .int .i64 x.off, .int .i64 x.n, .int .i64 x.gen, .slice a' n' c', .slice p.a p.n p.c] 27))
  (he : w2.heap[b3]? = some (.cells #[.int .i64 ev] 3)) (hn : w2.heap[b4]? = some (.cells #[.int .i64 fv] 3)) :
  RPS w0 w2 b0 b1 b2 b3 b4 b5 s a e ⟨x.e, x.off, x.n, x.gen, x.found ++ [y], x.parts⟩ ⟨a', n', c'⟩ p ev fv := by
 have lt := H.lt
 have hrow : ∀ k ∈ yjY f.a, w0.heap.size ≤ k := fun k hk => (ybA H.fr k hk).1
 refine ⟨hr, hx, he, hn, hR.keep A fun ad ha hk => ?_, by subst hp; rw [hx0]; exact Row.nil .., (H.m.via (M.trans A) fun k hk hl => ?_), H.lt, H.nd, H.pos⟩
 ·have := hR.base ad ha; simp at hk; omega
 ·rcases List.mem_append.1 hk with hk | hk
  ·have := hrow k hk; omega
  ·simp at hk ⊢; omega
set_option maxHeartbeats 8000000 in
theorem yrO {s : ByteArray} (hs : s.size ≤ 900000) (w : World) :
  Calls pP 81 #[.string s] w fun e w' => ∃ v, e = .returned v ∧ yEx w w' s v ∧ Mod [] w w' := by
 refine yEt ?_
 intro b0 g0 b1 g1 b2 g2 b3 g3 b4 g4 b5 g5 w7 A7 h2 h3 h4
 have s7 := A7.mod.size
 have nd := A7.nd
 have lt : b0 < w7.heap.size ∧ b1 < w7.heap.size ∧ b2 < w7.heap.size ∧ b3 < w7.heap.size ∧ b4 < w7.heap.size ∧ b5 < w7.heap.size := ⟨A7.lt b0 (by simp), A7.lt b1 (by simp), A7.lt b2 (by simp), A7.lt b3 (by simp), A7.lt b4 (by simp), A7.lt b5 (by simp)⟩
 refine ycZ fun b8 w9 c9 M9 f9 => ?_
 intro w10 A10 hr10 hx10 he10 hn10
 have s9 := M9.size
 have s10 := A10.mod.size
 have l8 := yaT c9
 have c10 := A10.mod.keep0 c9
 have N10 : Mod [] w w10 := (A7.mod.go0 M9 (by simp)).go0 A10.mod (by simp)
 have H0 : RPS w10 w10 b0 b1 b2 b3 b4 b5 s 0 0 yeG ybL ybL 0 0 := ⟨hr10, hx10, he10, hn10, Row.nil .., Row.nil .., (Mod.refl _).less (by simp), by omega, nd, 0, rfl, by omega⟩
 refine yvG (fun mm x28 s1 a e y0 y1 y2 y3 fa fn fc pa pn pc ev fv w' => ∃ k : Nat, x28 = k ∧ k ≤ 5 ∧ s1 = s ∧ y0 = 0 ∧ fa = none ∧ fn = 0 ∧ fc = 0 ∧ pa = none ∧ pn = 0 ∧ pc = 0 ∧ RPS w10 w' b0 b1 b2 b3 b4 b5 s a e ⟨y0, y1, y2, y3, [], []⟩ ybL ybL ev fv ∧
  (∀ x, ye7 s x → e = 0 ∧ a = (yhW x k).length ∧ [ev, y1, y2, y3, fv].take k = (hdI x).take k) ∧ mm = 5 - k) 5
  ⟨0, rfl, by omega, rfl, rfl, rfl, rfl, rfl, rfl, rfl, rfl, H0, fun x _ => ⟨rfl, by simp [yhW], rfl⟩, rfl⟩ ?_
 rintro mm x28 s1 a e y0 y1 y2 y3 fa fn fc pa pn pc ev fv w11 ⟨k, rfl, hk, rfl, rfl, rfl, rfl, rfl, rfl, rfl, rfl, H, hsp, rfl⟩ _ _ _ _
 have nd' := nd
 simp at nd'
 have hss : s1.data.toList.length = s1.size := by simp
 refine yaC (fun hlt => ?_) fun hge => ?_
 ·have hk5 : k < 5 := by omega
  have c11 := H.m.keep c10 (show b8 ∉ [b1, b2, b3, b4, b5] by simp; omega)
  have ek : IntKind.wrap .i64 ((k : Int) + 1) = ((k + 1 : Nat) : Int) := by rw [yaG (by omega) (by omega)]; omega
  have step : ∀ (x0 : Int) (x : PRep), ye7 s1 x → ∃ n, (hdI x)[k]? = some n ∧ ya8 s1.data.toList (ycE a e) x0 = (some (yhW x (k + 1)).length, n) := fun x0 x hx => by
   obtain ⟨h1, h2, h3⟩ := hsp x hx
   obtain ⟨n, hn⟩ : ∃ n, (hdI x)[k]? = some n := ⟨_, List.getElem?_eq_getElem (by simpa [hdI] using hk5)⟩
   refine ⟨n, hn, ?_⟩
   have := hx.hd hn
   unfold ycE
   rw [if_pos h1, h2, Int.toNat_natCast]
   exact yBI this x0
  have done : ∀ {st : Option Nat} {v x0 : Int} {n : Nat} {e' z1 z2 z3 ev' fv' : Int}, ya8 s1.data.toList (ycE a e) x0 = (st, v) → st = (if e' = 0 then some n else none) → ([ev', z1, z2, z3, fv'].take (k + 1) = [ev, y1, y2, y3, fv].take k ++ [v]) →
    ∀ x, ye7 s1 x → e' = 0 ∧ ((n : Nat) : Int) = (yhW x (k + 1)).length ∧ [ev', z1, z2, z3, fv'].take (k + 1) = (hdI x).take (k + 1) := fun {st v x0 n e' z1 z2 z3 ev' fv'} hv hst ht x hx => by
   obtain ⟨m, hm, hm2⟩ := step x0 x hx
   obtain ⟨_, _, hm3⟩ := hsp x hx
   rw [hv] at hm2
   simp only [Prod.mk.injEq] at hm2
   obtain ⟨e1, e2⟩ := hm2
   rw [e1] at hst
   have he : e' = 0 := by
    by_cases he : e' = 0
    ·exact he
    ·rw [if_neg he] at hst; cases hst
   rw [if_pos he] at hst
   refine ⟨he, by simp only [Option.some.injEq] at hst; omega, ?_⟩
   rw [ht, hm3, e2, List.take_add_one, hm]; rfl
  rcases (by omega : k = 0 ∨ k = 1 ∨ k = 2 ∨ k = 3 ∨ k = 4) with rfl | rfl | rfl | rfl | rfl
  ·refine ⟨_, rfl, by omega, by omega, yd7 (x := some ⟨b3, 0, none⟩) (by rw [ya1, yaY c11]; rfl) ?_⟩
   refine (ybI (by omega) H.rd (off := 0) (x := ev) H.he rfl (by omega)).mono ?_
   rintro _ w12 ⟨rfl, hr, hb, M12⟩
   obtain ⟨n, e', h1, h2', h3'⟩ := hr
   have hb : w12.heap[b3]? = some (.cells #[.int .i64 (ya8 s1.data.toList (ycE a e) ev).2] 3) := by rw [hb]; rfl
   have H' : RPS w10 w12 b0 b1 b2 b3 b4 b5 s1 n e' ⟨0, y1, y2, y3, [], []⟩ ybL ybL (ya8 s1.data.toList (ycE a e) ev).2 fv := ⟨h1, M12.keep H.hx (by simp; omega), hb, M12.keep H.hn (by simp; omega), Row.nil .., Row.nil .., H.m.via M12 (by simp), H.lt, H.nd, n, rfl, h2'⟩
   exact ⟨rfl, yaI.ofE M12 fun k hk hl he => by simp at hk he ⊢; omega, _, _, _, h1, _, _, _, _, _, _, _, _, _, _, H'.hx, _, H'.he, _, H'.hn, yd2 (5 - (0 + 1)) (by omega) ⟨0 + 1, ek, by omega, rfl, rfl, rfl, rfl, rfl, rfl, rfl, rfl, H', done rfl h3' rfl, rfl⟩⟩
  ·refine ⟨_, rfl, by omega, by omega, yd7 (x := some ⟨b2, 1, none⟩) (by rw [ya1, yaY c11]; rfl) ?_⟩
   refine (ybI (by omega) H.rd (off := 1) (x := y1) H.hx rfl (by omega)).mono ?_
   rintro _ w12 ⟨rfl, hr, hb, M12⟩
   obtain ⟨n, e', h1, h2', h3'⟩ := hr
   have H' : RPS w10 w12 b0 b1 b2 b3 b4 b5 s1 n e' ⟨0, (ya8 s1.data.toList (ycE a e) y1).2, y2, y3, [], []⟩ ybL ybL ev fv := ⟨h1, by rw [hb]; rfl, M12.keep H.he (by simp; omega), M12.keep H.hn (by simp; omega), Row.nil .., Row.nil .., H.m.via M12 (by simp), H.lt, H.nd, n, rfl, h2'⟩
   exact ⟨rfl, yaI.ofE M12 fun k hk hl he => by simp at hk he ⊢; omega, _, _, _, h1, _, _, _, _, _, _, _, _, _, _, H'.hx, _, H'.he, _, H'.hn, yd2 (5 - (1 + 1)) (by omega) ⟨1 + 1, ek, by omega, rfl, rfl, rfl, rfl, rfl, rfl, rfl, rfl, H', done rfl h3' rfl, rfl⟩⟩
  ·refine ⟨_, rfl, by omega, by omega, yd7 (x := some ⟨b2, 2, none⟩) (by rw [ya1, yaY c11]; rfl) ?_⟩
   refine (ybI (by omega) H.rd (off := 2) (x := y2) H.hx rfl (by omega)).mono ?_
   rintro _ w12 ⟨rfl, hr, hb, M12⟩
   obtain ⟨n, e', h1, h2', h3'⟩ := hr
   have H' : RPS w10 w12 b0 b1 b2 b3 b4 b5 s1 n e' ⟨0, y1, (ya8 s1.data.toList (ycE a e) y2).2, y3, [], []⟩ ybL ybL ev fv := ⟨h1, by rw [hb]; rfl, M12.keep H.he (by simp; omega), M12.keep H.hn (by simp; omega), Row.nil .., Row.nil .., H.m.via M12 (by simp), H.lt, H.nd, n, rfl, h2'⟩
   exact ⟨rfl, yaI.ofE M12 fun k hk hl he => by simp at hk he ⊢; omega, _, _, _, h1, _, _, _, _, _, _, _, _, _, _, H'.hx, _, H'.he, _, H'.hn, yd2 (5 - (2 + 1)) (by omega) ⟨2 + 1, ek, by omega, rfl, rfl, rfl, rfl, rfl, rfl, rfl, rfl, H', done rfl h3' rfl, rfl⟩⟩
  ·refine ⟨_, rfl, by omega, by omega, yd7 (x := some ⟨b2, 3, none⟩) (by rw [ya1, yaY c11]; rfl) ?_⟩
   refine (ybI (by omega) H.rd (off := 3) (x := y3) H.hx rfl (by omega)).mono ?_
   rintro _ w12 ⟨rfl, hr, hb, M12⟩
   obtain ⟨n, e', h1, h2', h3'⟩ := hr
   have H' : RPS w10 w12 b0 b1 b2 b3 b4 b5 s1 n e' ⟨0, y1, y2, (ya8 s1.data.toList (ycE a e) y3).2, [], []⟩ ybL ybL ev fv := ⟨h1, by rw [hb]; rfl, M12.keep H.he (by simp; omega), M12.keep H.hn (by simp; omega), Row.nil .., Row.nil .., H.m.via M12 (by simp), H.lt, H.nd, n, rfl, h2'⟩
   exact ⟨rfl, yaI.ofE M12 fun k hk hl he => by simp at hk he ⊢; omega, _, _, _, h1, _, _, _, _, _, _, _, _, _, _, H'.hx, _, H'.he, _, H'.hn, yd2 (5 - (3 + 1)) (by omega) ⟨3 + 1, ek, by omega, rfl, rfl, rfl, rfl, rfl, rfl, rfl, rfl, H', done rfl h3' rfl, rfl⟩⟩
  ·refine ⟨_, rfl, by omega, by omega, yd7 (x := some ⟨b4, 0, none⟩) (by rw [ya1, yaY c11]; rfl) ?_⟩
   refine (ybI (by omega) H.rd (off := 0) (x := fv) H.hn rfl (by omega)).mono ?_
   rintro _ w12 ⟨rfl, hr, hb, M12⟩
   obtain ⟨n, e', h1, h2', h3'⟩ := hr
   have hb : w12.heap[b4]? = some (.cells #[.int .i64 (ya8 s1.data.toList (ycE a e) fv).2] 3) := by rw [hb]; rfl
   have H' : RPS w10 w12 b0 b1 b2 b3 b4 b5 s1 n e' ⟨0, y1, y2, y3, [], []⟩ ybL ybL ev (ya8 s1.data.toList (ycE a e) fv).2 := ⟨h1, M12.keep H.hx (by simp; omega), M12.keep H.he (by simp; omega), hb, Row.nil .., Row.nil .., H.m.via M12 (by simp), H.lt, H.nd, n, rfl, h2'⟩
   exact ⟨rfl, yaI.ofE M12 fun k hk hl he => by simp at hk he ⊢; omega, _, _, _, h1, _, _, _, _, _, _, _, _, _, _, H'.hx, _, H'.he, _, H'.hn, yd2 (5 - (4 + 1)) (by omega) ⟨4 + 1, ek, by omega, rfl, rfl, rfl, rfl, rfl, rfl, rfl, rfl, H', done rfl h3' rfl, rfl⟩⟩
 have hk5 : k = 5 := by omega
 subst hk5
 intro w13 A13 hr13 hx13 he13 hn13
 have hb0 : w.heap.size ≤ b0 ∧ w.heap.size ≤ b1 ∧ w.heap.size ≤ b2 ∧ w.heap.size ≤ b3 ∧ w.heap.size ≤ b4 ∧ w.heap.size ≤ b5 := ⟨g0, g1, g2, g3, g4, g5⟩
 have H13 : RPS w10 w13 b0 b1 b2 b3 b4 b5 s1 a e ⟨ev, y1, y2, y3, [], []⟩ ybL ybL ev fv := ⟨hr13, hx13, he13, hn13, Row.nil .., Row.nil .., H.m.via A13.mod (by simp), H.lt, H.nd, H.pos⟩
 have hsp13 : ∀ x, ye7 s1 x → e = 0 ∧ a = (ycU x 0).length ∧ [ev, y1, y2, y3, fv] = hdI x := fun x hx => by
  obtain ⟨h1, h2, h3⟩ := hsp x hx
  rw [yAr] at h2
  exact ⟨h1, h2, by simpa [hdI] using h3⟩
 clear hsp H
 refine yvH (fun mm x11 s2 a e z0 z1 z2 z3 fa fn fc pa pn pc ev' fv' w' => ∃ (i : Nat) (l : List PFound), x11 = i ∧ l.length = i ∧ i ≤ s1.size + 1 ∧ (e = 0 → (i : Int) ≤ a) ∧ s2 = s1 ∧ z0 = ev ∧ z1 = y1 ∧ z2 = y2 ∧ z3 = y3 ∧ pa = none ∧ pn = 0 ∧ pc = 0 ∧ ev' = ev ∧ fv' = fv ∧ RPS w10 w' b0 b1 b2 b3 b4 b5 s1 a e ⟨ev, y1, y2, y3, l, []⟩ ⟨fa, fn, fc⟩ ybL ev fv ∧
  (∀ x, ye7 s1 x → e = 0 ∧ a = (ycU x i).length ∧ l = x.found.take i) ∧ mm = fv.toNat - i) fv.toNat
  ⟨0, [], rfl, rfl, by omega, fun h => by obtain ⟨n, h1, _⟩ := H13.pos; omega, rfl, rfl, rfl, rfl, rfl, rfl, rfl, rfl, rfl, rfl, H13, fun x hx => ⟨(hsp13 x hx).1, (hsp13 x hx).2.1, by simp⟩, by omega⟩ ?_
 rintro mm x11 s2 a2 e2 z0 z1 z2 z3 fa fn fc pa pn pc ev' fv' w14 ⟨i, l, rfl, hli, his, hia, rfl, rfl, rfl, rfl, rfl, rfl, rfl, rfl, rfl, rfl, H, hsp, rfl⟩ _ _ _ _
 have s14 := H.m.size
 have hd13 : ∀ x, ye7 s2 x → ev' = x.e ∧ z1 = x.off ∧ z2 = x.n ∧ z3 = x.gen ∧ fv' = x.found.length := fun x hx => by
  have := (hsp13 x hx).2.2
  simpa [hdI] using this
 have ek : IntKind.wrap .i64 ((i : Int) + 1) = ((i + 1 : Nat) : Int) := by rw [yaG (by omega) (by omega)]; omega
 have out : ∀ {w15}, Adv [] [] w14 w15 → w15.heap[b5]? = some (.cells #[.int .i64 0] 3) → (∀ x, ye7 s2 x → i = x.found.length) → _ := fun {w15} A15 h5 hd => yHT (wS := w) (wX := w15) (H.keep0 A15.mod) h5 rfl N10 hb0 hs (show l.length ≤ _ by omega) fun x hx => by
  obtain ⟨h1, h2, h3⟩ := hsp x hx
  obtain ⟨q1, q2, q3, q4, q5⟩ := hd13 x hx
  have h4 := hd x hx
  refine ⟨h1, by rw [h2, h4], ?_⟩
  rw [h3, h4, List.take_length, q1, q2, q3, q4]
 refine yaC (fun hlt => ?_) fun hge => ?_
 rotate_left
 ·intro w15 A15 _ _ _ _ h5
  refine out A15 h5 fun x hx => ?_
  obtain ⟨_, _, h3⟩ := hsp x hx
  have := congrArg List.length h3
  have h4 := (hd13 x hx).2.2.2.2
  rw [List.length_take] at this; omega
 refine yaB (fun g => ?_) fun g => ?_
 rotate_left
 ·intro w15 A15 _ _ _ _ h5
  refine out A15 h5 fun x hx => ?_
  have := (hsp x hx).1; simp [this] at g
 have g : e2 = 0 := by simpa using g
 intro b6 f6 w15 A15 _ _ _ _ hf15
 have l6 := A15.lt b6 (by simp)
 have s15 := A15.mod.size
 refine (ybI (by omega) (H.rd.keep0 A15.mod) (off := 0) (x := 0) hf15 rfl (by omega)).mono ?_
 rintro _ w16 ⟨rfl, hr16, hf16, M16⟩
 have s16 := M16.size
 have K16 : Mod [b1] w14 w16 := (A15.mod.trans M16).less fun k hk hl => by simp at hk ⊢; omega
 obtain ⟨a16, e16, H16, hst16⟩ := H.go K16 hr16
 obtain ⟨n16, rfl, hn16⟩ := H16.pos
 obtain ⟨off, hoff⟩ : ∃ off, off = (ya8 s2.data.toList (ycE a2 e2) 0).2 := ⟨_, rfl⟩
 have hf16 : w16.heap[b6]? = some (.cells #[.int .i64 off, .bool false, .string ByteArray.empty, .bool false, .string ByteArray.empty] 55) := by rw [hf16, hoff]; rfl
 have hsp16 : ∀ x, ye7 s2 x → ∃ y, x.found[i]? = some y ∧ e16 = 0 ∧ off = y.off ∧ yo8 s2.data.toList n16 = some (y.r, (ycU x (i + 1)).length) := fun x hx => by
  obtain ⟨h1, h2, h3⟩ := hsp x hx
  have h4 := (hd13 x hx).2.2.2.2
  obtain ⟨y, hy⟩ : ∃ y, x.found[i]? = some y := ⟨_, List.getElem?_eq_getElem (by omega)⟩
  obtain ⟨h5, h6⟩ := hx.f hy
  have h7 : ycE a2 e2 = some (ycU x i).length := by unfold ycE; rw [if_pos h1, h2, Int.toNat_natCast]
  rw [h7, h5] at hst16 hoff
  unfold ycE at hst16
  by_cases he : e16 = 0
  ·rw [if_pos he, Int.toNat_natCast] at hst16
   simp only [Option.some.injEq] at hst16
   exact ⟨y, hy, he, hoff, by rw [← hst16]; exact h6⟩
  ·rw [if_neg he] at hst16; cases hst16
 have hup16 : e16 = 0 → (i : Int) + 1 ≤ n16 := fun he => by
  have h1 : ycE ((n16 : Nat) : Int) e16 = some n16 := by unfold ycE; rw [if_pos he, Int.toNat_natCast]
  obtain ⟨n2, hn2, hn3⟩ := H.pos
  have h2 : ycE a2 e2 = some n2 := by unfold ycE; rw [if_pos g, hn2, Int.toNat_natCast]
  rw [h1, h2] at hst16
  have h3 := yAy hst16
  have := hia g
  omega
 have hrow : ∀ k ∈ yjY fa, w10.heap.size ≤ k ∧ k < w14.heap.size := fun k hk => by
  have := ybA H.fr k hk; exact ⟨this.1, this.2.1⟩
 refine ⟨rfl, yaI.ofE M16 fun k hk hl he => by simp at hk he ⊢; omega, _, _, _, H16.hr, _, _, _, _, _, _, _, _, _, _, H16.hx, _, H16.he, _, H16.hn, _, _, _, _, _, hf16, ?_, ?_⟩
 ·intro b9 f9 w17 A17 _ _ _ _ _
  have l9 := A17.lt b9 (by simp)
  have s17 := A17.mod.size
  refine (ylQ s2 n16 (by omega) hn16 w17).mono ?_
  rintro _ w18 ⟨_, rfl, ⟨r, to, e18, rfl, hrec⟩, M18⟩
  have s18 := M18.size
  have K18 : Mod [b1] w14 w18 := ((K16.trans A17.mod).trans M18).less (by simp)
  have H18 := (H16.keep0 A17.mod).keep0 M18
  have hf18 := M18.keep0 (A17.mod.keep0 hf16)
  refine ⟨_, _, _, _, _, _, rfl, yaI.of0 M18, _, _, _, H18.hr, _, _, _, _, _, _, _, _, _, _, H18.hx, _, H18.he, _, H18.hn, _, _, _, _, _, hf18, ?_⟩
  intro w19 A19 _ _ _ _ _
  have s19 := A19.mod.size
  have K19 : Mod [b1] w14 w19 := (K18.trans A19.mod).less fun k hk hl => by simp at hk ⊢; omega
  have hf19 := A19.mod.keep hf18 (show b6 ∉ [b9] by simp; omega)
  have hr19 : Rd QT s2 b1 (ycE ((n16 : Nat) : Int) e16) w19 := H18.rd.keep A19.mod (by simp; omega)
  refine (ydC hr19 (to := to) (e1 := e18) (by
   rcases hrec with ⟨_, h⟩ | ⟨_, h, _⟩
   ·have := yjI h; omega
   ·omega)).mono ?_
  rintro _ w20 ⟨rfl, M20, hr20⟩
  have s20 := M20.size
  have K20 : Mod [b1] w14 w20 := (K19.trans M20).less (by simp)
  have hf20 := M20.keep hf19 (show b6 ∉ [b1] by simp; omega)
  obtain ⟨a20, e20, H20, hst20⟩ := H.go K20 hr20
  refine ⟨_, rfl, yaI.ofE M20 fun k hk hl he => by simp at hk he ⊢; omega, _, _, _, H20.hr, _, _, _, _, _, _, _, _, _, _, H20.hx, _, H20.he, _, H20.hn, _, _, _, _, _, hf20, ?_⟩
  have hc20 : e20 = 0 → e16 = 0 ∧ e18 = 0 ∧ a20 = to ∧ (i : Int) + 1 ≤ a20 := fun he => by
   obtain ⟨n20, hn20, _⟩ := H20.pos
   have h1 : ycE a20 e20 = some n20 := by unfold ycE; rw [if_pos he, hn20, Int.toNat_natCast]
   rw [h1] at hst20
   by_cases hc : (ycE ((n16 : Nat) : Int) e16).isSome = true ∧ e18 = 0
   ·rw [if_pos hc] at hst20
    have h16 : e16 = 0 := by
     by_cases h : e16 = 0
     ·exact h
     ·have := hc.1; unfold ycE at this; rw [if_neg h] at this; cases this
    rcases hrec with ⟨_, h⟩ | ⟨h, _, _⟩
    ·have h2 := yjI h
     have h3 := hup16 h16
     simp only [Option.some.injEq] at hst20
     exact ⟨h16, hc.2, by omega, by omega⟩
    ·exact absurd hc.2 h
   ·rw [if_neg hc] at hst20; cases hst20
  have hsp20 : ∀ x, ye7 s2 x → e20 = 0 ∧ a20 = (ycU x (i + 1)).length ∧ e16 = 0 ∧ e18 = 0 ∧ l ++ [⟨off, r⟩] = x.found.take (i + 1) := fun x hx => by
   obtain ⟨y, hy, h16, h1, h2⟩ := hsp16 x hx
   rcases hrec with ⟨h3, h4⟩ | ⟨_, _, h4⟩
   ·rw [h2] at h4
    simp only [Option.some.injEq, Prod.mk.injEq] at h4
    have h5 : (ycE ((n16 : Nat) : Int) e16).isSome = true := by unfold ycE; rw [if_pos h16]; rfl
    rw [if_pos ⟨h5, h3⟩] at hst20
    obtain ⟨n20, hn20, _⟩ := H20.pos
    unfold ycE at hst20
    by_cases he : e20 = 0
    ·rw [if_pos he] at hst20
     simp only [Option.some.injEq] at hst20
     refine ⟨he, by omega, h16, h3, ?_⟩
     rw [List.take_add_one, hy, (hsp x hx).2.2, h1, ← h4.1]; rfl
    ·rw [if_neg he] at hst20; cases hst20
   ·rw [h2] at h4; cases h4
  refine yaB (fun gm => ?_) fun gm => ?_
  rotate_left
  ·
   refine yn2 (f := ⟨fa, fn, fc⟩) (y := ⟨off, ⟨false, ByteArray.empty, false, ByteArray.empty⟩⟩) H20.fr (show l.length ≤ _ by omega) H20.m.size (fun b hb' hk => by have := hrow b hk; simp at hb'; omega) fun a' c' w22 hR M22 => ?_
   intro w23 A23 hr hx he hn _
   have H23 := H20.app rfl rfl hR M22 A23.mod hr hx he hn
   refine ye8 (fv'.toNat - (i + 1)) (by omega) ⟨i + 1, l ++ [⟨off, ⟨false, ByteArray.empty, false, ByteArray.empty⟩⟩], ek, by simp [hli], ?_, fun he => (hc20 he).2.2.2, rfl, rfl, rfl, rfl, rfl, rfl, rfl, rfl, rfl, rfl, H23, fun x hx => ?_, by omega⟩
   ·have := hia g
    obtain ⟨n, hn1, hn2⟩ := H.pos
    omega
   ·obtain ⟨_, _, h16, h18, _⟩ := hsp20 x hx
    have : (ycE ((n16 : Nat) : Int) e16).isSome = true := by unfold ycE; rw [if_pos h16]; rfl
    rw [this, h18] at gm; cases gm
  ·intro w21 A21 hr21 hx21 he21 hn21 hf21
   have K21 : Mod [b1] w14 w21 := (K20.trans A21.mod).less fun k hk hl => by simp at hk ⊢; omega
   have s21 := A21.mod.size
   refine yn2 (f := ⟨fa, fn, fc⟩) (y := ⟨off, r⟩) (H.fr.keep K21 fun ad ha hk => by have := H.fr.base ad ha; simp at hk; omega) (show l.length ≤ _ by omega) (by have := H.m.size; omega) (fun b hb' hk => by have := hrow b hk; simp at hb'; omega) fun a' c' w22 hR M22 => ?_
   intro w23 A23 hr hx he hn _
   have H21 : RPS w10 w21 b0 b1 b2 b3 b4 b5 s2 a20 e20 ⟨ev', z1, z2, z3, l, []⟩ ⟨fa, fn, fc⟩ ybL ev' fv' := ⟨hr21, hx21, he21, hn21, H.fr.keep K21 fun ad ha hk => by have := H.fr.base ad ha; simp at hk; omega, Row.nil .., H.m.via K21 (by simp), H.lt, H.nd, H20.pos⟩
   have H23 := H21.app rfl rfl hR M22 A23.mod hr hx he hn
   refine ye8 (fv'.toNat - (i + 1)) (by omega) ⟨i + 1, l ++ [⟨off, r⟩], ek, by simp [hli], ?_, fun he => (hc20 he).2.2.2, rfl, rfl, rfl, rfl, rfl, rfl, rfl, rfl, rfl, rfl, H23, fun x hx => ⟨(hsp20 x hx).1, (hsp20 x hx).2.1, (hsp20 x hx).2.2.2.2⟩, by omega⟩
   have := hia g
   obtain ⟨n, hn1, hn2⟩ := H.pos
   omega
 ·intro w17 A17 _ _ _ _ _
  have s17 := A17.mod.size
  refine (ylQ s2 n16 (by omega) hn16 w17).mono ?_
  rintro _ w18 ⟨_, rfl, ⟨r, to, e18, rfl, hrec⟩, M18⟩
  have s18 := M18.size
  have K18 : Mod [b1] w14 w18 := ((K16.trans A17.mod).trans M18).less (by simp)
  have H18 := (H16.keep0 A17.mod).keep0 M18
  have hf18 := M18.keep0 (A17.mod.keep0 hf16)
  refine ⟨_, _, _, _, _, _, rfl, yaI.of0 M18, _, _, _, H18.hr, _, _, _, _, _, _, _, _, _, _, H18.hx, _, H18.he, _, H18.hn, _, _, _, _, _, hf18, ?_⟩
  intro b9 f9 w19 A19 _ _ _ _ _
  have l9 := A19.lt b9 (by simp)
  have s19 := A19.mod.size
  have K19 : Mod [b1] w14 w19 := (K18.trans A19.mod).less fun k hk hl => by simp at hk ⊢; omega
  have hf19 := A19.mod.keep0 hf18
  have hr19 : Rd QT s2 b1 (ycE ((n16 : Nat) : Int) e16) w19 := H18.rd.keep0 A19.mod
  refine (ydC hr19 (to := to) (e1 := e18) (by
   rcases hrec with ⟨_, h⟩ | ⟨_, h, _⟩
   ·have := yjI h; omega
   ·omega)).mono ?_
  rintro _ w20 ⟨rfl, M20, hr20⟩
  have s20 := M20.size
  have K20 : Mod [b1] w14 w20 := (K19.trans M20).less (by simp)
  have hf20 := M20.keep hf19 (show b6 ∉ [b1] by simp; omega)
  obtain ⟨a20, e20, H20, hst20⟩ := H.go K20 hr20
  refine ⟨_, rfl, yaI.ofE M20 fun k hk hl he => by simp at hk he ⊢; omega, _, _, _, H20.hr, _, _, _, _, _, _, _, _, _, _, H20.hx, _, H20.he, _, H20.hn, _, _, _, _, _, hf20, ?_⟩
  have hc20 : e20 = 0 → e16 = 0 ∧ e18 = 0 ∧ a20 = to ∧ (i : Int) + 1 ≤ a20 := fun he => by
   obtain ⟨n20, hn20, _⟩ := H20.pos
   have h1 : ycE a20 e20 = some n20 := by unfold ycE; rw [if_pos he, hn20, Int.toNat_natCast]
   rw [h1] at hst20
   by_cases hc : (ycE ((n16 : Nat) : Int) e16).isSome = true ∧ e18 = 0
   ·rw [if_pos hc] at hst20
    have h16 : e16 = 0 := by
     by_cases h : e16 = 0
     ·exact h
     ·have := hc.1; unfold ycE at this; rw [if_neg h] at this; cases this
    rcases hrec with ⟨_, h⟩ | ⟨h, _, _⟩
    ·have h2 := yjI h
     have h3 := hup16 h16
     simp only [Option.some.injEq] at hst20
     exact ⟨h16, hc.2, by omega, by omega⟩
    ·exact absurd hc.2 h
   ·rw [if_neg hc] at hst20; cases hst20
  have hsp20 : ∀ x, ye7 s2 x → e20 = 0 ∧ a20 = (ycU x (i + 1)).length ∧ e16 = 0 ∧ e18 = 0 ∧ l ++ [⟨off, r⟩] = x.found.take (i + 1) := fun x hx => by
   obtain ⟨y, hy, h16, h1, h2⟩ := hsp16 x hx
   rcases hrec with ⟨h3, h4⟩ | ⟨_, _, h4⟩
   ·rw [h2] at h4
    simp only [Option.some.injEq, Prod.mk.injEq] at h4
    have h5 : (ycE ((n16 : Nat) : Int) e16).isSome = true := by unfold ycE; rw [if_pos h16]; rfl
    rw [if_pos ⟨h5, h3⟩] at hst20
    obtain ⟨n20, hn20, _⟩ := H20.pos
    unfold ycE at hst20
    by_cases he : e20 = 0
    ·rw [if_pos he] at hst20
     simp only [Option.some.injEq] at hst20
     refine ⟨he, by omega, h16, h3, ?_⟩
     rw [List.take_add_one, hy, (hsp x hx).2.2, h1, ← h4.1]; rfl
    ·rw [if_neg he] at hst20; cases hst20
   ·rw [h2] at h4; cases h4
  refine yaB (fun gm => ?_) fun gm => ?_
  rotate_left
  ·
   refine yn2 (f := ⟨fa, fn, fc⟩) (y := ⟨off, ⟨false, ByteArray.empty, false, ByteArray.empty⟩⟩) H20.fr (show l.length ≤ _ by omega) H20.m.size (fun b hb' hk => by have := hrow b hk; simp at hb'; omega) fun a' c' w22 hR M22 => ?_
   intro w23 A23 hr hx he hn _
   have H23 := H20.app rfl rfl hR M22 A23.mod hr hx he hn
   refine ye8 (fv'.toNat - (i + 1)) (by omega) ⟨i + 1, l ++ [⟨off, ⟨false, ByteArray.empty, false, ByteArray.empty⟩⟩], ek, by simp [hli], ?_, fun he => (hc20 he).2.2.2, rfl, rfl, rfl, rfl, rfl, rfl, rfl, rfl, rfl, rfl, H23, fun x hx => ?_, by omega⟩
   ·have := hia g
    obtain ⟨n, hn1, hn2⟩ := H.pos
    omega
   ·obtain ⟨_, _, h16, h18, _⟩ := hsp20 x hx
    have : (ycE ((n16 : Nat) : Int) e16).isSome = true := by unfold ycE; rw [if_pos h16]; rfl
    rw [this, h18] at gm; cases gm
  ·intro w21 A21 hr21 hx21 he21 hn21 hf21
   have K21 : Mod [b1] w14 w21 := (K20.trans A21.mod).less fun k hk hl => by simp at hk ⊢; omega
   have s21 := A21.mod.size
   refine yn2 (f := ⟨fa, fn, fc⟩) (y := ⟨off, r⟩) (H.fr.keep K21 fun ad ha hk => by have := H.fr.base ad ha; simp at hk; omega) (show l.length ≤ _ by omega) (by have := H.m.size; omega) (fun b hb' hk => by have := hrow b hk; simp at hb'; omega) fun a' c' w22 hR M22 => ?_
   intro w23 A23 hr hx he hn _
   have H21 : RPS w10 w21 b0 b1 b2 b3 b4 b5 s2 a20 e20 ⟨ev', z1, z2, z3, l, []⟩ ⟨fa, fn, fc⟩ ybL ev' fv' := ⟨hr21, hx21, he21, hn21, H.fr.keep K21 fun ad ha hk => by have := H.fr.base ad ha; simp at hk; omega, Row.nil .., H.m.via K21 (by simp), H.lt, H.nd, H20.pos⟩
   have H23 := H21.app rfl rfl hR M22 A23.mod hr hx he hn
   refine ye8 (fv'.toNat - (i + 1)) (by omega) ⟨i + 1, l ++ [⟨off, r⟩], ek, by simp [hli], ?_, fun he => (hc20 he).2.2.2, rfl, rfl, rfl, rfl, rfl, rfl, rfl, rfl, rfl, rfl, H23, fun x hx => ⟨(hsp20 x hx).1, (hsp20 x hx).2.1, (hsp20 x hx).2.2.2.2⟩, by omega⟩
   have := hia g
   obtain ⟨n, hn1, hn2⟩ := H.pos
   omega
theorem yHU {n : Int} (h : num n = true) : IntKind.wrap .u64 n = ((n.toNat : Nat) : Int) := by
 have := yeT h
 obtain ⟨k, rfl⟩ := Int.eq_ofNat_of_zero_le this.1
 rw [ygF (by omega), Int.toNat_natCast]
theorem ypH {l : List Int} {k : Nat} {n : Int} (h : l[k]? = some n) : (l.take (k + 1)).flatMap ylP = (l.take k).flatMap ylP ++ yaL n.toNat := ybC h
set_option maxHeartbeats 4000000 in
theorem yrP {w : World} {m : PMail} {s f p : Sl} (h : MailAt w m s f p) (hlc : m.calls.length ≤ 100000) :
  Calls pP 10 #[m.v s f p] w fun e w' => e = .returned (.tuple #[.string (if ybY m = 0 then yeJ m else bs []), .int .i64 (ybY m)]) ∧ Mod [] w w' := by
 refine yaQ (yEn ?_)
 intro b1 f1 w2 A2
 have l1 := A2.lt b1 (by simp)
 refine (yjS ((h.keep0 A2.mod).w hlc)).mono ?_
 rintro _ w3 ⟨rfl, M3⟩
 have s3 := M3.size
 have N3 := A2.mod.go0 M3 (by simp)
 refine ⟨_, rfl, yaI.of0 M3, yaB (fun g => ?_) fun g => ?_⟩
 ·have g : ycD m ≠ 0 := by simpa using g
  have e : ybY m = ycD m := by rw [ybY, if_pos g]
  rw [e, if_neg g]; exact ⟨rfl, N3⟩
 have g : ycD m = 0 := by simpa using g
 obtain ⟨_, hn, ht, hr⟩ := ycL g
 have hE : ybY m = if (ybF m).length > 1048576 then 2 else 0 := by rw [ybY, if_neg (by simpa using g)]
 intro b5 f5 w6 A6 h6
 have l5 := A6.lt b5 (by simp)
 refine (yo6 b1 w6).mono ?_
 rintro _ w7 ⟨rfl, M7⟩
 refine ⟨_, _, _, _, _, _, _, _, _, _, rfl, yaI.of0 M7, _, _, _, _, _, _, _, _, _, _, _, _, _, _, _, _, _, _, _, _, _, _, _, M7.keep0 h6, ?_⟩
 intro w8 A8 h8 hb8
 have s6 := A6.mod.size
 have s7 := M7.size
 have s8 := A8.mod.size
 have N8 : Mod [] w w8 := ((N3.go0 A6.mod (by simp)).go0 M7 (by simp)).go0 A8.mod (by simp)
 have hB0 : Sb w3.heap.size b5 [] w8 := Sb.fresh f5 hb8
 have hsb : ybS w8 1 (fun x : Int => [.int .i64 x]) (some ⟨b1, 0, none⟩) 10 (yaS m) := ⟨rfl, fun i x hx => ⟨_, rfl, fun j v hv => by
  have hj : j = 0 := by have := (List.getElem?_eq_some_iff.1 hv).1; simp at this; omega
  subst hj
  simp at hv; subst hv
  have := yd0 (s := s) (f := f) (p := p) h8 hx
  simpa [ya1, add_zero] using this⟩⟩
 refine yu3 (fun mm x19 k0 k1 k2 k3 k4 k5 k6 k7 k8 k9 sa sn sc r0 r1 r2 r3 fa fn fc pa pn pc p1 a1 n1 c1 w' => ∃ k : Nat, x19 = k ∧ k ≤ 10 ∧ k0 = m.kind ∧ k1 = m.fr ∧ k2 = m.to ∧ k3 = m.view ∧ k4 = m.normal ∧ k5 = m.last ∧ k6 = m.commit ∧ k7 = m.nonce ∧ k8 = m.base ∧ k9 = m.n ∧ sa = s.a ∧ sn = s.n ∧ sc = s.c ∧ r0 = m.r.e ∧ r1 = m.r.off ∧ r2 = m.r.n ∧ r3 = m.r.gen ∧ fa = f.a ∧ fn = f.n ∧ fc = f.c ∧ pa = p.a ∧ pn = p.n ∧ pc = p.c ∧ Sb w3.heap.size b5 (((yaS m).take k).flatMap ylP) w' ∧ Wr w3.heap.size b5 w8 w' ∧ mm = 10 - k) 10
  ⟨0, rfl, by omega, rfl, rfl, rfl, rfl, rfl, rfl, rfl, rfl, rfl, rfl, rfl, rfl, rfl, rfl, rfl, rfl, rfl, rfl, rfl, rfl, rfl, rfl, rfl, by simpa using hB0, Wr.of0 (Mod.refl _) (by omega), rfl⟩ ?_
 rintro mm x19 k0 k1 k2 k3 k4 k5 k6 k7 k8 k9 sa sn sc r0 r1 r2 r3 fa fn fc pa pn pc p1 a1 n1 c1 w9 ⟨k, rfl, hk, rfl, rfl, rfl, rfl, rfl, rfl, rfl, rfl, rfl, rfl, rfl, rfl, rfl, rfl, rfl, rfl, rfl, rfl, rfl, rfl, rfl, rfl, rfl, hB9, W9, rfl⟩ h9 hb9
 have lk := yeY hn k
 have lk1 := yeY hn (k + 1)
 have s9 := W9.bel.size
 have N9 : Mod [] w w9 := W9.mod N8 (by have := N3.size; omega)
 have sz3 : w3.heap.size ≤ w9.heap.size := by omega
 have ne : b1 ≠ b5 := by omega
 have M0 : ∀ {w'}, Wr w3.heap.size b5 w8 w' → Mod [] w w' := fun W => W.mod N8 (by have := N3.size; omega)
 refine yaC (fun hlt => ?_) fun hge => ?_
 ·have hk' : k < 10 := by omega
  obtain ⟨x, hx⟩ : ∃ x, (yaS m)[k]? = some x := ⟨_, List.getElem?_eq_getElem (by simpa [yaS] using hk')⟩
  have hc := yd0 (s := s) (f := f) (p := p) h9 hx
  have hx1 := ygK hn hx
  refine ⟨_, yDN b1 hk', yh9 (yaD hc ?_)⟩
  rw [yHU hx1]
  refine (yi0 x.toNat (yeX hx1).1 w9).mono ?_
  rintro _ w10 ⟨rfl, M10⟩
  obtain ⟨q1, q2, q3, q4, hq⟩ := (hB9.keep0 M10).cells
  refine ⟨_, rfl, _, _, _, _, _, _, _, _, _, _, _, _, _, _, _, _, _, _, _, _, _, _, _, M10.keep0 h9, _, _, _, _, hq, ?_⟩
  have ls := yeX hx1
  have lv := (yaN x.toNat ls.1).2
  have s10 := M10.size
  refine (yyZ (hB9.keep0 M10) (l2 := yaL x.toNat) (by omega) (by omega)).mono ?_
  rintro _ w11 ⟨rfl, hB11, W11⟩
  obtain ⟨t1, t2, t3, t4, ht1⟩ := hB11.cells
  have W9' : Wr w3.heap.size b5 w8 w11 := (W9.trans (Wr.of0 M10 (by omega))).trans W11
  refine ⟨_, _, rfl, _, _, _, _, _, _, _, _, _, _, _, _, _, _, _, _, _, _, _, _, _, _, _, W11.keep (M10.keep0 h9) ne (by decide), _, _, _, _, ht1, ?_⟩
  refine yu2 (10 - (k + 1)) (by omega) ⟨k + 1, by rw [yaG (by omega) (by omega)]; omega, by omega, rfl, rfl, rfl, rfl, rfl, rfl, rfl, rfl, rfl, rfl, rfl, rfl, rfl, rfl, rfl, rfl, rfl, rfl, rfl, rfl, rfl, rfl, rfl, ?_, W9', rfl⟩
  rw [ypH hx]; exact hB11
 ·have hk' : k = 10 := by omega
  subst hk'
  have e10 : (yaS m).take 10 = yaS m := List.take_of_length_le (by simp [yaS])
  rw [e10] at hB9 lk
  obtain ⟨ll, hll, hop, hcs⟩ := h.calls
  have hl : ll.length ≤ 1000000 := by have := congrArg List.length hcs; simp at *; omega
  refine (yrI (s := s) (ll := ll) ⟨hll.keep0 N9, fun q hq => (hop q hq).keep0 N9⟩ hl).mono ?_
  rw [hcs, ht, if_pos rfl]
  rintro _ w10 ⟨rfl, M10⟩
  obtain ⟨q1, q2, q3, q4, hq⟩ := (hB9.keep0 M10).cells
  refine ⟨_, _, rfl, _, _, _, _, _, _, _, _, _, _, _, _, _, _, _, _, _, _, _, _, _, _, _, M10.keep0 h9, _, _, _, _, hq, ?_⟩
  have N10 := N9.go0 M10 (by simp)
  refine (ysS (h.rep.keep0 N10)).mono ?_
  rw [hr, if_pos rfl]
  rintro _ w11 ⟨rfl, M11⟩
  obtain ⟨t1, t2, t3, t4, ht1⟩ := ((hB9.keep0 M10).keep0 M11).cells
  refine ⟨_, _, rfl, _, _, _, _, _, _, _, _, _, _, _, _, _, _, _, _, _, _, _, _, _, _, _, M11.keep0 (M10.keep0 h9), _, _, _, _, ht1, ?_⟩
  have hne : (yaS m).flatMap ylP ≠ [] := fun e => by
   have := (yaN m.kind.toNat (by have := yeT (ygK hn (k := 0) (n := m.kind) rfl); omega)).1
   have e2 := congrArg List.length e
   simp only [yaS, List.flatMap_cons, List.length_append, List.length_nil] at e2
   unfold ylP at e2
   omega
  have s10 := M10.size
  have s11 := M11.size
  refine (yDC ((hB9.keep0 M10).keep0 M11) hne).mono ?_
  rintro _ w12 ⟨rfl, hB12, W12⟩
  have s12 := W12.bel.size
  obtain ⟨u1, u2, u3, u4, hu1⟩ := hB12.cells
  have h12 := W12.keep (M11.keep0 (M10.keep0 h9)) ne (by decide)
  refine ⟨_, rfl, _, _, _, _, _, _, _, _, _, _, _, _, _, _, _, _, _, _, _, _, _, _, _, h12, _, _, _, _, hu1, ?_⟩
  have lt := yjT ht
  have lr : (ydF m.r).length ≤ 60000 := (RepGood.of hr).len3 m.r.parts.length
  have W8 : Wr w3.heap.size b5 w8 w12 := ((W9.trans (Wr.of0 M10 (by omega))).trans (Wr.of0 M11 (by omega))).trans W12
  refine (yb6 (bs (ybJ m.calls)) (by rw [yaE]; omega) w12).mono ?_
  rintro _ w13 ⟨rfl, M13⟩
  obtain ⟨v1, v2, v3, v4, hv1⟩ := (hB12.keep0 M13).cells
  have p1 := (ya0 (bs (ybJ m.calls)) (by rw [yaE]; omega)).2
  have p2 := (ya0 (bs (ydF m.r)) (by rw [yaE]; omega)).2
  rw [yaE] at p1 p2
  refine ⟨_, rfl, _, _, _, _, _, _, _, _, _, _, _, _, _, _, _, _, _, _, _, _, _, _, _, M13.keep0 h12, _, _, _, _, hv1, by rw [yaE, yaE]; omega, ?_⟩
  rw [ybH]
  refine (yb6 (bs (ydF m.r)) (by rw [yaE]; omega) w13).mono ?_
  rintro _ w14 ⟨rfl, M14⟩
  obtain ⟨y1, y2, y3, y4, hy1⟩ := ((hB12.keep0 M13).keep0 M14).cells
  refine ⟨_, rfl, _, _, _, _, _, _, _, _, _, _, _, _, _, _, _, _, _, _, _, _, _, _, _, M14.keep0 (M13.keep0 h12), _, _, _, _, hy1, by rw [yaE, yaE, List.length_append]; omega, ?_⟩
  rw [ybH]
  have eB : (yaS m).flatMap ylP ++ ybP (bs (ybJ m.calls)) ++ ybP (bs (ydF m.r)) = ybF m := rfl
  rw [eB]
  have lB := ypG g
  have N14 : Mod [] w w14 := ((M0 W8).go0 M13 (by simp)).go0 M14 (by simp)
  refine yaC (fun hbig => ?_) fun hbig => ?_
  ·rw [yaE] at hbig
   have e : ybY m = 2 := by rw [hE, if_pos (by omega)]
   rw [e]; exact ⟨rfl, N14⟩
  ·rw [yaE] at hbig
   have e : ybY m = 0 := by rw [hE, if_neg (by omega)]
   refine (ysC (bs (ybF m)) (by rw [yaE]; omega) w14).mono ?_
   rintro _ w15 ⟨rfl, M15⟩
   obtain ⟨z1, z2, z3, z4, hz1⟩ := (((hB12.keep0 M13).keep0 M14).keep0 M15).cells
   refine ⟨_, rfl, _, _, _, _, _, _, _, _, _, _, _, _, _, _, _, _, _, _, _, _, _, _, _, M15.keep0 (M14.keep0 (M13.keep0 h12)), _, _, _, _, hz1, ?_⟩
   rw [e, if_pos rfl]; exact ⟨rfl, N14.go0 M15 (by simp)⟩
theorem yH0.out {a : Nat} {o : Option (Nat × Nat)} {v : Value} (h : yH0 a o v) : ∃ (n : Nat) (b e : Int), v = .tuple #[.int .u64 (n : Nat), .int .i64 b, .int .i64 e] ∧ ((e = 0 ∧ ∃ m : Nat, b = ((a + m : Nat) : Int) ∧ o = some (n, m)) ∨ (e ≠ 0 ∧ o = none)) := by
 cases o with
 | none => obtain ⟨e, he, rfl⟩ := h; exact ⟨0, _, _, rfl, .inr ⟨he, rfl⟩⟩
 | some p => obtain ⟨x, b⟩ := p; exact ⟨_, _, _, h, .inl ⟨rfl, b, rfl, rfl⟩⟩
theorem yBg.out {a : Nat} {o : Option (ByteArray × Nat)} {v : Value} (h : yBg a o v) : ∃ (n : ByteArray) (b e : Int), v = .tuple #[.string n, .int .i64 b, .int .i64 e] ∧ ((e = 0 ∧ ∃ m : Nat, b = ((a + m : Nat) : Int) ∧ o = some (n, m)) ∨ (e ≠ 0 ∧ o = none ∧ n = ⟨#[]⟩ ∧ b = 0)) := by
 cases o with
 | none => obtain ⟨e, he, rfl⟩ := h; exact ⟨_, _, _, rfl, .inr ⟨he, rfl, rfl, rfl⟩⟩
 | some p => obtain ⟨x, b⟩ := p; exact ⟨_, _, _, h, .inl ⟨rfl, b, rfl, rfl⟩⟩
def yeP (s : ByteArray) (x : PMail) : Prop := ybY x = 0 ∧ s.data.toList = ybF x
theorem yeP.num {s : ByteArray} {x : PMail} (h : yeP s x) {k : Nat} {n : Int} (hn : (yaS x)[k]? = some n) : vg 0 (s.data.toList.drop (yhX x k)) = some (n.toNat, yhX x (k + 1) - yhX x k) ∧ yhX x k ≤ yhX x (k + 1) ∧ num n = true := by
 obtain ⟨h1, _⟩ := ybZ h.1
 obtain ⟨_, h2, _, _⟩ := ycL h1
 have h3 := yBF h2 hn
 rw [← h.2] at h3
 unfold yeN at h3
 obtain ⟨p, hp, h4⟩ := Option.map_eq_some_iff.1 h3
 simp only [Prod.mk.injEq] at h4
 refine ⟨?_, by omega, ygK h2 hn⟩
 rw [hp]
 congr 1
 exact Prod.ext h4.1 (by omega)
theorem yeP.txt {s : ByteArray} {x : PMail} (h : yeP s x) : ∃ m1 m2, tg 1048576 (s.data.toList.drop (yhX x 10)) = some (bs (ybJ x.calls), m1) ∧ tg 1048576 (s.data.toList.drop (yhX x 10 + m1)) = some (bs (ydF x.r), m2) := by
 obtain ⟨h1, h2⟩ := yBG h.1
 rw [← h.2] at h1 h2
 unfold ylD at h1 h2
 obtain ⟨p, hp, h3⟩ := Option.map_eq_some_iff.1 h1
 obtain ⟨q, hq, h4⟩ := Option.map_eq_some_iff.1 h2
 simp only [Prod.mk.injEq] at h3 h4
 refine ⟨p.2, q.2, ?_, ?_⟩
 ·rw [hp]; congr 1; exact Prod.ext h3.1 rfl
 ·rw [h3.2, hq]; congr 1; exact Prod.ext h4.1 rfl
theorem yvM {s : ByteArray} {x y : PMail} (hx : yeP s x) (hy : yeP s y) : x = y := by
 have hd : ∀ k, k ≤ 10 → yhX x k = yhX y k ∧ (yaS x).take k = (yaS y).take k := by
  intro k
  induction k with
  | zero => intro _; exact ⟨rfl, rfl⟩
  | succ k ih =>
   intro hk
   obtain ⟨i1, i2⟩ := ih (by omega)
   obtain ⟨a, ha⟩ : ∃ a, (yaS x)[k]? = some a := ⟨_, List.getElem?_eq_getElem (by simp [yaS]; omega)⟩
   obtain ⟨b, hb⟩ : ∃ b, (yaS y)[k]? = some b := ⟨_, List.getElem?_eq_getElem (by simp [yaS]; omega)⟩
   obtain ⟨h1, h2, h3⟩ := hx.num ha
   obtain ⟨h4, h5, h6⟩ := hy.num hb
   rw [i1, h4] at h1
   simp only [Option.some.injEq, Prod.mk.injEq] at h1
   have h3 := yeT h3
   have h6 := yeT h6
   have e : a = b := by omega
   exact ⟨by omega, by rw [List.take_add_one, List.take_add_one, ha, hb, i2, e]⟩
 obtain ⟨h1, h2⟩ := hd 10 (Nat.le_refl _)
 rw [List.take_of_length_le (by simp [yaS]), List.take_of_length_le (by simp [yaS])] at h2
 obtain ⟨m1, m2, h3, h4⟩ := hx.txt
 obtain ⟨n1, n2, h5, h6⟩ := hy.txt
 rw [h1, h5] at h3
 simp only [Option.some.injEq, Prod.mk.injEq] at h3
 rw [h1, ← h3.2, h6] at h4
 simp only [Option.some.injEq, Prod.mk.injEq] at h4
 obtain ⟨_, _, tx, rx⟩ := ycL (ybZ hx.1).1
 obtain ⟨_, _, ty, ry⟩ := ycL (ybZ hy.1).1
 have e1 : y.calls = x.calls := by
  have p1 := yd1 ty
  rw [h3.1, yd1 tx] at p1
  exact (Option.some.inj p1).symm
 have e2 := ytK ry rx (yi5 h4.1)
 obtain ⟨a1, a2, a3, a4, a5, a6, a7, a8, a9, a10, a11, a12⟩ := x
 obtain ⟨b1, b2, b3, b4, b5, b6, b7, b8, b9, b10, b11, b12⟩ := y
 simp [yaS] at h2
 simp only [PMail.mk.injEq]
 refine ⟨?_, ?_, ?_, ?_, ?_, ?_, ?_, ?_, ?_, ?_, e1.symm, e2.symm⟩ <;> omega
set_option maxHeartbeats 8000000 in
theorem yBJ {s : ByteArray} (hs : s.size ≤ 900000) (w : World) :
  Calls pP 42 #[.string s] w fun e w' => ∃ v, e = .returned v ∧ ∃ (m : PMail) (s1 f1 p1 : Sl), v = m.v s1 f1 p1 ∧ MailOwn w' w.heap.size m s1 f1 p1 ∧ m.calls.length ≤ 100000 ∧ (∀ x, yeP s x → m = x) ∧ Mod [] w w' := by
 have hss : s.data.toList.length = s.size := by simp
 refine yEu ?_
 intro b1 f1 b2 f2 w3 A3 h3
 have l1 := A3.lt b1 (by simp)
 have l2 := A3.lt b2 (by simp)
 have nd : b1 ≠ b2 := by have := A3.nd; simp at this; exact fun h => this h.symm
 have s3 := A3.mod.size
 refine (yo6 b2 w3).mono ?_
 rintro _ w4 ⟨rfl, M4⟩
 have s4 := M4.size
 have h4 := M4.keep0 h3
 refine ⟨_, _, _, _, _, _, _, _, _, _, rfl, yaI.of0 M4, _, _, _, _, _, _, _, _, _, _, _, _, _, _, _, _, _, _, _, _, _, _, _, h4, ?_⟩
 have N4 : Mod [] w w4 := A3.mod.go0 M4 (by simp)
 have z0 : ∀ {w' : World}, Mod [] w w' → (∀ x, ¬ yeP s x) → ∃ (m : PMail) (s1 f1 p1 : Sl), Value.agg #[.int .i64 0, .int .i64 0, .int .i64 0, .int .i64 0, .int .i64 0, .int .i64 0, .int .i64 0, .int .i64 0, .int .i64 0, .int .i64 0, .slice none 0 0, .int .i64 0, .int .i64 0, .int .i64 0, .int .i64 0, .slice none 0 0, .slice none 0 0] = m.v s1 f1 p1 ∧ MailOwn w' w.heap.size m s1 f1 p1 ∧ m.calls.length ≤ 100000 ∧ (∀ x, yeP s x → m = x) ∧ Mod [] w w' := fun {w'} N hn =>
  ⟨ymK, ybL, ybL, ybL, rfl, ⟨⟨[], Row.nil .., by simp, rfl⟩, ⟨Row.nil .., Row.nil .., by simp [ymK, yeG], by simp [ymK, yeG]⟩⟩, by simp [ymK], fun x hx => absurd hx (hn x), N⟩
 refine yvL (fun mm x4 x16 k0 k1 k2 k3 k4 k5 k6 k7 k8 k9 sa sn sc r0 r1 r2 r3 fa fn fc pa pn pc w' => ∃ a k : Nat, x4 = a ∧ x16 = k ∧ k ≤ 10 ∧ a ≤ s.size ∧ sa = none ∧ sn = 0 ∧ sc = 0 ∧ r0 = 0 ∧ r1 = 0 ∧ r2 = 0 ∧ r3 = 0 ∧ fa = none ∧ fn = 0 ∧ fc = 0 ∧ pa = none ∧ pn = 0 ∧ pc = 0 ∧ Mod [b2] w4 w' ∧ (∀ x, yeP s x → a = yhX x k ∧ ([k0, k1, k2, k3, k4, k5, k6, k7, k8, k9] : List Int).take k = (yaS x).take k) ∧ mm = 10 - k) 10
  ⟨0, 0, rfl, rfl, by omega, by omega, rfl, rfl, rfl, rfl, rfl, rfl, rfl, rfl, rfl, rfl, rfl, rfl, rfl, (Mod.refl _).less (by simp), fun x _ => ⟨by simp [yhX], rfl⟩, rfl⟩ ?_
 rintro mm x4 x16 k0 k1 k2 k3 k4 k5 k6 k7 k8 k9 sa sn sc r0 r1 r2 r3 fa fn fc pa pn pc w5 ⟨a, k, rfl, rfl, hk, ha, rfl, rfl, rfl, rfl, rfl, rfl, rfl, rfl, rfl, rfl, rfl, rfl, rfl, M5, hsp, rfl⟩ h5
 have s5 := M5.size
 have N5 : Mod [] w w5 := N4.go0 M5 (by simpa using f2)
 refine yaC (fun hlt => ?_) fun hge => ?_
 ·have hk' : k < 10 := by omega
  refine ⟨_, yDN b2 hk', ?_⟩
  refine (yfT s a (by omega) ha w5).mono ?_
  rintro _ w6 ⟨v, rfl, hv, rfl⟩
  obtain ⟨n, b, e, rfl, hg⟩ := hv.out
  refine ⟨_, _, _, rfl, yaI.of0 (Mod.refl _), _, _, _, _, _, _, _, _, _, _, _, _, _, _, _, _, _, _, _, _, _, _, _, h5, ?_⟩
  have hnum : ∀ x, yeP s x → ∃ y : Int, (yaS x)[k]? = some y ∧ n = y.toNat ∧ e = 0 ∧ b = ((yhX x (k + 1) : Nat) : Int) ∧ num y = true := fun x hx => by
   obtain ⟨h1, h2⟩ := hsp x hx
   obtain ⟨y, hy⟩ : ∃ y, (yaS x)[k]? = some y := ⟨_, List.getElem?_eq_getElem (by simpa [yaS] using hk')⟩
   obtain ⟨h6, h7, h8⟩ := hx.num hy
   rw [← h1] at h6
   rcases hg with ⟨g1, m, g2, g3⟩ | ⟨_, g3⟩
   ·rw [h6] at g3
    simp only [Option.some.injEq, Prod.mk.injEq] at g3
    exact ⟨y, hy, g3.1.symm, g1, by omega, h8⟩
   ·rw [h6] at g3; cases g3
  refine yaB (fun g => fun w7 A7 _ => z0 (N5.go0 A7.mod (by simpa using f1)) fun x hx => ?_) fun g => ?_
  ·obtain ⟨y, _, _, he, _⟩ := hnum x hx
   simp [he] at g
  have g : e = 0 := by simpa using g
  refine yaC (fun gb => fun w7 A7 _ => z0 (N5.go0 A7.mod (by simpa using f1)) fun x hx => ?_) fun gb => ?_
  ·obtain ⟨y, _, h6, _, _, h7⟩ := hnum x hx
   have := yeT h7
   omega
  rcases hg with ⟨_, m, hb, hvg⟩ | ⟨g3, _⟩
  rotate_left
  ·exact absurd g g3
  have hml := yoV _ hvg
  rw [List.length_drop, hss] at hml
  obtain ⟨v, hv⟩ : ∃ v, v = IntKind.wrap .i64 (n : Int) := ⟨_, rfl⟩
  have hvn : v = n := by rw [hv, yaG (by omega) (by omega)]
  rw [← hv]
  refine yh9 (yc7 h5 rfl (by simp; omega) fun w7 h7 M7 => ?_)
  have h7' : w7.heap[b2]? = some (.cells #[.int .i64 (if k = 0 then v else k0), .int .i64 (if k = 1 then v else k1), .int .i64 (if k = 2 then v else k2), .int .i64 (if k = 3 then v else k3), .int .i64 (if k = 4 then v else k4), .int .i64 (if k = 5 then v else k5), .int .i64 (if k = 6 then v else k6), .int .i64 (if k = 7 then v else k7), .int .i64 (if k = 8 then v else k8), .int .i64 (if k = 9 then v else k9), .slice none 0 0, .int .i64 0, .int .i64 0, .int .i64 0, .int .i64 0, .slice none 0 0, .slice none 0 0] 29) := by
   rw [h7]
   rcases (by omega : k = 0 ∨ k = 1 ∨ k = 2 ∨ k = 3 ∨ k = 4 ∨ k = 5 ∨ k = 6 ∨ k = 7 ∨ k = 8 ∨ k = 9) with rfl | rfl | rfl | rfl | rfl | rfl | rfl | rfl | rfl | rfl <;> rfl
  refine ⟨yaI.ofE M7 fun k hk hl he => by simp at hk he ⊢; omega, _, _, _, _, _, _, _, _, _, _, _, _, _, _, _, _, _, _, _, _, _, _, _, h7', ?_⟩
  rw [hb]
  refine yvK (10 - (k + 1)) (by omega) ⟨a + m, k + 1, rfl, by rw [yaG (by omega) (by omega)]; omega, by omega, by omega, rfl, rfl, rfl, rfl, rfl, rfl, rfl, rfl, rfl, rfl, rfl, rfl, rfl, M5.via M7 (by simp), fun x hx => ?_, rfl⟩
  obtain ⟨y, hy, h6, _, h8, h9⟩ := hnum x hx
  have := yeT h9
  refine ⟨by omega, ?_⟩
  rw [List.take_add_one (l := yaS x), hy, ← (hsp x hx).2, show y = v by omega]
  rcases (by omega : k = 0 ∨ k = 1 ∨ k = 2 ∨ k = 3 ∨ k = 4 ∨ k = 5 ∨ k = 6 ∨ k = 7 ∨ k = 8 ∨ k = 9) with rfl | rfl | rfl | rfl | rfl | rfl | rfl | rfl | rfl | rfl <;> rfl
 ·have hk' : k = 10 := by omega
  subst hk'
  refine (yc3 s a 1048576 (by omega) ha (by omega) w5).mono ?_
  rintro _ w6 ⟨v, rfl, hv, rfl⟩
  obtain ⟨t, b, e, rfl, hg⟩ := hv.out
  refine ⟨_, _, _, rfl, yaI.of0 (Mod.refl _), _, _, _, _, _, _, _, _, _, _, _, _, _, _, _, _, _, _, _, _, _, _, _, h5, ?_⟩
  have ht1 : ∀ x, yeP s x → e = 0 ∧ t = bs (ybJ x.calls) ∧ ∃ m2, tg 1048576 (s.data.toList.drop b.toNat) = some (bs (ydF x.r), m2) := fun x hx => by
   obtain ⟨m1, m2, h1, h2⟩ := hx.txt
   rw [← (hsp x hx).1] at h1 h2
   rcases hg with ⟨g1, m, g2, g3⟩ | ⟨_, g3, _⟩
   ·rw [h1] at g3
    simp only [Option.some.injEq, Prod.mk.injEq] at g3
    refine ⟨g1, g3.1.symm, m2, ?_⟩
    rw [g2, ← g3.2, Int.toNat_natCast]; exact h2
   ·rw [h1] at g3; cases g3
  refine yaB (fun g => fun w7 A7 _ => z0 (N5.go0 A7.mod (by simpa using f1)) fun x hx => by simp [(ht1 x hx).1] at g) fun g => ?_
  have g : e = 0 := by simpa using g
  rcases hg with ⟨_, m, hb, htg⟩ | ⟨g3, _⟩
  rotate_left
  ·exact absurd g g3
  have hml := ykS htg
  rw [List.length_drop, hss] at hml
  subst hb
  refine (yc3 s (a + m) 1048576 (by omega) (by omega) (by omega) w6).mono ?_
  rintro _ w7 ⟨v, rfl, hv, rfl⟩
  obtain ⟨t2, b', e2, rfl, hg2⟩ := hv.out
  refine ⟨_, _, _, rfl, yaI.of0 (Mod.refl _), _, _, _, _, _, _, _, _, _, _, _, _, _, _, _, _, _, _, _, _, _, _, _, h5, ?_⟩
  have ht2 : ∀ x, yeP s x → e2 = 0 ∧ t2 = bs (ydF x.r) := fun x hx => by
   obtain ⟨_, _, m2, h2⟩ := ht1 x hx
   rw [Int.toNat_natCast] at h2
   rcases hg2 with ⟨g1, m', g2, g3⟩ | ⟨_, g3, _⟩
   ·rw [h2] at g3
    simp only [Option.some.injEq, Prod.mk.injEq] at g3
    exact ⟨g1, g3.1.symm⟩
   ·rw [h2] at g3; cases g3
  refine yaB (fun g => fun w8 A8 _ => z0 (N5.go0 A8.mod (by simpa using f1)) fun x hx => by simp [(ht2 x hx).1] at g) fun g2 => ?_
  have g2 : e2 = 0 := by simpa using g2
  rcases hg2 with ⟨_, m', _, htg2⟩ | ⟨g3, _⟩
  rotate_left
  ·exact absurd g2 g3
  have hml2 := ykS htg2
  rw [List.length_drop, hss] at hml2
  refine (yzP (s := t) (by omega) w7).mono ?_
  rintro _ w8 ⟨v, rfl, hv, M8⟩
  have s8 := M8.size
  have hpc : ∃ (xs : List PCall) (sl : Sl) (e8 : Int), v = .tuple #[.slice sl.a sl.n sl.c, .int .i64 e8] ∧ ya7 w8 w7.heap.size sl xs ∧ xs.length ≤ 100000 ∧ ∀ x, yeP s x → xs = x.calls := by
   cases hp : ydM t with
   | none =>
    rw [hp] at hv
    refine ⟨[], ybL, 162, hv, ⟨[], Row.nil .., by simp, rfl⟩, by simp, fun x hx => ?_⟩
    obtain ⟨h1, _⟩ := ybZ hx.1
    obtain ⟨_, _, h2, _⟩ := ycL h1
    rw [(ht1 x hx).2.1, yd1 h2] at hp; cases hp
   | some xs =>
    rw [hp] at hv
    obtain ⟨sl, rfl, hc⟩ := hv
    have h6 := (yuG.1 hp).1
    refine ⟨xs, sl, 0, rfl, hc, by have := (yjN h6).1; omega, fun x hx => ?_⟩
    obtain ⟨h1, _⟩ := ybZ hx.1
    obtain ⟨_, _, h2, _⟩ := ycL h1
    rw [(ht1 x hx).2.1, yd1 h2] at hp
    exact (Option.some.inj hp).symm
  obtain ⟨xs, sl, e8, rfl, hC, hxl, hxs⟩ := hpc
  have h8 := M8.keep0 h5
  refine ⟨_, _, _, _, rfl, yaI.of0 M8, _, _, _, _, _, _, _, _, _, _, _, _, _, _, _, _, _, _, _, _, _, _, _, h8, ?_⟩
  intro w9 A9 h9
  have s9 := A9.mod.size
  refine (yrO (s := t2) (by omega) w9).mono ?_
  rintro _ w10 ⟨v, rfl, hv, M10⟩
  have s10 := M10.size
  have hpr : ∃ (r : PRep) (fl pl : Sl) (e10 : Int), v = .tuple #[r.v fl pl, .int .i64 e10] ∧ RepOwn w10 w9.heap.size r fl pl ∧ ∀ x, yeP s x → r = x.r := by
   rcases hv with ⟨r, fl, pl, h1, rfl, h2⟩ | ⟨h1, rfl⟩
   ·refine ⟨r, fl, pl, 0, rfl, h2, fun x hx => ?_⟩
    obtain ⟨h3, _⟩ := ybZ hx.1
    obtain ⟨_, _, _, h4⟩ := ycL h3
    have h5 := h1.eq
    rw [(ht2 x hx).2] at h5
    exact (ytK h4 h1.1 (yi5 h5)).symm
   ·refine ⟨yeG, ybL, ybL, 40, rfl, ⟨Row.nil .., Row.nil .., by simp [yeG], by simp [yeG]⟩, fun x hx => ?_⟩
    obtain ⟨h3, _⟩ := ybZ hx.1
    obtain ⟨_, _, _, h4⟩ := ycL h3
    exact absurd (ye7.of h4 (ht2 x hx).2) (h1 _)
  obtain ⟨r, fl, pl, e10, rfl, hR, hrx⟩ := hpr
  have h10 := M10.keep0 h9
  refine ⟨_, _, _, _, _, _, _, _, _, _, _, rfl, yaI.of0 M10, _, _, _, _, _, _, _, _, _, _, _, _, _, _, _, _, _, _, _, _, _, _, _, h10, ?_⟩
  intro w11 A11 h11
  have lb : b1 < w7.heap.size ∧ b2 < w7.heap.size := by omega
  refine ⟨⟨k0, k1, k2, k3, k4, k5, k6, k7, k8, k9, xs, r⟩, sl, fl, pl, rfl, ⟨?_, ?_⟩, hxl, fun x hx => ?_, ?_⟩
  ·exact (((hC.keepB A9.mod (by simp; omega)).keep0 M10).keepB A11.mod (by simp; omega)).rebase (by omega)
  ·exact (hR.keepB A11.mod (by simp; omega)).rebase (by omega)
  ·have h6 := (hsp x hx).2
   have h7 := hxs x hx
   have h8 := hrx x hx
   obtain ⟨x1, x2, x3, x4, x5, x6, x7, x8, x9, x10, xc, xr⟩ := x
   simp [yaS] at h6
   simp only [PMail.mk.injEq]
   refine ⟨?_, ?_, ?_, ?_, ?_, ?_, ?_, ?_, ?_, ?_, h7, h8⟩ <;> omega
  ·exact (((N5.go0 M8 (by simp)).go0 A9.mod (by simpa using f2)).go0 M10 (by simp)).go0 A11.mod (by simp; omega)
def yHV (w0 w : World) (base : Nat) (s : ByteArray) (v : Value) : Prop :=
 (∃ (m : PMail) (s1 f1 p1 : Sl), ybY m = 0 ∧ s = yeJ m ∧ v = .tuple #[m.v s1 f1 p1, .int .i64 0] ∧ MailOwn w base m s1 f1 p1 ∧ m.calls.length ≤ 100000) ∨ ((∀ m, ybY m = 0 → s ≠ yeJ m) ∧ v = .tuple #[ymK.v ybL ybL ybL, .int .i64 180])
theorem yAz {s : ByteArray} (hs : s.size ≤ 900000) (w : World) :
  Calls pP 17 #[.string s] w fun e w' => ∃ v, e = .returned v ∧ yHV w w' w.heap.size s v ∧ Mod [] w w' := by
 have hss : s.data.toList.length = s.size := by simp
 refine yEv ?_
 intro b1 f1 w2 A2
 have s2 := A2.mod.size
 refine (yoX s 0 1048576 (by omega) (by omega) (by omega) w2).mono ?_
 rintro _ w3 ⟨v, rfl, hv, M3⟩
 have s3 := M3.size
 rw [List.drop_zero] at hv
 obtain ⟨t, b, e, rfl, hg⟩ := hv.out
 refine ⟨_, _, _, rfl, yaI.of0 M3, ?_⟩
 have htl : t.size ≤ 900000 := by
  rcases hg with ⟨_, m, _, g3⟩ | ⟨_, _, g4, _⟩
  ·have := yCk g3; omega
  ·rw [g4]; show 0 ≤ _; omega
 have hx : ∀ x, ybY x = 0 → s = yeJ x → e = 0 ∧ yeP t x := fun x h1 h2 => by
  have h3 := yEs h1
  rw [← h2] at h3
  rcases hg with ⟨g1, m, _, g3⟩ | ⟨_, g3, _⟩
  ·rw [h3] at g3
   simp only [Option.some.injEq, Prod.mk.injEq] at g3
   exact ⟨g1, h1, by rw [← g3.1, ydP]⟩
  ·rw [h3] at g3; cases g3
 refine (yBJ htl w3).mono ?_
 rintro _ w4 ⟨_, rfl, m, s1, f1', p1, rfl, hO, hlc, hm, M4⟩
 have s4 := M4.size
 refine ⟨_, _, _, _, _, _, _, _, _, _, _, _, _, _, _, _, _, _, _, _, _, _, _, rfl, yaI.of0 M4, ?_⟩
 intro b5 f5 w6 A6
 have s6 := A6.mod.size
 refine (yrP ((hO.keep0 A6.mod).at) hlc).mono ?_
 rintro _ w7 ⟨rfl, M7⟩
 have s7 := M7.size
 refine ⟨_, _, rfl, yaI.of0 M7, ?_⟩
 have N7 : Mod [] w w7 := (((A2.mod.go0 M3 (by simp)).go0 M4 (by simp)).go0 A6.mod (by simp)).go0 M7 (by simp)
 have no : ∀ {w'}, Adv [b1] [] w7 w' → (∀ x, ybY x = 0 → s ≠ yeJ x) → yHV w w' w.heap.size s (.tuple #[ymK.v ybL ybL ybL, .int .i64 180]) ∧ Mod [] w w' := fun {w'} A h => ⟨.inr ⟨h, rfl⟩, N7.go0 A.mod (by simpa using f1)⟩
 refine yaB (fun g => fun w8 A8 => no A8 fun x h1 h2 => ?_) fun g => ?_
 ·have := (hx x h1 h2).1; simp [this] at g
 refine yaB (fun g2 => fun w8 A8 => no A8 fun x h1 h2 => ?_) fun g2 => ?_
 ·have := hm x (hx x h1 h2).2; subst this; simp [h1] at g2
 have g2 : ybY m = 0 := by simpa using g2
 rw [if_pos g2, yf9]
 refine yaB (fun g3 => fun w8 A8 => no A8 fun x h1 h2 => ?_) fun g3 => fun w8 A8 => ?_
 ·have := hm x (hx x h1 h2).2; subst this; simp [h2] at g3
 ·have g3 : yeJ m = s := by simpa using g3
  have l1 : b1 < w2.heap.size := A2.lt b1 (by simp)
  exact ⟨.inl ⟨m, s1, f1', p1, g2, g3.symm, rfl, ((((hO.keep0 A6.mod).keep0 M7).keepB A8.mod (by simp; omega)).rebase (by omega)), hlc⟩, N7.go0 A8.mod (by simpa using f1)⟩
section
set_option maxRecDepth 100000
variable {R : VWP} {w w0 : World} {m : Nat} {i0 i1 i2 i3 i4 i5 i6 i7 i8 i9 j0 j1 j2 j3 j4 j5 j6 j7 j8 j9 k0 k1 k2 k3 k4 k5 k6 k7 k8 k9 l0 l1 l2 l3 l4 l5 l6 l7 l8 l9 : Int} {s0 s1 s2 s3 s4 s5 s6 s7 s8 s9 t0 t1 t2 t3 t4 t5 t6 t7 t8 t9 : BA} {n0 n1 n2 n3 n4 n5 n6 n7 n8 n9 o0 o1 o2 o3 o4 o5 o6 o7 o8 o9 p0 p1 p2 p3 p4 p5 p6 p7 p8 p9 : Nat} {q0 q1 q2 q3 q4 q5 q6 q7 q8 q9 r0 r1 r2 r3 r4 r5 r6 r7 r8 r9 : OA} {B0 B1 B2 B3 B4 B5 B6 B7 B8 B9 : Bool} {M0 M1 M2 M3 : Option Nat} {V0 V1 V2 V3 V4 V5 : Value} {A0 A1 A2 : Addr}
def yn3 : LA := ⟨[0, 0, 1, 0, 1, 1, 1, 1], [1, 2, 3, 4], [(1, 0, 0), (2, 1, 0), (3, 2, 0)], 3, []⟩
def yiA : LA := ⟨[0, 0, 1, 0, 1, 1, 1, 1, 1], [1, 2, 3, 6], [(1, 0, 0), (2, 1, 0), (3, 2, 0)], 3, []⟩
def yn4 : List LA := [yn3, yiA]
abbrev ypI := dnF pP yn4 (code Tryz.f21)
abbrev yI0 := yaO pP yn4 (code Tryz.f21)
abbrev ypJ (p : List Nat) (K : List Kh) (R : VWP) := yaO pP yn4 (code Tryz.f21) p K (ya4 pP Tryz.f21 [] R)
def yhI (bm0 : Nat) (a9 b0 b1 b2 : Int) (a0 : OA) (a6 a3 : Nat) (a1 : OA) (a7 a4 bm1 bm2 : Nat) (b3 b4 b5 b6 : Int) : Int × (Option Addr) × Nat × Nat → List Value × List TB := fun (b7, a2, a8, a5) => ([(.pointer (some ⟨bm0, 0, none⟩)), (.pointer (some ⟨bm1, 0, none⟩)), (.pointer (some ⟨bm2, 0, none⟩)), .int .i64 b7], [⟨bm0, 27, [.int .i64 a9, .int .i64 b0, .int .i64 b1, .int .i64 b2, .slice a0 a6 a3, .slice a1 a7 a4], false⟩, ⟨bm1, 27, [.int .i64 0, .int .i64 0, .int .i64 0, .int .i64 0, .slice none 0 0, .slice none 0 0], false⟩, ⟨bm2, 27, [.int .i64 b3, .int .i64 b4, .int .i64 b5, .int .i64 b6, .slice a2 a8 a5, .slice none 0 0], false⟩])
def yfY (bm0 : Nat) (b2 b3 b4 b5 : Int) (a0 : OA) (a8 a4 : Nat) (a1 : OA) (a9 a5 bm1 bm2 : Nat) (b6 b7 b8 b9 : Int) (a2 : OA) (b0 a6 : Nat) : Int × (Option Addr) × Nat × Nat → List Value × List TB := fun (c0, a3, b1, a7) => ([(.pointer (some ⟨bm0, 0, none⟩)), (.pointer (some ⟨bm1, 0, none⟩)), (.pointer (some ⟨bm2, 0, none⟩)), .int .i64 c0], [⟨bm0, 27, [.int .i64 b2, .int .i64 b3, .int .i64 b4, .int .i64 b5, .slice a0 a8 a4, .slice a1 a9 a5], false⟩, ⟨bm1, 27, [.int .i64 0, .int .i64 0, .int .i64 0, .int .i64 0, .slice none 0 0, .slice none 0 0], false⟩, ⟨bm2, 27, [.int .i64 b6, .int .i64 b7, .int .i64 b8, .int .i64 b9, .slice a2 b0 a6, .slice a3 b1 a7], false⟩])
abbrev yAA (bm0 : Nat) (a6 a7 a8 a9 : Int) (a0 : OA) (a4 a2 : Nat) (a1 : OA) (a5 a3 bm1 bm2 : Nat) (b0 b1 b2 b3 : Int) (I : Nat → Int → Option Addr → Nat → Nat → World → Prop) (m : Nat) : Kh := KG (yhI bm0 a6 a7 a8 a9 a0 a4 a2 a1 a5 a3 bm1 bm2 b0 b1 b2 b3) (U4 I) m
theorem yvN {I : Nat → Int → Option Addr → Nat → Nat → World → Prop} (m' : Nat) (h1 : m' < m) (h2 : I m' i8 q2 n7 n8 w) : KS (yAA n0 i0 i1 i2 i3 q0 n1 n2 q1 n3 n4 n5 n6 i4 i5 i6 i7 I m) (yhI n0 i0 i1 i2 i3 q0 n1 n2 q1 n3 n4 n5 n6 i4 i5 i6 i7 (i8, q2, n7, n8)) w := ⟨m', h1, _, rfl, rfl, h2⟩
theorem yvO {a1 : OA} {a2 : OA} {b8 : OA} (I : Nat → Int → Option Addr → Nat → Nat → World → Prop) (m0 : Nat) (h0 : I m0 i8 b8 n7 n8 w0)
 (hr : ∀ m b7 a3 a8 a6 w, I m b7 a3 a8 a6 w →
 brB (decide (b7 < (n1 : Int))) (
 brB (decide (b7 < 70)) (
 ixA a1 n1 b7 5 fun q4 =>
 yaF .i64 w q4 fun x5 => yaU w (Addr.add q4 1) fun t6 => yaP w (Addr.add q4 2) fun s7 => yaU w (Addr.add q4 3) fun t8 => yaP w (Addr.add q4 4) fun s9 =>
 ∀ c1, w.heap.size ≤ c1 →
 slS s7 0 (if 80 < (s7.size : Int) then 80 else (s7.size : Int)) fun d1 =>
 slS s9 0 (if 600 < (s9.size : Int) then 600 else (s9.size : Int)) fun d2 =>
 ∀ c3, Adv [] [c1] w c3 →
 al c3 (.cells (Z6 x5 t6 d1 t8 d2) 55) fun c8 c4 =>
 ycN pP (Builtin.append_ #[24, 24] 24 #[.slice a3 a8 a6, (.slice (some ⟨c8, 0, none⟩) 1 1)]) c4 fun c7 d0 c9 c5 => yaI [n0, n5, n6, c1] c4 c5 ∧
 ∀ c6, Adv [n6] [] c5 c6 →
 KS (yAA n0 i0 i1 i2 i3 a1 n1 n2 a2 n3 n4 n5 n6 i4 i5 i6 i7 I m) (yhI n0 i0 i1 i2 i3 a1 n1 n2 a2 n3 n4 n5 n6 i4 i5 i6 i7 ((IntKind.wrap .i64 (b7 + 1)), c7, d0, c9)) c6)
 (
 yaJ yiA (ypI 393 [0, 0, 1, 0, 1, 1, 1, 1, 1]) (ypJ [1, 1, 1, 1, 1, 0, 1, 0] [] R) (yfY n0 i0 i1 i2 i3 a1 n1 n2 a2 n3 n4 n5 n6 i4 i5 i6 i7 a3 a8 a6 (0, none, 0, 0)) w))
 (
 yaJ yiA (ypI 393 [0, 0, 1, 0, 1, 1, 1, 1, 1]) (ypJ [1, 1, 1, 1, 1, 0, 1, 0] [] R) (yfY n0 i0 i1 i2 i3 a1 n1 n2 a2 n3 n4 n5 n6 i4 i5 i6 i7 a3 a8 a6 (0, none, 0, 0)) w)) :
 yaJ yn3 (ypI 394 [0, 0, 1, 0, 1, 1, 1, 1]) (ypJ [1, 1, 1, 1, 0, 1, 0] [] R) (yhI n0 i0 i1 i2 i3 a1 n1 n2 a2 n3 n4 n5 n6 i4 i5 i6 i7 (i8, b8, n7, n8)) w0 :=
 lrule (yhI n0 i0 i1 i2 i3 a1 n1 n2 a2 n3 n4 n5 n6 i4 i5 i6 i7) (U4 I) h0 (by rintro m ⟨b7, a3, a8, a6⟩ w h; exact ⟨by kernel_rfl, by kernel_rfl, fun js => Eq.mpr (by kernel_rfl) (hr m b7 a3 a8 a6 w h)⟩)
abbrev yAB (bm0 : Nat) (a9 b0 b1 b2 : Int) (a0 : OA) (a6 a3 : Nat) (a1 : OA) (a7 a4 bm1 bm2 : Nat) (b3 b4 b5 b6 : Int) (a2 : OA) (a8 a5 : Nat) (I : Nat → Int → Option Addr → Nat → Nat → World → Prop) (m : Nat) : Kh := KG (yfY bm0 a9 b0 b1 b2 a0 a6 a3 a1 a7 a4 bm1 bm2 b3 b4 b5 b6 a2 a8 a5) (U4 I) m
theorem ylR {I : Nat → Int → Option Addr → Nat → Nat → World → Prop} (m' : Nat) (h1 : m' < m) (h2 : I m' i8 q3 n9 o0 w) : KS (yAB n0 i0 i1 i2 i3 q0 n1 n2 q1 n3 n4 n5 n6 i4 i5 i6 i7 q2 n7 n8 I m) (yfY n0 i0 i1 i2 i3 q0 n1 n2 q1 n3 n4 n5 n6 i4 i5 i6 i7 q2 n7 n8 (i8, q3, n9, o0)) w := ⟨m', h1, _, rfl, rfl, h2⟩
theorem ylS (I : Nat → Int → Option Addr → Nat → Nat → World → Prop) (m0 : Nat) (h0 : I m0 i8 q3 n9 o0 w0)
 (hr : ∀ m c0 a1 a6 a3 w, I m c0 a1 a6 a3 w →
 brB (decide (c0 < (n3 : Int))) (
 brB (decide (c0 < 70)) (
 ixA q1 n3 c0 2 fun c7 =>
 yaP w c7 fun c5 => yaF .i64 w (Addr.add c7 1) fun d9 =>
 ∀ c4, w.heap.size ≤ c4 →
 slS c5 0 (if 40 < (c5.size : Int) then 40 else (c5.size : Int)) fun d8 =>
 ∀ c8, Adv [] [c4] w c8 →
 al c8 (.cells #[.string d8, .int .i64 d9] 43) fun d5 c9 =>
 ycN pP (Builtin.append_ #[25, 25] 25 #[.slice a1 a6 a3, (.slice (some ⟨d5, 0, none⟩) 1 1)]) c9 fun d4 d7 d6 d0 => yaI [n0, n5, n6, c4] c9 d0 ∧
 ∀ d1, Adv [n6] [] d0 d1 →
 KS (yAB n0 i0 i1 i2 i3 q0 n1 n2 q1 n3 n4 n5 n6 i4 i5 i6 i7 q2 n7 n8 I m) (yfY n0 i0 i1 i2 i3 q0 n1 n2 q1 n3 n4 n5 n6 i4 i5 i6 i7 q2 n7 n8 ((IntKind.wrap .i64 (c0 + 1)), d4, d7, d6)) d1)
 (
 ∀ d2, Adv [n5] [] w d2 →
 R (.agg (Z3 i4 i5 i6 i7 q2 n7 n8 a1 a6 a3)) d2))
 (
 ∀ d3, Adv [n5] [] w d3 →
 R (.agg (Z3 i4 i5 i6 i7 q2 n7 n8 a1 a6 a3)) d3)) :
 yaJ yiA (ypI 393 [0, 0, 1, 0, 1, 1, 1, 1, 1]) (ypJ [1, 1, 1, 1, 1, 0, 1, 0] [] R) (yfY n0 i0 i1 i2 i3 q0 n1 n2 q1 n3 n4 n5 n6 i4 i5 i6 i7 q2 n7 n8 (i8, q3, n9, o0)) w0 :=
 lrule (yfY n0 i0 i1 i2 i3 q0 n1 n2 q1 n3 n4 n5 n6 i4 i5 i6 i7 q2 n7 n8) (U4 I) h0 (by rintro m ⟨c0, a1, a6, a3⟩ w h; exact ⟨by kernel_rfl, by kernel_rfl, fun js => Eq.mpr (by kernel_rfl) (hr m c0 a1 a6 a3 w h)⟩)
theorem yEy (h :
 ∀ b1, w.heap.size ≤ b1 →
 ∀ b2, w.heap.size ≤ b2 →
 ∀ b3, w.heap.size ≤ b3 →
 ∀ b0, Adv [] [b3, b2, b1] w b0 →
 yaJ yn3 (ypI 394 [0, 0, 1, 0, 1, 1, 1, 1]) (ypJ [1, 1, 1, 1, 0, 1, 0] [] R) (yhI b1 i0 i1 i2 i3 q0 n0 n1 q1 n2 n3 b2 b3 i0 i1 i2 i3 (0, none, 0, 0)) b0) :
 CR pP 21 #[(.agg (Z3 i0 i1 i2 i3 q0 n0 n1 q1 n2 n3))] w R :=
 yaA Tryz.wide_mixed (an := yn4) Tryz.func21 rfl rfl (by kernel_rfl) rfl (Eq.mpr (by kernel_rfl) h)
end
def yiB (n : Nat) (s : ByteArray) : ByteArray := s.extract 0 (min s.size n)
theorem ypK (n : Nat) (s : ByteArray) : (yiB n s).size = min s.size n := by unfold yiB; rw [ByteArray.size_extract]; omega
theorem yEz {n : Nat} {s : ByteArray} (h : s.size ≤ n) : yiB n s = s := by
 unfold yiB; rw [Nat.min_eq_left h]; exact ByteArray.extract_zero_size
theorem ygM (n : Nat) (s : ByteArray) : yiB n (yiB n s) = yiB n s := yEz (by rw [ypK]; omega)
theorem ydR {s : ByteArray} {m : Int} {n : Nat} {F : ByteArray → Prop} (hm : m = (n : Nat)) (hF : F (yiB n s)) : slS s 0 (if m < (s.size : Int) then m else (s.size : Int)) F := by
 subst hm
 refine ⟨by omega, by split <;> omega, by split <;> omega, ?_⟩
 have e : (if (n : Int) < (s.size : Int) then (n : Int) else (s.size : Int)).toNat = min s.size n := by split <;> omega
 rw [e]; exact hF
theorem yd3 {α β : Type} {f : α → β} {l : List α} {k : Nat} {x : α} (hx : l[k]? = some x) : (l.take (k + 1)).map f = (l.take k).map f ++ [f x] := by
 rw [List.take_add_one, hx]; simp
theorem ydE {α : Type} {l : List α} {k : Nat} (n : Nat) (hk : k ≤ n) (h : ¬ (k < l.length ∧ k < n)) (hk2 : k ≤ l.length) : l.take k = l.take n := by
 by_cases h1 : k = n
 ·rw [h1]
 ·rw [List.take_of_length_le (by omega), List.take_of_length_le (by omega)]
def yAM (r : PRec) : PRec := ⟨r.hk, yiB 80 r.key, r.tomb, yiB 600 r.val⟩
def ypR (b : PBatch) : PBatch := ⟨b.prod, b.epoch, b.seq, (b.recs.take 20).map yAM⟩
def yvP (o : POp) : POp := ⟨o.kind, ⟨yiB 40 o.part.t, o.part.n⟩, o.n, o.off, ypR o.b, yiB 40 o.g, yiB 40 o.m, o.gen, o.robin, (o.topics.take 12).map (yiB 40)⟩
def yC7 (c : PCall) : PCall := ⟨c.c, c.n, yvP c.op⟩
def yn5 (xs : List PCall) : List PCall := (xs.take 12).map yC7
def yBK (x : PFound) : PFound := ⟨x.off, ⟨x.r.hk, yiB 80 x.r.key, x.r.tomb, yiB 600 x.r.val⟩⟩
def yvZ (x : PPart) : PPart := ⟨yiB 40 x.t, x.n⟩
def ybW (r : PRep) : PRep := ⟨r.e, r.off, r.n, r.gen, (r.found.take 70).map yBK, (r.parts.take 70).map yvZ⟩
theorem ycQ {α : Type} {f : α → α} {n : Nat} (hf : ∀ x, f (f x) = f x) (l : List α) : ((((l.take n).map f).take n).map f) = (l.take n).map f := by
 rw [← List.map_take, List.take_take, Nat.min_self, List.map_map]
 congr 1
 funext x; exact hf x
theorem yBL (r : PRec) : yAM (yAM r) = yAM r := by simp [yAM, ygM]
theorem yBM (b : PBatch) : ypR (ypR b) = ypR b := by
 show (⟨b.prod, b.epoch, b.seq, _⟩ : PBatch) = ⟨b.prod, b.epoch, b.seq, _⟩
 rw [show (ypR b).recs = (b.recs.take 20).map yAM from rfl, ycQ yBL]
theorem yBN (o : POp) : yvP (yvP o) = yvP o := by
 have h1 := yBM o.b
 have h2 := ycQ (n := 12) (ygM 40) o.topics
 simp only [yvP, ygM, h1, h2]
theorem yBO (c : PCall) : yC7 (yC7 c) = yC7 c := by simp [yC7, yBN]
theorem yAC (xs : List PCall) : yn5 (yn5 xs) = yn5 xs := ycQ yBO xs
theorem yBP (x : PFound) : yBK (yBK x) = yBK x := by simp [yBK, ygM]
theorem yBQ (x : PPart) : yvZ (yvZ x) = yvZ x := by simp [yvZ, ygM]
theorem yvQ (r : PRep) : ybW (ybW r) = ybW r := by
 have h1 := ycQ (n := 70) yBP r.found
 have h2 := ycQ (n := 70) yBQ r.parts
 simp only [ybW, h1, h2]
theorem yBR (r : PRec) (w : World) : Calls pP 116 #[r.v] w fun e w' => e = .returned (yAM r).v ∧ Mod [] w w' := by
 refine yaQ (yEb ?_)
 intro b1 f1 b2 f2
 refine ydR (n := 80) rfl (ydR (n := 600) rfl ?_)
 intro w3 A3
 exact ⟨rfl, A3.mod⟩
theorem yAD {w : World} {b : PBatch} {rs : Sl} (h : ybS w 4 yeR rs.a rs.n b.recs) (hw : rs.n ≤ maxLen) :
  Calls pP 86 #[b.v rs] w fun e w' => ∃ v, e = .returned v ∧ ∃ rs' : Sl, v = (ypR b).v rs' ∧ Row w' w.heap.size 53 4 yeR rs'.a rs'.n rs'.c (ypR b).recs ∧ Mod [] w w' := by
 refine yEc ?_
 intro b1 f1 b2 f2 b3 f3 w1 A1
 have l1 := A1.lt b1 (by simp)
 have l2 := A1.lt b2 (by simp)
 have l3 := A1.lt b3 (by simp)
 have s1 := A1.mod.size
 have hn := h.1
 refine yuM (fun mm x a n c w' => ∃ k : Nat, x = k ∧ k ≤ b.recs.length ∧ k ≤ 20 ∧ Row w' w1.heap.size 53 4 yeR a n c ((b.recs.take k).map yAM) ∧ Mod [] w w' ∧ w1.heap.size ≤ w'.heap.size ∧ mm = b.recs.length - k) b.recs.length
  ⟨0, rfl, by omega, by omega, Row.nil .., A1.mod, Nat.le_refl _, rfl⟩ ?_
 rintro mm x a n c w2 ⟨k, rfl, hk, hk2, hRow, N2, s2, rfl⟩
 have hlk : ((b.recs.take k).map yAM).length = k := by rw [List.length_map, List.length_take]; omega
 have fin : ∀ {w'}, ¬ (k < b.recs.length ∧ k < 20) → Adv [b2] [] w2 w' → ∃ rs' : Sl, Value.agg #[.int .i64 b.prod, .int .i64 b.epoch, .int .i64 b.seq, .slice a n c] = (ypR b).v rs' ∧ Row w' w.heap.size 53 4 yeR rs'.a rs'.n rs'.c (ypR b).recs ∧ Mod [] w w' := fun {w'} hne A => by
  rw [ydE 20 hk2 hne hk] at hRow
  exact ⟨⟨a, n, c⟩, rfl, (hRow.keep A.mod fun ad ha hk => by have := hRow.base ad ha; simp at hk; omega).rebase s1, N2.go0 A.mod (by simpa using f2)⟩
 refine yaC (fun hlt => ?_) fun hge => fun w3 A3 => fin (by omega) A3
 refine yaC (fun hlt2 => ?_) fun hge => fun w3 A3 => fin (by omega) A3
 obtain ⟨r, hr⟩ : ∃ r, b.recs[k]? = some r := ⟨_, List.getElem?_eq_getElem (by omega)⟩
 refine (h.keep0 N2).ixW hr fun q hq => ?_
 intro w3 A3
 have hq := hq w3 A3.mod
 refine yaM (x := r.hk) (by simpa [add_zero] using hq 0 _ rfl) (yaH (hq 1 _ rfl) (yaM (hq 2 _ rfl) (yaH (hq 3 _ rfl) ?_)))
 refine (yBR r w3).mono ?_
 rintro e w4 ⟨rfl, M4⟩
 refine ⟨_, _, _, _, rfl, yaI.of0 M4, rfl, ?_⟩
 refine ycZ fun b5 w5 c5 M5 f5 => ?_
 have K5 : Mod [] w2 w5 := (A3.mod.go0 M4 (by simp)).go0 M5 (by simp)
 have s5 := K5.size
 obtain ⟨i0, hi, hz0, hz1, hz2⟩ := info_parts yDy
 refine ybN (x := yAM r) (hRow.keep0 K5) Tryz.underlying44 hi hz0 hz1 hz2 rfl (by decide) c5 rfl (ymH _) (by omega) (by unfold maxLen; omega) (by omega) fun a' c' w6 hR6 hM6 => ?_
 have M6 := hM6 _ (ycS a)
 have hrow := ybA hRow
 refine ⟨yaI.of M6 fun b hb _ hb' => ?_, ?_⟩
 ·have := hrow b hb'; simp at hb; omega
 intro w7 A7
 unfold maxLen at hw
 refine yuL (b.recs.length - (k + 1)) (by omega) ⟨k + 1, by rw [yaG (by omega) (by omega)]; omega, by omega, by omega, Row.keep (by rw [yd3 hr]; exact hR6) A7.mod fun ad ha hk => ?_, ?_, by have := M6.size; have := A7.mod.size; omega, rfl⟩
 ·have := hR6.base ad ha; simp at hk; omega
 ·refine ((N2.go0 K5 (by simp)).go0 M6 fun i hi => ?_).go0 A7.mod (by simpa using f3)
  have := hrow i hi; omega
theorem yEA {w : World} {o : POp} {rs ts : Sl} (h : OpRd w o rs ts) :
  Calls pP 52 #[o.v rs ts] w fun e w' => ∃ v, e = .returned v ∧ ∃ rs' ts' : Sl, v = (yvP o).v rs' ts' ∧ OpOwn w' w.heap.size (yvP o) rs' ts' ∧ Mod [] w w' := by
 refine yEd ?_
 intro b1 f1 b2 f2 b3 f3
 refine ydR (n := 40) rfl (ydR (n := 40) rfl (ydR (n := 40) rfl ?_))
 intro w1 A1
 have l1 := A1.lt b1 (by simp)
 have l2 := A1.lt b2 (by simp)
 have l3 := A1.lt b3 (by simp)
 have s1 := A1.mod.size
 have hn := h.topics.1
 have hw := h.wt
 unfold maxLen at hw
 refine (yAD (b := o.b) (rs := rs) (h.recs.keep0 A1.mod) h.wr).mono ?_
 rintro e w2 ⟨_, rfl, rs', rfl, hB, M2⟩
 have s2 := M2.size
 refine ⟨_, _, _, _, _, _, rfl, yaI.of0 M2, ?_⟩
 intro w3 A3
 have s3 := A3.mod.size
 have hB3 : Row w3 w1.heap.size 53 4 yeR rs'.a rs'.n rs'.c (ypR o.b).recs := hB.keep A3.mod fun ad ha hk => by have := hB.base ad ha; simp at hk; omega
 have N3 := (A1.mod.go0 M2 (by simp)).go0 A3.mod (by simpa using f3)
 refine yuO (fun mm x a n c w' => ∃ k : Nat, x = k ∧ k ≤ o.topics.length ∧ k ≤ 12 ∧ Row w' w1.heap.size 9 1 yi6 a n c ((o.topics.take k).map (yiB 40)) ∧ Row w' w1.heap.size 53 4 yeR rs'.a rs'.n rs'.c (ypR o.b).recs ∧ Mod [] w w' ∧ w1.heap.size ≤ w'.heap.size ∧ mm = o.topics.length - k) o.topics.length
  ⟨0, rfl, by omega, by omega, Row.nil .., hB3, N3, by omega, rfl⟩ ?_
 rintro mm x a n c w4 ⟨k, rfl, hk, hk2, hRow, hB4, N4, s4, rfl⟩
 have hlk : ((o.topics.take k).map (yiB 40)).length = k := by rw [List.length_map, List.length_take]; omega
 have fin : ∀ {w'}, ¬ (k < o.topics.length ∧ k < 12) → Adv [b2] [] w4 w' → ∃ rs'' ts' : Sl, Value.agg #[.int .i64 o.kind, .string (yiB 40 o.part.t), .int .i64 o.part.n, .int .i64 o.n, .int .i64 o.off, .int .i64 (ypR o.b).prod, .int .i64 (ypR o.b).epoch, .int .i64 (ypR o.b).seq, .slice rs'.a rs'.n rs'.c, .string (yiB 40 o.g), .string (yiB 40 o.m), .int .i64 o.gen, .bool o.robin, .slice a n c] = (yvP o).v rs'' ts' ∧ OpOwn w' w.heap.size (yvP o) rs'' ts' ∧ Mod [] w w' := fun {w'} hne A => by
  rw [ydE 12 hk2 hne hk] at hRow
  exact ⟨rs', ⟨a, n, c⟩, rfl, ⟨(hB4.keep A.mod fun ad ha hk => by have := hB4.base ad ha; simp at hk; omega).rebase s1, (hRow.keep A.mod fun ad ha hk => by have := hRow.base ad ha; simp at hk; omega).rebase s1, by simp [yvP, ypR]; omega, by simp [yvP]; omega⟩, N4.go0 A.mod (by simpa using f2)⟩
 refine yaC (fun hlt => ?_) fun hge => fun w5 A5 => fin (by omega) A5
 refine yaC (fun hlt2 => ?_) fun hge => fun w5 A5 => fin (by omega) A5
 obtain ⟨t, ht⟩ : ∃ t, o.topics[k]? = some t := ⟨_, List.getElem?_eq_getElem (by omega)⟩
 refine (h.topics.keep0 N4).ixW ht fun q hq => ?_
 intro w5 A5
 refine yaH (x := t) (by simpa [add_zero] using hq w5 A5.mod 0 _ rfl) ?_
 refine (h.topics.keep0 N4).ixW ht fun q hq => ?_
 refine yaH (x := t) (by simpa [add_zero] using hq w5 A5.mod 0 _ rfl) ?_
 refine ydR (n := 40) rfl ?_
 refine ycZ fun b6 w6 c6 M6 f6 => ?_
 have K6 : Mod [] w4 w6 := A5.mod.go0 M6 (by simp)
 have s6 := K6.size
 obtain ⟨i0, hi, hz0, hz1, hz2⟩ := info_parts yDz
 refine ybN (enc := yi6) (x := yiB 40 t) (hRow.keep0 K6) Tryz.underlying47 hi hz0 hz1 hz2 rfl (by decide) c6 rfl (ymI _) (by omega) (by unfold maxLen; omega) (by omega) fun a' c' w7 hR7 hM7 => ?_
 have M7 := hM7 _ (ycS a)
 have s7 := M7.size
 have hrow := ybA hRow
 refine ⟨yaI.of M7 fun b hb _ hb' => ?_, ?_⟩
 ·have := hrow b hb'; simp at hb; omega
 intro w8 A8
 have s8 := A8.mod.size
 have hB7 : Row w7 w1.heap.size 53 4 yeR rs'.a rs'.n rs'.c (ypR o.b).recs := (hB4.keep0 K6).keep M7 fun ad ha hk => by
  obtain ⟨_, cur, hc⟩ := hB4.block ad ha
  obtain ⟨_, _, cur2, hc2⟩ := hrow _ hk
  rw [hc2] at hc; cases hc
 refine yuN (o.topics.length - (k + 1)) (by omega) ⟨k + 1, by rw [yaG (by omega) (by omega)]; omega, by omega, by omega, Row.keep (by rw [yd3 ht]; exact hR7) A8.mod fun ad ha hk => ?_, hB7.keep A8.mod fun ad ha hk => ?_, ?_, by omega, rfl⟩
 ·have := hR7.base ad ha; simp at hk; omega
 ·have := hB7.base ad ha; simp at hk; omega
 ·refine ((N4.go0 K6 (by simp)).go0 M7 fun i hi => ?_).go0 A8.mod (by simpa using f3)
  have := hrow i hi; omega
theorem yBS {w : World} {a : Option Addr} {n c : Nat} {ll : List CV} (h : ybS w 16 CV.cs a n ll) (hO : ∀ q ∈ ll, OpRd w q.x.op q.rs q.ts) (hw : n ≤ maxLen) :
  Calls pP 20 #[.slice a n c] w fun e w' => ∃ v, e = .returned v ∧ ∃ s' : Sl, v = .slice s'.a s'.n s'.c ∧ ya7 w' w.heap.size s' (yn5 (ll.map (·.x))) ∧ Mod [] w w' := by
 have hn := h.1
 unfold maxLen at hw
 refine yEe ?_
 refine ycZ fun b1 w1 c1 M1 f1 => ?_
 have s1 := M1.size
 refine yuQ (fun mm a3 n3 c3 x w' => ∃ (k : Nat) (l : List CV), x = k ∧ k ≤ ll.length ∧ k ≤ 12 ∧ l.map (·.x) = ((ll.map (·.x)).take k).map yC7 ∧ Row w' w.heap.size 51 16 CV.cs a3 n3 c3 l ∧ (∀ q ∈ l, OpOwn w' w.heap.size q.x.op q.rs q.ts) ∧ Mod [] w w' ∧ mm = ll.length - k) ll.length
  ⟨0, [], rfl, by omega, by omega, by simp, Row.fresh c1 f1, by simp, M1, rfl⟩ ?_
 rintro mm a3 n3 c3 x w2 ⟨k, l, rfl, hk, hk2, hlx, hRow, hOw, M2, rfl⟩
 have hlk : l.length = k := by have := congrArg List.length hlx; simp at this; omega
 have fin : ¬ (k < (ll.map (·.x)).length ∧ k < 12) → ∃ s' : Sl, Value.slice a3 n3 c3 = .slice s'.a s'.n s'.c ∧ ya7 w2 w.heap.size s' (yn5 (ll.map (·.x))) ∧ Mod [] w w2 := fun hne => ⟨⟨a3, n3, c3⟩, rfl, ⟨l, hRow, hOw, by rw [hlx, yn5, ydE 12 hk2 hne (by simpa using hk)]⟩, M2⟩
 have s2 := M2.size
 refine yaC (fun hlt => ?_) fun hge => fin (by simp; omega)
 refine yaC (fun hlt2 => ?_) fun hge => fin (by simp; omega)
 obtain ⟨q, hq⟩ : ∃ q, ll[k]? = some q := ⟨_, List.getElem?_eq_getElem (by omega)⟩
 refine (h.keep0 M2).ixW hq fun ad had => ?_
 intro w3 A3
 have s3 := A3.mod.size
 have N3 := M2.go0 A3.mod (by simp)
 refine yaD (x := q.x.c) (by simpa [add_zero] using had w3 A3.mod 0 _ rfl) ?_
 refine (h.keep0 N3).ixW hq fun ad2 had2 => yaD (x := q.x.n) (had2 w3 (Mod.refl _) 1 _ rfl) ?_
 refine (h.keep0 N3).ixW hq fun ad3 had3 => ?_
 have hc := had3 w3 (Mod.refl _)
 refine yrN (ym1 hc) ?_
 refine (yEA ((hO q (List.mem_of_getElem? hq)).keep0 N3)).mono ?_
 rintro _ w4 ⟨_, rfl, rs', ts', rfl, hO', M4⟩
 have s4 := M4.size
 refine ⟨_, _, _, _, _, _, _, _, _, _, _, _, _, _, _, _, _, _, rfl, ?_, ?_, ?_⟩
 ·exact yaD (x := q.x.n) (had2 w4 M4 1 _ rfl) rfl
 ·exact yaD (x := q.x.c) (by simpa [add_zero] using had w4 (A3.mod.go0 M4 (by simp)) 0 _ rfl) rfl
 refine ycZ fun b7 w7 c7 M7 f7 => ?_
 have s7 := M7.size
 have K7 : Mod [] w2 w7 := (A3.mod.go0 M4 (by simp)).go0 M7 (by simp)
 obtain ⟨i0, hi, hz0, hz1, hz2⟩ := info_parts ymL
 refine ybN (x := (⟨⟨q.x.c, q.x.n, yvP q.x.op⟩, rs', ts'⟩ : CV)) (hRow.keep0 K7) Tryz.underlying22 hi hz0 hz1 hz2 rfl (by decide) c7 rfl (CV.cs_one _) (by omega) (by unfold maxLen; omega) (by omega) fun a' c' w8 hR8 hM8 => ?_
 have M8 := hM8 _ (ycS a3)
 have hrow := ybA hRow
 have kp : ∀ {o rs ts}, OpOwn w7 w.heap.size o rs ts → OpOwn w8 w.heap.size o rs ts := fun hh => hh.keep M8 fun k hk cs T hc => by
  obtain ⟨_, _, cur, hcur⟩ := hrow k hk
  rw [K7.keep0 hcur] at hc; cases hc; decide
 refine yuP (ll.length - (k + 1)) (by omega) ⟨k + 1, _, by rw [yaG (by omega) (by omega)]; omega, by omega, by omega, by rw [yd3 (show (ll.map (·.x))[k]? = some q.x by rw [List.getElem?_map, hq]; rfl), List.map_append, hlx]; rfl, hR8, fun y hy => ?_, (M2.go0 K7 (by simp)).go0 M8 fun i hi => (hrow i hi).1, rfl⟩
 rcases List.mem_append.1 hy with hy | hy
 ·exact kp ((hOw y hy).keep0 K7)
 ·simp at hy; subst hy; exact kp ((hO'.keep0 M7).rebase (by omega))
set_option maxHeartbeats 1000000 in
theorem ypL {w : World} {r : PRep} {f p : Sl} (h : RepRd w r f p) :
  Calls pP 21 #[r.v f p] w fun e w' => ∃ v, e = .returned v ∧ ∃ f' p' : Sl, v = (ybW r).v f' p' ∧ RepOwn w' w.heap.size (ybW r) f' p' ∧ Mod [] w w' := by
 refine yEy ?_
 intro b1 f1 b2 f2 b3 f3 w1 A1
 have l1 : ∀ b ∈ [b3, b2, b1], b < w1.heap.size := A1.lt
 have l3 := l1 b3 (by simp)
 have l2 := l1 b2 (by simp)
 have l1 := l1 b1 (by simp)
 have s1 := A1.mod.size
 refine yvO (fun mm x a n c w' => ∃ k : Nat, x = k ∧ k ≤ 70 ∧ k ≤ r.found.length ∧ Row w' w1.heap.size 55 5 yhT a n c ((r.found.take k).map yBK) ∧ Mod [] w w' ∧ w1.heap.size ≤ w'.heap.size ∧ mm = 70 - k) 70 ⟨0, rfl, by omega, by omega, Row.nil .., A1.mod, Nat.le_refl _, rfl⟩ ?_
 rintro mm x a1 n1 c1 w2 ⟨k, rfl, hk, hkf, hR, M2, hs2, rfl⟩
 have hl1 : ((r.found.take k).map yBK).length = k := by rw [List.length_map, List.length_take]; omega
 have e4 := h.found.1
 have e5 := h.parts.1
 refine yaC (fun hlt => ?_) fun hge => ?_
 ·refine yaC (fun hlt4 => ?_) fun hge => ?_
  ·obtain ⟨y, hy⟩ : ∃ y, r.found[k]? = some y := ⟨_, List.getElem?_eq_getElem (by have := h.found.1; omega)⟩
   have hym := h.sf y (List.mem_of_getElem? hy)
   unfold maxLen at hym
   refine (h.keep0 M2).found.ix hy fun q hq => yaD (x := y.off) (by simpa [add_zero] using hq 0 _ rfl) (yaM (hq 1 _ rfl) (yaH (hq 2 _ rfl) (yaM (hq 3 _ rfl) (yaH (hq 4 _ rfl) ?_))))
   intro b6 f6
   refine ydR (n := 80) rfl (ydR (n := 600) rfl ?_)
   intro w6 A6
   have l6 := A6.lt b6 (by simp)
   have s6 := A6.mod.size
   refine ycZ fun b7 w7 c7 M7 f7 => ?_
   have s7 := M7.size
   obtain ⟨i0, hi0, hz0, hz1, hz2⟩ := info_parts yDo
   refine ybN (x := yBK y) ((hR.keep0 A6.mod).keep0 M7) Tryz.underlying24 hi0 hz0 hz1 hz2 rfl (by decide) c7 rfl (ymE _) (by omega) (by unfold maxLen; omega) (by omega) fun a' c' w8 hR8 hM8 => ?_
   have M8 := hM8 _ (ycS a1)
   have hrow : ∀ k ∈ yjY a1, w1.heap.size ≤ k ∧ k < w2.heap.size := by
    cases a1 with
    | none => simp [yjY]
    | some ad => intro k hk; simp [yjY] at hk; subst hk; obtain ⟨h1, cur, h2⟩ := hR.block ad rfl; exact ⟨h1, yaT h2⟩
   refine ⟨yaI.of M8 fun b hb _ hb' => ?_, ?_⟩
   ·have := hrow b hb'; simp at hb; omega
   intro w9 A9
   have N7 : Mod [] w2 w7 := A6.mod.go0 M7 (by simp)
   have N8 : Mod [] w w8 := (M2.go0 N7 (by simp)).go0 M8 fun i hi => by have := hrow i hi; omega
   have s8 := M8.size
   have s9 := A9.mod.size
   refine yvN (70 - (k + 1)) (by omega) ⟨k + 1, by rw [yaG (by omega) (by omega)]; omega, by omega, by have := (List.getElem?_eq_some_iff.1 hy).1; omega, Row.keep (by rw [yd3 hy]; exact hR8) A9.mod fun ad ha hk' => ?_, N8.go0 A9.mod (by simp; omega), by omega, rfl⟩
   have := hR8.base ad ha; simp at hk'; omega
  ·have hRf : Row w2 w1.heap.size 55 5 yhT a1 n1 c1 (ybW r).found := by
    have := ydE (l := r.found) 70 hk (by omega) hkf
    rw [this] at hR; exact hR
   clear hR
   refine ylS (fun mm x a n c w' => ∃ k : Nat, x = k ∧ k ≤ 70 ∧ k ≤ r.parts.length ∧ Row w' w1.heap.size 43 2 yi1 a n c ((r.parts.take k).map yvZ) ∧ Row w' w1.heap.size 55 5 yhT a1 n1 c1 (ybW r).found ∧ Mod [] w w' ∧ w1.heap.size ≤ w'.heap.size ∧ mm = 70 - k) 70 ⟨0, rfl, by omega, by omega, Row.nil .., hRf, M2, hs2, rfl⟩ ?_
   rintro mm x a n c w3 ⟨k, rfl, hk, hkp, hP, hR, M3, hs3, rfl⟩
   have hl : ((r.parts.take k).map yvZ).length = k := by rw [List.length_map, List.length_take]; omega
   have fin : ¬ (k < r.parts.length ∧ k < 70) → ∀ w4, Adv [b2] [] w3 w4 → ∃ f' p' : Sl, Value.agg #[.int .i64 r.e, .int .i64 r.off, .int .i64 r.n, .int .i64 r.gen, .slice a1 n1 c1, .slice a n c] = (ybW r).v f' p' ∧ RepOwn w4 w.heap.size (ybW r) f' p' ∧ Mod [] w w4 := fun hne w4 A4 => by
    rw [ydE 70 hk hne hkp] at hP
    refine ⟨⟨a1, n1, c1⟩, ⟨a, n, c⟩, rfl, ⟨?_, ?_, by simp [ybW]; omega, by simp [ybW]; omega⟩, M3.go0 A4.mod (by simp; omega)⟩
    ·refine (hR.keep A4.mod fun ad ha hk' => ?_).rebase (by omega)
     have := hR.base ad ha; simp at hk'; omega
    ·refine (hP.keep A4.mod fun ad ha hk' => ?_).rebase (by omega)
     have := hP.base ad ha; simp at hk'; omega
   refine yaC (fun hlt => ?_) fun hge => fin (by omega)
   refine yaC (fun hlt4 => ?_) fun hge => fin (by omega)
   obtain ⟨y, hy⟩ : ∃ y, r.parts[k]? = some y := ⟨_, List.getElem?_eq_getElem (by have := h.parts.1; omega)⟩
   have hym := h.sp y (List.mem_of_getElem? hy)
   unfold maxLen at hym
   refine (h.keep0 M3).parts.ix hy fun q hq => yaH (x := y.t) (by simpa [add_zero] using hq 0 _ rfl) (yaD (hq 1 _ rfl) ?_)
   intro b6 f6
   refine ydR (n := 40) rfl ?_
   intro w6 A6
   have l6 := A6.lt b6 (by simp)
   have s6 := A6.mod.size
   refine ycZ fun b7 w7 c7 M7 f7 => ?_
   have s7 := M7.size
   obtain ⟨i0, hi0, hz0, hz1, hz2⟩ := info_parts yBe
   refine ybN (x := yvZ y) ((hP.keep0 A6.mod).keep0 M7) Tryz.underlying25 hi0 hz0 hz1 hz2 rfl (by decide) c7 rfl (yh5 _) (by omega) (by unfold maxLen; omega) (by omega) fun a' c' w8 hR8 hM8 => ?_
   have M8 := hM8 _ (ycS a)
   have hrow : ∀ k ∈ yjY a, w1.heap.size ≤ k ∧ k < w3.heap.size ∧ ∃ cur, w3.heap[k]? = some (.cells cur 43) := by
    cases a with
    | none => simp [yjY]
    | some ad => intro k hk; simp [yjY] at hk; subst hk; obtain ⟨h1, cur, h2⟩ := hP.block ad rfl; exact ⟨h1, yaT h2, cur, h2⟩
   refine ⟨yaI.of M8 fun b hb _ hb' => ?_, ?_⟩
   ·have := hrow b hb'; simp at hb; omega
   intro w9 A9
   have N7 : Mod [] w3 w7 := A6.mod.go0 M7 (by simp)
   have N8 : Mod [] w w8 := (M3.go0 N7 (by simp)).go0 M8 fun i hi => by have := hrow i hi; omega
   have s8 := M8.size
   have s9 := A9.mod.size
   refine ylR (70 - (k + 1)) (by omega) ⟨k + 1, by rw [yaG (by omega) (by omega)]; omega, by omega, by have := (List.getElem?_eq_some_iff.1 hy).1; omega, Row.keep (by rw [yd3 hy]; exact hR8) A9.mod fun ad ha hk' => ?_, ?_, N8.go0 A9.mod (by simp; omega), by omega, rfl⟩
   ·have := hR8.base ad ha; simp at hk'; omega
   ·have h7 := hR.keep0 N7
    refine (h7.keep M8 fun ad ha hk' => ?_).keep A9.mod fun ad ha hk' => ?_
    ·obtain ⟨_, _, cur, hc⟩ := hrow _ hk'
     obtain ⟨_, cur', hc'⟩ := hR.block ad ha
     rw [hc] at hc'; cases hc'
    ·have := hR.base ad ha; simp at hk'; omega
 ·have hRf : Row w2 w1.heap.size 55 5 yhT a1 n1 c1 (ybW r).found := by
   have := ydE (l := r.found) 70 hk (by omega) hkf
   rw [this] at hR; exact hR
  clear hR
  refine ylS (fun mm x a n c w' => ∃ k : Nat, x = k ∧ k ≤ 70 ∧ k ≤ r.parts.length ∧ Row w' w1.heap.size 43 2 yi1 a n c ((r.parts.take k).map yvZ) ∧ Row w' w1.heap.size 55 5 yhT a1 n1 c1 (ybW r).found ∧ Mod [] w w' ∧ w1.heap.size ≤ w'.heap.size ∧ mm = 70 - k) 70 ⟨0, rfl, by omega, by omega, Row.nil .., hRf, M2, hs2, rfl⟩ ?_
  rintro mm x a n c w3 ⟨k, rfl, hk, hkp, hP, hR, M3, hs3, rfl⟩
  have hl : ((r.parts.take k).map yvZ).length = k := by rw [List.length_map, List.length_take]; omega
  have fin : ¬ (k < r.parts.length ∧ k < 70) → ∀ w4, Adv [b2] [] w3 w4 → ∃ f' p' : Sl, Value.agg #[.int .i64 r.e, .int .i64 r.off, .int .i64 r.n, .int .i64 r.gen, .slice a1 n1 c1, .slice a n c] = (ybW r).v f' p' ∧ RepOwn w4 w.heap.size (ybW r) f' p' ∧ Mod [] w w4 := fun hne w4 A4 => by
   rw [ydE 70 hk hne hkp] at hP
   refine ⟨⟨a1, n1, c1⟩, ⟨a, n, c⟩, rfl, ⟨?_, ?_, by simp [ybW]; omega, by simp [ybW]; omega⟩, M3.go0 A4.mod (by simp; omega)⟩
   ·refine (hR.keep A4.mod fun ad ha hk' => ?_).rebase (by omega)
    have := hR.base ad ha; simp at hk'; omega
   ·refine (hP.keep A4.mod fun ad ha hk' => ?_).rebase (by omega)
    have := hP.base ad ha; simp at hk'; omega
  refine yaC (fun hlt => ?_) fun hge => fin (by omega)
  refine yaC (fun hlt4 => ?_) fun hge => fin (by omega)
  obtain ⟨y, hy⟩ : ∃ y, r.parts[k]? = some y := ⟨_, List.getElem?_eq_getElem (by have := h.parts.1; omega)⟩
  have hym := h.sp y (List.mem_of_getElem? hy)
  unfold maxLen at hym
  refine (h.keep0 M3).parts.ix hy fun q hq => yaH (x := y.t) (by simpa [add_zero] using hq 0 _ rfl) (yaD (hq 1 _ rfl) ?_)
  intro b6 f6
  refine ydR (n := 40) rfl ?_
  intro w6 A6
  have l6 := A6.lt b6 (by simp)
  have s6 := A6.mod.size
  refine ycZ fun b7 w7 c7 M7 f7 => ?_
  have s7 := M7.size
  obtain ⟨i0, hi0, hz0, hz1, hz2⟩ := info_parts yBe
  refine ybN (x := yvZ y) ((hP.keep0 A6.mod).keep0 M7) Tryz.underlying25 hi0 hz0 hz1 hz2 rfl (by decide) c7 rfl (yh5 _) (by omega) (by unfold maxLen; omega) (by omega) fun a' c' w8 hR8 hM8 => ?_
  have M8 := hM8 _ (ycS a)
  have hrow : ∀ k ∈ yjY a, w1.heap.size ≤ k ∧ k < w3.heap.size ∧ ∃ cur, w3.heap[k]? = some (.cells cur 43) := by
   cases a with
   | none => simp [yjY]
   | some ad => intro k hk; simp [yjY] at hk; subst hk; obtain ⟨h1, cur, h2⟩ := hP.block ad rfl; exact ⟨h1, yaT h2, cur, h2⟩
  refine ⟨yaI.of M8 fun b hb _ hb' => ?_, ?_⟩
  ·have := hrow b hb'; simp at hb; omega
  intro w9 A9
  have N7 : Mod [] w3 w7 := A6.mod.go0 M7 (by simp)
  have N8 : Mod [] w w8 := (M3.go0 N7 (by simp)).go0 M8 fun i hi => by have := hrow i hi; omega
  have s8 := M8.size
  have s9 := A9.mod.size
  refine ylR (70 - (k + 1)) (by omega) ⟨k + 1, by rw [yaG (by omega) (by omega)]; omega, by omega, by have := (List.getElem?_eq_some_iff.1 hy).1; omega, Row.keep (by rw [yd3 hy]; exact hR8) A9.mod fun ad ha hk' => ?_, ?_, N8.go0 A9.mod (by simp; omega), by omega, rfl⟩
  ·have := hR8.base ad ha; simp at hk'; omega
  ·have h7 := hR.keep0 N7
   refine (h7.keep M8 fun ad ha hk' => ?_).keep A9.mod fun ad ha hk' => ?_
   ·obtain ⟨_, _, cur, hc⟩ := hrow _ hk'
    obtain ⟨_, cur', hc'⟩ := hR.block ad ha
    rw [hc] at hc'; cases hc'
   ·have := hR.base ad ha; simp at hk'; omega
def yjZ (m : PMail) : PMail := ⟨m.kind, m.fr, m.to, m.view, m.normal, m.last, m.commit, m.nonce, m.base, m.n, yn5 m.calls, ybW m.r⟩
theorem MailRd.keep0 {w w' : World} {m : PMail} {s f p : Sl} (h : MailRd w m s f p) (M : Mod [] w w') : MailRd w' m s f p := by
 obtain ⟨⟨ll, h1, h2, h3⟩, h4, h5⟩ := h
 exact ⟨⟨ll, h1.keep0 M, fun q hq => (h2 q hq).keep0 M, h3⟩, h4, h5.keep0 M⟩
theorem yAE {w : World} {m : PMail} {s f p : Sl} (h : MailRd w m s f p) :
  Calls pP 9 #[m.v s f p] w fun e w' => ∃ v, e = .returned v ∧ ∃ s' f' p' : Sl, v = (yjZ m).v s' f' p' ∧ MailOwn w' w.heap.size (yjZ m) s' f' p' ∧ Mod [] w w' := by
 refine yEp ?_
 intro b1 f1 b2 f2 b3 f3 w4 A4
 have l1 := A4.lt b1 (by simp)
 have l2 := A4.lt b2 (by simp)
 have l3 := A4.lt b3 (by simp)
 have s4 := A4.mod.size
 obtain ⟨ll, h1, h2, h3⟩ := (h.keep0 A4.mod).calls
 refine (yBS h1 h2 h.ws).mono ?_
 rintro _ w5 ⟨_, rfl, s', rfl, hC, M5⟩
 rw [h3] at hC
 have s5 := M5.size
 refine ⟨_, _, _, rfl, yaI.of0 M5, ?_⟩
 intro w9 A9
 have s9 := A9.mod.size
 have N9 : Mod [] w w9 := (A4.mod.go0 M5 (by simp)).go0 A9.mod (by simpa using f3)
 refine (ypL (h.keep0 N9).rep).mono ?_
 rintro _ w10 ⟨_, rfl, f', p', rfl, hR, M10⟩
 have s10 := M10.size
 refine ⟨_, _, _, _, _, _, _, _, _, _, rfl, yaI.of0 M10, ?_⟩
 intro w21 A21
 refine ⟨s', f', p', rfl, ⟨((hC.keepB A9.mod (by simp; omega)).keep0 M10).keepB A21.mod (by simp; omega) |>.rebase s4, (hR.keepB A21.mod (by simp; omega)).rebase (by omega)⟩, (N9.go0 M10 (by simp)).go0 A21.mod (by simp; omega)⟩
theorem yBT (m : PMail) : yjZ (yjZ m) = yjZ m := by
 have h1 := yAC m.calls
 have h2 := yvQ m.r
 simp only [yjZ, h1, h2]
theorem yc0 (n : Nat) (hn : n ≤ 1000) (s : ByteArray) : (yiB n s).size ≤ maxLen := by rw [ypK]; unfold maxLen; omega
theorem yHW {w : World} {B : Nat} {m : PMail} {s f p : Sl} (h : MailOwn w B (yjZ m) s f p) : MailRd w (yjZ m) s f p := by
 obtain ⟨ll, hR, hO, hx⟩ := h.calls
 have hn := hR.1
 have hl : ll.length ≤ 12 := by
  have := congrArg List.length hx
  rw [List.length_map] at this
  show ll.length ≤ 12
  rw [this]; show ((m.calls.take 12).map yC7).length ≤ 12
  rw [List.length_map, List.length_take]; omega
 have hrn := (h.rep.found).1
 have hpn := (h.rep.parts).1
 have hfl : (ybW m.r).found.length ≤ 70 := by show ((m.r.found.take 70).map yBK).length ≤ 70; rw [List.length_map, List.length_take]; omega
 have hpl : (ybW m.r).parts.length ≤ 70 := by show ((m.r.parts.take 70).map yvZ).length ≤ 70; rw [List.length_map, List.length_take]; omega
 refine ⟨⟨ll, hR.sl CV.cs_len, fun q hq => ?_, hx⟩, by unfold maxLen; omega, ⟨h.rep.found.sl yeB, h.rep.parts.sl yeC, ?_, ?_, ?_, ?_⟩⟩
 ·have hq2 : q.x ∈ yn5 m.calls := by rw [show yn5 m.calls = (yjZ m).calls from rfl, ← hx]; exact List.mem_map.2 ⟨q, hq, rfl⟩
  obtain ⟨c, hc, he⟩ := List.mem_map.1 hq2
  have ho : q.x.op = yvP c.op := by rw [← he]; rfl
  have hw := hO q hq
  have lr := hw.at.recs.1
  have lt := hw.at.topics.1
  have hl1 := hw.lr
  have hl2 := hw.lt
  refine ⟨hw.at.recs, hw.at.topics, by unfold maxLen; omega, by unfold maxLen; omega, ?_, ?_, ?_, ?_, ?_⟩
  ·intro r hr
   rw [ho] at hr
   obtain ⟨r0, _, rfl⟩ := List.mem_map.1 hr
   exact ⟨yc0 80 (by omega) _, yc0 600 (by omega) _⟩
  ·intro t ht
   rw [ho] at ht
   obtain ⟨t0, _, rfl⟩ := List.mem_map.1 ht
   exact yc0 40 (by omega) _
  ·rw [ho]; exact yc0 40 (by omega) _
  ·rw [ho]; exact yc0 40 (by omega) _
  ·rw [ho]; exact yc0 40 (by omega) _
 ·have : f.n = (ybW m.r).found.length := hrn
  unfold maxLen; omega
 ·have : p.n = (ybW m.r).parts.length := hpn
  unfold maxLen; omega
 ·intro y hy
  obtain ⟨y0, _, rfl⟩ := List.mem_map.1 hy
  exact ⟨yc0 80 (by omega) _, yc0 600 (by omega) _⟩
 ·intro y hy
  obtain ⟨y0, _, rfl⟩ := List.mem_map.1 hy
  exact yc0 40 (by omega) _
theorem yAF {w : World} {s : Sl} {xs : List PCall} (h : yeH w s xs) (hc : xs = []) : s.n = 0 := by
 obtain ⟨ll, h1, _, h3⟩ := h
 rw [hc] at h3
 have : ll = [] := by simpa using h3
 rw [h1.1, this]; rfl
theorem yjW {s : Sl} (hn : s.n = 0) (w : World) :
  Calls pP 32 #[.slice s.a s.n s.c] w fun e w' => e = .returned (.tuple #[.string (bs (yaL 0)), .int .i64 0]) ∧ Mod [] w w' := by
 obtain ⟨a, n, c⟩ := s
 have hn : n = 0 := hn
 subst hn
 refine yaQ (yEj ?_)
 refine yaC (fun g => absurd g (by show ¬ ((0 : Nat) : Int) > 4096; omega)) fun _ => ?_
 have chk : Calls pP 63 #[.slice a 0 c] w fun e w' => e = .returned (.int .i64 0) ∧ w' = w := by
  refine yaQ (yEh ?_)
  refine yuR (fun mm x w' => x = 0 ∧ w' = w) 0 ⟨rfl, rfl⟩ ?_
  rintro mm x w' ⟨rfl, rfl⟩
  refine yaC (fun g => absurd g (by decide)) fun _ => ?_
  refine yuS (fun mm x w2 => x = 0 ∧ w2 = w') 0 ⟨rfl, rfl⟩ ?_
  rintro mm x w2 ⟨rfl, rfl⟩
  exact yaC (fun g => absurd g (by decide)) fun _ => ⟨rfl, rfl⟩
 refine chk.mono ?_
 rintro _ w1 ⟨rfl, rfl⟩
 refine ⟨_, rfl, yaB (fun g => absurd g (by decide)) fun _ => ?_⟩
 refine (ygI (n := 0) (by omega) w1).mono ?_
 rintro _ w2 ⟨rfl, M2⟩
 refine ⟨_, rfl, ?_⟩
 refine yuT (fun mm t x w' => x = 0 ∧ t = bs (yaL 0) ∧ w' = w2) 0 ⟨rfl, rfl, rfl⟩ ?_
 rintro mm t x w3 ⟨rfl, rfl, rfl⟩
 exact yaC (fun g => absurd g (by show ¬ ((0 : Int) < ((0 : Nat) : Int)); omega)) fun _ => ⟨rfl, M2⟩
theorem ypM {w : World} {m : PMail} {s f p : Sl} (h : MailAt w m s f p) (hc : m.calls = []) :
  Calls pP 13 #[m.v s f p] w fun e w' => e = .returned (.int .i64 (ycD m)) ∧ Mod [] w w' := by
 refine yaQ (yEl ?_)
 intro b1 f1
 refine yaC (fun g1 => fun w2 A2 => ⟨by rw [ycD, if_pos (.inl g1)], A2.mod⟩) fun g1 => ?_
 refine yaC (fun g2 => fun w2 A2 => ⟨by rw [ycD, if_pos (.inr (by omega))], A2.mod⟩) fun g2 => ?_
 have hE : ycD m = if ((yaS m).all num) = false then 1 else if ycO m.calls ≠ 0 then ycO m.calls else yfA m.r := by rw [ycD, if_neg (by omega)]
 intro w4 A4
 refine (ym2 m s f p).mono ?_
 rintro e w5 ⟨_, rfl, c5, rfl, h5, M5⟩
 have N5 := A4.mod.go0 M5 (by simp)
 refine ⟨_, _, _, rfl, yaI.of0 M5, ?_⟩
 refine yuZ (fun mm x w' => ∃ k : Nat, x = k ∧ k ≤ 10 ∧ ((yaS m).take k).all num = true ∧ mm = 10 - k ∧ Mod [] w5 w') 10 ⟨0, rfl, by omega, by simp, rfl, Mod.refl _⟩ ?_
 rintro mm x w6 ⟨k, rfl, hk, hal, rfl, M6⟩
 have N6 := N5.go0 M6 (by simp)
 refine yaC (fun hlt => ?_) fun hge => ?_
 ·have hk' : k < 10 := by omega
  obtain ⟨x, hx⟩ : ∃ x, (yaS m)[k]? = some x := ⟨_, List.getElem?_eq_getElem (by simpa [yaS] using hk')⟩
  refine (h5.keep0 M6).ix hx fun q hq => yaD (x := x) (by simpa [add_zero] using hq 0 _ rfl) ?_
  refine (yfP x w6).mono ?_
  rintro _ w7 ⟨rfl, rfl⟩
  refine ⟨_, rfl, yaI.of0 (Mod.refl _), yaB (fun g3 => ⟨?_, N6⟩) fun g3 => ?_⟩
  ·rw [hE, if_pos]
   apply Bool.eq_false_iff.2
   intro hh
   have := List.all_eq_true.1 hh x (List.mem_of_getElem? hx)
   rw [this] at g3; cases g3
  ·exact yuY (10 - (k + 1)) (by omega) ⟨k + 1, by rw [yaG (by omega) (by omega)]; omega, by omega, by rw [yb5 hx, hal, yAJ g3]; rfl, rfl, M6⟩
 ·have hk' : k = 10 := by omega
  subst hk'
  rw [List.take_of_length_le (by simp [yaS])] at hal
  rw [hal, if_neg (by decide)] at hE
  have ht : ycO m.calls = 0 := by rw [hc]; decide
  refine (yjW (s := s) (yAF h.calls hc) w6).mono ?_
  rintro e w7 ⟨rfl, M7⟩
  have N7 := N6.go0 M7 (by simp)
  refine ⟨_, _, rfl, yaI.of0 M7, yaB (fun g => ?_) fun g => ?_⟩
  ·simp at g
  rw [if_neg (by simpa using ht)] at hE
  refine (ylO (h.rep.keep0 N7)).mono ?_
  rintro e w8 ⟨rfl, M8⟩
  exact ⟨_, _, rfl, yaI.of0 M8, by rw [hE], N7.go0 M8 (by simp)⟩
set_option maxHeartbeats 4000000 in
theorem yvR {w : World} {m : PMail} {s f p : Sl} (h : MailAt w m s f p) (hc : m.calls = []) :
  Calls pP 11 #[m.v s f p] w fun e w' => e = .returned (.tuple #[.string (if ybY m = 0 then yeJ m else bs []), .int .i64 (ybY m)]) ∧ Mod [] w w' := by
 refine yaQ (yEm ?_)
 intro b1 f1 w2 A2
 refine (ypM (h.keep0 A2.mod) hc).mono ?_
 rintro _ w3 ⟨rfl, M3⟩
 have N3 := A2.mod.go0 M3 (by simp)
 refine ⟨_, rfl, yaI.of0 M3, yaB (fun g => ?_) fun g => ?_⟩
 ·have g : ycD m ≠ 0 := by simpa using g
  have e : ybY m = ycD m := by rw [ybY, if_pos g]
  rw [e, if_neg g]; exact ⟨rfl, N3⟩
 have g : ycD m = 0 := by simpa using g
 obtain ⟨_, hn, ht, hr⟩ := ycL g
 have hE : ybY m = if (ybF m).length > 1048576 then 2 else 0 := by rw [ybY, if_neg (by simpa using g)]
 refine (ym2 m s f p).mono ?_
 rintro _ w4 ⟨_, rfl, c4, rfl, h4, M4⟩
 refine ⟨_, _, _, rfl, yaI.of0 M4, ?_⟩
 have N4 := N3.go0 M4 (by simp)
 refine yu1 (fun mm s5 x7 w' => ∃ k : Nat, x7 = k ∧ k ≤ 10 ∧ s5 = bs (((yaS m).take k).flatMap ylP) ∧ Mod [] w4 w' ∧ mm = 10 - k) 10 ⟨0, rfl, by omega, by simp [yFQ], Mod.refl _, rfl⟩ ?_
 rintro mm s5 x7 w5 ⟨k, rfl, hk, rfl, M5, rfl⟩
 have lk := yeY hn k
 have N5 := N4.go0 M5 (by simp)
 refine yaC (fun hlt => ?_) fun hge => ?_
 ·have hk' : k < 10 := by omega
  obtain ⟨x, hx⟩ : ∃ x, (yaS m)[k]? = some x := ⟨_, List.getElem?_eq_getElem (by simpa [yaS] using hk')⟩
  have hx1 := ygK hn hx
  have ls := yeX hx1
  have lv := (yaN x.toNat ls.1).2
  refine (h4.keep0 M5).ix hx fun q hq => yaD (x := x) (by simpa [add_zero] using hq 0 _ rfl) ?_
  rw [yHU hx1]
  refine (ygI ls.1 w5).mono ?_
  rintro _ w6 ⟨rfl, M6⟩
  refine ⟨_, rfl, yaI.of0 M6, by rw [yaE, yaE]; omega, ?_⟩
  rw [ybH]
  exact yu0 (10 - (k + 1)) (by omega) ⟨k + 1, by rw [yaG (by omega) (by omega)]; omega, by omega, by rw [ypH hx], M5.go0 M6 (by simp), rfl⟩
 ·have hk' : k = 10 := by omega
  subst hk'
  have e10 : (yaS m).take 10 = yaS m := List.take_of_length_le (by simp [yaS])
  rw [e10] at lk ⊢
  refine (yjW (s := s) (yAF h.calls hc) w5).mono ?_
  rw [show bs (yaL 0) = bs (ybJ m.calls) by rw [hc]; simp [ybJ]]
  rintro _ w6 ⟨rfl, M6⟩
  have N6 := N5.go0 M6 (by simp)
  refine ⟨_, _, rfl, yaI.of0 M6, ?_⟩
  refine (ylO (h.rep.keep0 N6)).mono ?_
  rw [hr, if_pos rfl]
  rintro _ w7 ⟨rfl, M7⟩
  refine ⟨_, _, rfl, yaI.of0 M7, ?_⟩
  have lt := yjT ht
  have lr : (ydF m.r).length ≤ 60000 := (RepGood.of hr).len3 m.r.parts.length
  refine (ycP (bs (ybJ m.calls)) (by rw [yaE]; omega) w7).mono ?_
  rintro _ w8 ⟨rfl, M8⟩
  refine ⟨_, rfl, yaI.of0 M8, ?_⟩
  refine (ycP (bs (ydF m.r)) (by rw [yaE]; omega) w8).mono ?_
  rintro _ w9 ⟨rfl, M9⟩
  have p1 := (ya0 (bs (ybJ m.calls)) (by rw [yaE]; omega)).2
  have p2 := (ya0 (bs (ydF m.r)) (by rw [yaE]; omega)).2
  rw [yaE] at p1 p2
  refine ⟨_, rfl, yaI.of0 M9, by rw [yaE, yaE]; omega, ?_⟩
  rw [ybH]
  refine ⟨by rw [yaE, yaE, List.length_append]; omega, ?_⟩
  rw [ybH]
  have eB : (yaS m).flatMap ylP ++ (ybP (bs (ybJ m.calls)) ++ ybP (bs (ydF m.r))) = ybF m := by rw [← List.append_assoc]; rfl
  rw [eB]
  have lB := ypG g
  have N9 : Mod [] w w9 := ((N6.go0 M7 (by simp)).go0 M8 (by simp)).go0 M9 (by simp)
  refine yaC (fun hbig => ?_) fun hbig => ?_
  ·rw [yaE] at hbig
   have e : ybY m = 2 := by rw [hE, if_pos (by omega)]
   rw [e]; exact ⟨rfl, N9⟩
  ·rw [yaE] at hbig
   have e : ybY m = 0 := by rw [hE, if_neg (by omega)]
   refine (yz2 (bs (ybF m)) (by rw [yaE]; omega) w9).mono ?_
   rintro _ w10 ⟨rfl, M10⟩
   refine ⟨_, rfl, yaI.of0 M10, ?_⟩
   rw [e, if_pos rfl]; exact ⟨rfl, N9.go0 M10 (by simp)⟩
theorem yI1 {w : World} {b bm k : Nat} (h : w.heap[bm]? = some (.cells #[.pointer (some ⟨b, 0, none⟩), .pointer (some ⟨b, 1, none⟩), .pointer (some ⟨b, 2, none⟩), .pointer (some ⟨b, 3, none⟩), .pointer (some ⟨b, 4, none⟩), .pointer (some ⟨b, 5, none⟩), .pointer (some ⟨b, 6, none⟩), .pointer (some ⟨b, 7, none⟩), .pointer (some ⟨b, 8, none⟩), .pointer (some ⟨b, 9, none⟩)] 63)) (hk : k < 10) : w.cell? (Addr.add ⟨bm, 0, none⟩ (Int.toNat (k : Nat) * 1)) = some (.pointer (some ⟨b, k, none⟩)) := by
 rw [ya1, yaY h]
 rcases (by omega : k = 0 ∨ k = 1 ∨ k = 2 ∨ k = 3 ∨ k = 4 ∨ k = 5 ∨ k = 6 ∨ k = 7 ∨ k = 8 ∨ k = 9) with rfl | rfl | rfl | rfl | rfl | rfl | rfl | rfl | rfl | rfl <;> rfl
theorem yEB {m m' : PMail} : m = m' ↔ yaS m = yaS m' ∧ m.calls = m'.calls ∧ m.r = m'.r := by
 obtain ⟨a1, a2, a3, a4, a5, a6, a7, a8, a9, a10, a11, a12⟩ := m
 obtain ⟨b1, b2, b3, b4, b5, b6, b7, b8, b9, b10, b11, b12⟩ := m'
 simp [yaS, and_assoc]
set_option maxHeartbeats 4000000 in
theorem ytL {w : World} {m m' : PMail} {s f p s' f' p' : Sl} (h : MailAt w m s f p) (h' : MailAt w m' s' f' p') (hl : m.calls.length ≤ 1000000) :
  Calls pP 14 #[m.v s f p, m'.v s' f' p'] w fun e w' => e = .returned (.bool (decide (m = m'))) ∧ Mod [] w w' := by
 refine yaQ (yEo ?_)
 intro b1 f1 b2 f2 w3 A3 h31
 have nd : b1 ≠ b2 := by have := A3.nd; simp at this; exact fun h => this h.symm
 have s3 := A3.mod.size
 have l1 := A3.lt b1 (by simp)
 have l2 := A3.lt b2 (by simp)
 refine (yo6 b1 w3).mono ?_
 rintro _ w4 ⟨rfl, M4⟩
 refine ⟨_, _, _, _, _, _, _, _, _, _, rfl, yaI.of0 M4, _, _, _, _, _, _, _, _, _, _, _, _, _, _, _, _, _, _, _, _, _, _, _, M4.keep0 h31, ?_⟩
 intro w5 A5 h51 h52
 refine (yo6 b2 w5).mono ?_
 rintro _ w6 ⟨rfl, M6⟩
 refine ⟨_, _, _, _, _, _, _, _, _, _, rfl, _, _, _, _, _, _, _, _, _, _, _, _, _, _, _, _, _, _, _, _, _, _, _, M6.keep0 h51, _, _, _, _, _, _, _, _, _, _, _, _, _, _, _, _, _, _, _, _, _, _, _, M6.keep0 h52, ?_⟩
 intro b3 f3 b4 f4 w7 A7 h71 h72 h73 h74
 have N7 : Mod [] w w7 := (((A3.mod.go0 M4 (by simp)).go0 A5.mod (by simp)).go0 M6 (by simp)).go0 A7.mod (by simp)
 have no : ∀ {w'}, m ≠ m' → Mod [] w w' → (Value.bool false = Value.bool (decide (m = m')) ∧ Mod [] w w') := fun hn M => ⟨congrArg Value.bool (decide_eq_false hn).symm, M⟩
 refine yu5 (fun mm x w' => ∃ k : Nat, x = k ∧ k ≤ 10 ∧ (yaS m).take k = (yaS m').take k ∧ Mod [] w7 w' ∧ mm = 10 - k) 10 ⟨0, rfl, by omega, by simp, Mod.refl _, rfl⟩ ?_
 rintro mm x w8 ⟨k, rfl, hk, ht, M8, rfl⟩ h81 h82 h83 h84
 have N8 := N7.go0 M8 (by simp)
 refine yaC (fun hlt => ?_) fun hge => ?_
 ·have hk : k < 10 := by omega
  obtain ⟨x, hx⟩ : ∃ x, (yaS m)[k]? = some x := ⟨_, List.getElem?_eq_getElem (by simpa [yaS] using hk)⟩
  obtain ⟨y, hy⟩ : ∃ y, (yaS m')[k]? = some y := ⟨_, List.getElem?_eq_getElem (by simpa [yaS] using hk)⟩
  refine ⟨by omega, by omega, yd7 (yI1 h83 hk) (yh9 (yaD (yd0 (s := s) (f := f) (p := p) h81 hx) ⟨by omega, by omega, yd7 (yI1 h84 hk) (yh9 (yaD (yd0 (s := s') (f := f') (p := p') h82 hy) ?_))⟩))⟩
  refine yaB (fun g => fun w9 A9 _ _ _ _ => no (fun e => ?_) (N8.go0 A9.mod (by simp))) fun g => fun w9 A9 _ _ _ _ => ?_
  ·subst e
   rw [hx] at hy
   have := Option.some.inj hy
   simp [this] at g
  ·have g : x = y := by simpa using g
   subst g
   exact yu4 (10 - (k + 1)) (by omega) ⟨k + 1, by rw [yaG (by omega) (by omega)]; omega, by omega, yb4 ht hx hy, M8.go0 A9.mod (by simp), rfl⟩
 ·have hk : k = 10 := by omega
  subst hk
  rw [List.take_of_length_le (by simp [yaS]), List.take_of_length_le (by simp [yaS])] at ht
  obtain ⟨la, hA, gA, eA⟩ := h.calls
  obtain ⟨lb, hB, gB, eB⟩ := h'.calls
  have hll : la.length ≤ 1000000 := by have := congrArg List.length eA; simp at this; omega
  refine (yBA (s := s) (t := s') (la := la) (lb := lb) ⟨hA.keep0 N8, fun q hq => (gA q hq).keep0 N8⟩ ⟨hB.keep0 N8, fun q hq => (gB q hq).keep0 N8⟩ hll).mono ?_
  rw [eA, eB]
  rintro _ w9 ⟨rfl, M9⟩
  have N9 := N8.go0 M9 (by simp)
  refine ⟨_, rfl, _, _, _, _, _, _, _, _, _, _, _, _, _, _, _, _, _, _, _, _, _, _, _, M9.keep0 h81, _, _, _, _, _, _, _, _, _, _, _, _, _, _, _, _, _, _, _, _, _, _, _, M9.keep0 h82, _, _, _, _, _, _, _, _, _, _, M9.keep0 h83, _, _, _, _, _, _, _, _, _, _, M9.keep0 h84, ?_⟩
  refine yaB (fun g => ?_) fun g => no (fun e => by simp [e] at g) N9
  have g : m.calls = m'.calls := by simpa using g
  refine (yBd (h.rep.keep0 N9) (h'.rep.keep0 N9)).mono ?_
  rintro _ w10 ⟨rfl, M10⟩
  refine ⟨_, rfl, _, _, _, _, _, _, _, _, _, _, _, _, _, _, _, _, _, _, _, _, _, _, _, M10.keep0 (M9.keep0 h81), _, _, _, _, _, _, _, _, _, _, _, _, _, _, _, _, _, _, _, _, _, _, _, M10.keep0 (M9.keep0 h82), _, _, _, _, _, _, _, _, _, _, M10.keep0 (M9.keep0 h83), _, _, _, _, _, _, _, _, _, _, M10.keep0 (M9.keep0 h84), ?_, N9.go0 M10 (by simp)⟩
  congr 1
  apply Bool.eq_iff_iff.2
  simp [yEB, ht, g]
def yjX : PMail := ⟨4, 0, 1, 2, 0, 0, 5, 0, 0, 0, [], yeG⟩
theorem yvS {x y : PMail} (hx : ybY x = 0) (hy : ybY y = 0) {r : List UInt8} (hr : r ≠ []) : bs (ycW (bs (ybF x)) ++ r) ≠ yeJ y := fun h => by
 have h := yi5 h
 obtain ⟨_, l1⟩ := ybZ hx
 obtain ⟨_, l2⟩ := ybZ hy
 have c1 := ykT (lim := 1048576) (bs (ybF x)) r (by rw [yaE]; omega) (by rw [yaE]; omega)
 have c2 := ykT (lim := 1048576) (bs (ybF y)) [] (by rw [yaE]; omega) (by rw [yaE]; omega)
 rw [List.append_nil] at c2
 rw [h, c2] at c1
 simp only [Option.some.injEq, Prod.mk.injEq] at c1
 have e := yi5 c1.1
 rw [e] at h
 have := congrArg List.length h
 rw [List.length_append] at this
 exact hr (List.eq_nil_of_length_eq_zero (by omega))
theorem yvT {m : PMail} (hn : (yaS m).all num = true) (hk : 0 ≤ m.kind ∧ m.kind < 12) (hc : m.calls = []) (hr : m.r = yeG) : ybY m = 0 ∧ (ybF m).length ≤ 100000 := by
 have ht : ycO m.calls = 0 := by rw [hc]; decide
 have hre : yfA m.r = 0 := by rw [hr]; decide
 have hE : ycD m = 0 := by
  rw [ycD, if_neg (by omega), if_neg (by rw [hn]; decide), if_neg (by simpa using ht), hre]
 have l1 := yeY hn 10
 rw [List.take_of_length_le (by rw [ygJ]; omega)] at l1
 have l2 : (ybJ m.calls).length ≤ 10 := by
  rw [hc]
  have := (yaN 0 (by omega)).2
  simpa [ybJ] using this
 have l3 : (ydF m.r).length ≤ 60000 := (RepGood.of hre).len3 m.r.parts.length
 have p2 := (ya0 (bs (ybJ m.calls)) (by rw [yaE]; omega)).2
 have p3 := (ya0 (bs (ydF m.r)) (by rw [yaE]; omega)).2
 rw [yaE] at p2 p3
 have hl : (ybF m).length ≤ 100000 := by unfold ybF; rw [List.length_append, List.length_append]; omega
 exact ⟨by rw [ybY, if_neg (by simpa using hE), if_neg (by omega)], hl⟩
theorem yvU {m : PMail} (hl : (ybF m).length ≤ 1048576) : (yeJ m).size ≤ (ybF m).length + 14 := by
 unfold yeJ
 rw [yaE, ygW]
 have := (ya0 (bs (ybF m)) (by rw [yaE]; omega)).2
 rw [yaE] at this; omega
theorem ytM (w : World) (m : PMail) (hc : m.calls = []) (hr : m.r = yeG) : MailAt w m ybL ybL ybL :=
 ⟨by rw [hc]; exact ⟨[], (Row.nil w 0 51 16 CV.cs).sl CV.cs_len, by simp, rfl⟩, by rw [hr]; exact ⟨(Row.nil w 0 55 5 yhT).sl yeB, (Row.nil w 0 43 2 yi1).sl yeC, by simp [yeG], by simp [yeG]⟩⟩
set_option maxHeartbeats 4000000 in
theorem yvV (w : World) : Calls pP 16 #[] w fun e w' => e = .returned (.bool true) ∧ Mod [] w w' := by
 refine yaQ (yEq ?_)
 obtain ⟨hE, hL⟩ := yvT (m := yjX) (by decide) (by decide) rfl rfl
 have hsz := yvU (m := yjX) (by omega)
 have cat : ∀ w', MailAt w' yjX ybL ybL ybL := fun w' => ytM w' yjX rfl rfl
 intro b1 f1 w2 A2
 refine (yrP (cat w2) (by simp [yjX])).mono ?_
 rintro _ w3 ⟨rfl, M3⟩
 refine ⟨_, _, rfl, yaI.of0 M3, ?_⟩
 rw [hE, if_pos rfl]
 have N3 := A2.mod.go0 M3 (by simp)
 refine (yAz (s := yeJ yjX) (by omega) w3).mono ?_
 rintro _ w4 ⟨v, rfl, hv, M4⟩
 have hv : ∃ s1 f1 p1 : Sl, v = .tuple #[yjX.v s1 f1 p1, .int .i64 0] ∧ MailOwn w4 w3.heap.size yjX s1 f1 p1 := by
  rcases hv with ⟨m, s1, f1, p1, h1, h2, rfl, h3, _⟩ | ⟨h, _⟩
  ·have he : yjX = m := by
    have hm := yAq hE h1 h2
    have X : yeP (bs (ybF yjX)) yjX := ⟨hE, ydP _⟩
    have Y : yeP (bs (ybF yjX)) m := ⟨h1, by rw [ydP, hm]⟩
    exact yvM X Y
   subst he
   exact ⟨s1, f1, p1, rfl, h3⟩
  ·exact absurd rfl (h yjX hE)
 obtain ⟨s4, f4, p4, rfl, O4⟩ := hv
 refine ⟨_, _, _, _, _, _, _, _, _, _, _, _, _, _, _, _, _, _, _, _, _, _, _, _, rfl, yaI.of0 M4, ?_⟩
 have N4 := N3.go0 M4 (by simp)
 intro b5 f5
 refine ⟨by show (yeJ yjX).size + 1 ≤ _; omega, ?_⟩
 intro w6 A6
 have ex : yeJ yjX ++ (⟨#[120]⟩ : ByteArray) = bs (ycW (bs (ybF yjX)) ++ [120]) := by
  rw [yeJ, ← ybH]; rfl
 refine (yAz (s := yeJ yjX ++ (⟨#[120]⟩ : ByteArray)) (by rw [ByteArray.size_append]; show _ + 1 ≤ _; omega) w6).mono ?_
 rintro _ w7 ⟨v, rfl, hv, M7⟩
 have hv : v = .tuple #[ymK.v ybL ybL ybL, .int .i64 180] := by
  rcases hv with ⟨m, s1, f1, p1, h1, h2, _⟩ | ⟨_, h⟩
  ·rw [ex] at h2
   exact absurd h2 (yvS hE h1 (by simp))
  ·exact h
 subst hv
 refine ⟨_, _, _, _, _, _, _, _, _, _, _, _, _, _, _, _, _, _, _, _, _, _, _, _, rfl, yaI.of0 M7, ?_⟩
 have N7 := (N4.go0 A6.mod (by simp)).go0 M7 (by simp)
 intro b8 f8 w8 A8
 have hbad : ybY (⟨12, 0, 0, 0, 0, 0, 0, 0, 0, 0, [], yeG⟩ : PMail) = 180 := by
  have : ycD (⟨12, 0, 0, 0, 0, 0, 0, 0, 0, 0, [], yeG⟩ : PMail) = 180 := by rw [ycD, if_pos (.inr (by decide))]
  rw [ybY, if_pos (by rw [this]; decide), this]
 refine (yrP (ytM w8 ⟨12, 0, 0, 0, 0, 0, 0, 0, 0, 0, [], yeG⟩ rfl rfl) (by simp)).mono ?_
 rintro _ w9 ⟨rfl, M9⟩
 refine ⟨_, _, rfl, yaI.of0 M9, ?_⟩
 rw [hbad]
 have N9 := (N7.go0 A8.mod (by simp)).go0 M9 (by simp)
 refine (yvR (cat w9) rfl).mono ?_
 rintro _ w10 ⟨rfl, M10⟩
 refine ⟨_, _, rfl, yaI.of0 M10, ?_⟩
 rw [hE, if_pos rfl]
 refine (yCy (cat w10) (by simp [yjX])).mono ?_
 rintro _ w11 ⟨_, rfl, s11, f11, p11, rfl, O11, M11⟩
 refine ⟨_, _, _, _, _, _, _, _, _, _, _, _, _, _, _, _, _, _, _, _, _, _, _, rfl, yaI.of0 M11, ?_⟩
 have N11 := (N9.go0 M10 (by simp)).go0 M11 (by simp)
 intro b12 f12
 refine brT rfl (brT (by rw [yf9]; simp) (brT rfl (brT rfl ?_)))
 intro w12 A12
 have K12 : Mod [] w4 w12 := (((((((A6.mod.trans M7).trans A8.mod).trans M9).trans M10).trans M11).trans A12.mod).less (by simp))
 have O12 := O4.keep0 K12
 refine (ym3 (cat w12) O12.at (by simp [yjX])).mono ?_
 rintro _ w13 ⟨rfl, M13⟩
 refine ⟨_, rfl, yaI.of0 M13, brT (by simp) (brT rfl (brT rfl ?_))⟩
 refine (ytL (cat w13) (O12.keep0 M13).at (by simp [yjX])).mono ?_
 rintro _ w14 ⟨rfl, M14⟩
 refine ⟨_, rfl, yaI.of0 M14, brT (by simp) ?_⟩
 refine (ytL (cat w14) (ytM w14 ymK rfl rfl) (by simp [yjX])).mono ?_
 rintro _ w15 ⟨rfl, M15⟩
 refine ⟨_, rfl, yaI.of0 M15, brT (by simp [yjX, ymK]) ?_⟩
 have O15 := (((O11.keep0 A12.mod).keep0 M13).keep0 M14).keep0 M15
 refine (ym3 O15.at (cat w15) (by simp [yjX])).mono ?_
 rintro _ w16 ⟨rfl, M16⟩
 refine ⟨_, rfl, yaI.of0 M16, brT (by simp) ?_⟩
 have hneg : ycD (⟨0, 0, 0, -1, 0, 0, 0, 0, 0, 0, [], yeG⟩ : PMail) = 1 := by
  rw [ycD, if_neg (by decide), if_pos (by decide)]
 refine (yjS ((ytM w16 ⟨0, 0, 0, -1, 0, 0, 0, 0, 0, 0, [], yeG⟩ rfl rfl).w (by simp))).mono ?_
 rintro _ w17 ⟨rfl, M17⟩
 refine ⟨_, rfl, yaI.of0 M17, ?_, ?_⟩
 ·rw [hneg]; rfl
 ·exact (((((N11.go0 A12.mod (by simp)).go0 M13 (by simp)).go0 M14 (by simp)).go0 M15 (by simp)).go0 M16 (by simp)).go0 M17 (by simp)
theorem yIy {w0 w : World} (N : Mod [] w0 w) {bs : List Nat} : Calls pP 16 #[] w fun e w' => ∃ t : Bool, e = .returned (.bool t) ∧ yaI bs w w' ∧ (Value.bool t = .bool true ∧ Mod [] w0 w') := by
 refine (yvV w).mono ?_
 rintro _ w1 ⟨rfl, M1⟩
 exact ⟨_, rfl, yaI.of0 M1, rfl, N.go0 M1 (by simp)⟩
theorem yrQ (m : PMail) : (yjZ m).calls.length ≤ 12 := by
 show ((m.calls.take 12).map yC7).length ≤ 12
 rw [List.length_map, List.length_take]; omega
def ygN : Value → Value → Prop
 | .int k _, v' => ∃ x, v' = .int k x
 | .string _, v' => ∃ s, v' = .string s
 | v, v' => v' = v
theorem ygN.refl (v : Value) : ygN v v := by cases v <;> simp [ygN]
def KI (w0 w : World) : Prop := ∀ (b : Nat) (c : Array Value) (T : TypeId) (z : Nat × Nat), w0.heap[b]? = some (.cells c T z) → ∃ c' : Array Value, w.heap[b]? = some (.cells c' T z) ∧ ∀ (i : Nat) (v : Value), c[i]? = some v → ∃ v', c'[i]? = some v' ∧ ygN v v'
theorem KI.refl (w : World) : KI w w := fun b c T z h => ⟨c, h, fun i v hv => ⟨v, hv, ygN.refl v⟩⟩
theorem KI.mod0 {w0 w w' : World} (h : KI w0 w) (M : Mod [] w w') : KI w0 w' := fun b c T z hb => by
 obtain ⟨c', h1, h2⟩ := h b c T z hb; exact ⟨c', M.keep0 h1, h2⟩
theorem KI.cell {w0 w : World} (h : KI w0 w) {a : Addr} {v : Value} (hv : w0.cell? a = some v) : ∃ v', w.cell? a = some v' ∧ ygN v v' := by
 unfold World.cell? at hv
 split at hv
 ·rename_i c T z hb
  split at hv
  ·cases hv
  ·rename_i hs
   obtain ⟨c', h1, h2⟩ := h _ _ _ _ hb
   obtain ⟨v', h3, h4⟩ := h2 _ _ hv
   refine ⟨v', ?_, h4⟩
   unfold World.cell?; rw [h1]; simp only [if_neg hs]; exact h3
 ·cases hv
theorem KI.frozen {w0 w : World} (h : KI w0 w) {a : Addr} {v : Value} (hv : w0.cell? a = some v) (hf : w0.frozen? a = false) : w.frozen? a = false := by
 unfold World.cell? at hv
 split at hv
 ·rename_i c T z hb
  obtain ⟨c', h1, h2⟩ := h _ _ _ _ hb
  unfold World.frozen? at hf ⊢
  rw [hb] at hf; rw [h1]; exact hf
 ·cases hv
theorem KI.set {w0 w : World} (h : KI w0 w) {a : Addr} {v0 v : Value} (hv : w0.cell? a = some v0) (hk : ygN v0 v) : KI w0 (w.setCell a v) := fun b c T z hb => by
 obtain ⟨c', h1, h2⟩ := h b c T z hb
 by_cases e : b = a.block
 ·subst e
  unfold World.cell? at hv
  rw [hb] at hv
  simp only at hv
  split at hv
  ·cases hv
  rename_i hs
  refine ⟨c'.setIfInBounds a.off v, ?_, fun i u hu => ?_⟩
  ·simp [World.setCell, Array.getElem?_modify, h1, hs]
  ·by_cases ei : i = a.off
   ·subst ei
    rw [hv] at hu; cases hu
    obtain ⟨v', h3, h4⟩ := h2 _ _ hv
    have hlt : a.off < c'.size := (Array.getElem?_eq_some_iff.1 h3).1
    exact ⟨v, by simp [Array.getElem?_setIfInBounds, hlt], hk⟩
   ·obtain ⟨v', h3, h4⟩ := h2 i u hu
    exact ⟨v', by rw [Array.getElem?_setIfInBounds, if_neg (fun h => ei h.symm)]; exact h3, h4⟩
 ·refine ⟨c', ?_, h2⟩
  have := (yfL w a v).keep h1 (by simpa using e)
  exact this
theorem yHX {w0 w : World} {a : Addr} {v0 v : Value} {F : World → Prop} (h : KI w0 w) (hv : w0.cell? a = some v0) (hf : w0.frozen? a = false) (hk : ygN v0 v) (hl : ypT v = true) (hF : ∀ w', KI w0 w' → Mod [a.block] w w' → F w') : st w a [v] F := by
 obtain ⟨v', h1, _⟩ := h.cell hv
 have e : a.add 0 = a := add_zero a
 refine ⟨hl, by rw [e, h1]; rfl, by rw [e]; exact h.frozen hv hf, ?_⟩
 rw [e]
 exact hF _ (h.set hv hk) (yfL w a v)
theorem Row.ixO {α : Type} {w0 : World} {B T sz : Nat} {enc : α → List Value} {a : Option Addr} {n c : Nat} {l : List α} {i : Nat} {x : α} {F : Addr → Prop} (h : Row w0 B T sz enc a n c l) (hs : ∀ x, (enc x).length = sz) (hx : l[i]? = some x)
  (hF : ∀ q, (∀ j v, (enc x)[j]? = some v → w0.cell? (q.add j) = some v) → (∀ j, B ≤ (q.add j).block ∧ (q.add j).block < w0.heap.size ∧ w0.frozen? (q.add j) = false) → F q) : ixA a n (i : Int) sz F := by
 obtain ⟨hn, hc⟩ := h.sl hs
 obtain ⟨ad, ha, hc⟩ := hc i x hx
 have hl := (List.getElem?_eq_some_iff.1 hx).1
 obtain ⟨h1, cur, h2⟩ := h.block ad ha
 refine ⟨ad, ha, by omega, by rw [hn]; omega, hF _ (by simpa using hc) fun j => ?_⟩
 have e : (Addr.add (Addr.add ad (Int.toNat (i : Int) * sz)) j).block = ad.block := by rw [ypD, ypD]
 refine ⟨by rw [e]; exact h1, by rw [e]; exact yaT h2, ?_⟩
 unfold World.frozen?; rw [e, h2]; simp
def Spo (w0 w1 : World) (B L : Nat) (w : World) : Prop := KI w0 w ∧ Mod (List.range' B (L - B)) w1 w
theorem Spo.mod0 {w0 w1 w w' : World} {B L : Nat} (h : Spo w0 w1 B L w) (M : Mod [] w w') : Spo w0 w1 B L w' := ⟨h.1.mod0 M, (h.2.trans M).less fun k hk _ => by simpa using hk⟩
theorem Spo.st {w0 w1 w : World} {B L : Nat} {a : Addr} {v0 v : Value} {F : World → Prop} (h : Spo w0 w1 B L w) (hv : w0.cell? a = some v0) (hf : B ≤ a.block ∧ a.block < L ∧ w0.frozen? a = false) (hk : ygN v0 v) (hl : ypT v = true) (hF : ∀ w', Spo w0 w1 B L w' → Mod [a.block] w w' → F w') : st w a [v] F :=
 yHX h.1 hv hf.2.2 hk hl fun w' k M => hF w' ⟨k, (h.2.trans M).less fun i hi _ => by
  rcases List.mem_append.1 hi with hi | hi
  ·exact hi
  ·simp at hi; subst hi; rw [List.mem_range'_1]; omega⟩ M
theorem Spo.int {w0 w1 w : World} {B L : Nat} (h : Spo w0 w1 B L w) {a : Addr} {k : IntKind} {x : Int} {F : Int → Prop} (hv : w0.cell? a = some (.int k x)) (hF : ∀ y, F y) : yaF k w a F := by
 obtain ⟨v', h1, y, rfl⟩ := h.1.cell hv
 exact yaD h1 (hF y)
theorem Spo.sl {w0 w1 w : World} {B L : Nat} (h : Spo w0 w1 B L w) {a : Addr} {x : Option Addr} {n c : Nat} {F : Option Addr → Nat → Nat → Prop} (hv : w0.cell? a = some (.slice x n c)) (hF : F x n c) : yaR w a F := by
 obtain ⟨v', h1, h2⟩ := h.1.cell hv
 have h2 : v' = .slice x n c := h2
 subst h2
 exact ya9 h1 hF
theorem Mod.keep3 {w w' : World} {b : Nat} {bs : List Nat} (M : Mod [b] w w') (h : ∀ k ∈ bs, k ≠ b) : yaI bs w w' := yaI.of M fun k hk _ => by simpa using h k hk
set_option maxHeartbeats 4000000 in
theorem yBU {m : PMail} {s f p : Sl} (w : World) (h : MailRd w m s f p) :
  Calls pP 7 #[m.v s f p] w fun e w' => e = .returned (.bool true) ∧ Mod [] w w' := by
 refine yaQ (yEr ?_)
 intro b1 f1 w2 A2
 have s2 := A2.mod.size
 have l1 := A2.lt b1 (by simp)
 refine (yAE (h.keep0 A2.mod)).mono ?_
 rintro _ w3 ⟨_, rfl, sa, fa, pa, rfl, hA, M3⟩
 have s3 := M3.size
 refine ⟨_, _, _, _, _, _, _, _, _, _, _, _, _, _, _, _, _, _, _, _, _, _, _, rfl, yaI.of0 M3, ?_⟩
 intro w4 A4
 have s4 := A4.mod.size
 have hA4 := hA.keepB A4.mod (by simp; omega)
 have N4 : Mod [] w w4 := (A2.mod.go0 M3 (by simp)).go0 A4.mod (by simpa using f1)
 refine (yAE (yHW hA4)).mono ?_
 rintro _ w5 ⟨_, rfl, sb, fb, pb, rfl, hB, M5⟩
 rw [yBT] at hB ⊢
 have s5 := M5.size
 refine ⟨_, _, _, _, _, _, _, _, _, _, _, _, _, _, _, _, _, _, _, _, _, _, _, rfl, yaI.of0 M5, ?_⟩
 intro b6 f6 w6 A6
 have s6 := A6.mod.size
 have l6 := A6.lt b6 (by simp)
 have hA6 := (hA4.keep0 M5).keep0 A6.mod
 have hB6 := hB.keep0 A6.mod
 have K6 : Mod [] w4 w6 := M5.go0 A6.mod (by simp)
 refine (yCy hA6.at (by have := yrQ m; omega)).mono ?_
 rintro _ w7 ⟨_, rfl, sc, fc, pc, rfl, hC, M7⟩
 have s7 := M7.size
 refine ⟨_, _, _, _, _, _, _, _, _, _, _, _, _, _, _, _, _, _, _, _, _, _, _, rfl, yaI.of0 M7, ?_⟩
 intro b8 f8 w8 A8
 have s8 := A8.mod.size
 have l8 := A8.lt b8 (by simp)
 have K8 : Mod [] w4 w8 := (K6.go0 M7 (by simp)).go0 A8.mod (by simp)
 have hA8 := (hA6.keep0 M7).keep0 A8.mod
 have hB8 := (hB6.keep0 M7).keep0 A8.mod
 have hC8 := hC.keep0 A8.mod
 obtain ⟨⟨ll, hll, hop, hcs⟩, hrep⟩ := hA4
 have hn := (hll.sl CV.cs_len).1
 have hpn := (hrep.parts.sl yeC).1
 have hfn := (hrep.found.sl yeB).1
 have hlen : ll.length ≤ 12 := by have := congrArg List.length hcs; rw [List.length_map] at this; have := yrQ m; omega
 have lf := hrep.lf
 have lp := hrep.lp
 have S8 : Spo w4 w8 w2.heap.size w4.heap.size w8 := ⟨(KI.refl w4).mod0 K8, (Mod.refl w8).less (by simp)⟩
 have kp : ∀ {a : Addr} {x x' : World}, Mod [a.block] x x' → (w2.heap.size ≤ a.block ∧ a.block < w4.heap.size ∧ w4.frozen? a = false) → yaI [b1, b6, b8] x x' := fun M hb => M.keep3 fun k hk => by
  obtain ⟨h1, h2, _⟩ := hb
  simp at hk; omega
 have fin : ∀ {w9 : World}, Spo w4 w8 w2.heap.size w4.heap.size w9 → MailOwn w9 w4.heap.size (yjZ m) sb fb pb ∧ MailOwn w9 w6.heap.size (yjZ m) sc fc pc ∧ Mod [] w w9 := fun h9 => by
  have hB9 := hB8.keepB h9.2 (fun k hk => by rw [List.mem_range'_1] at hk; omega)
  have hC9 := hC8.keepB h9.2 (fun k hk => by rw [List.mem_range'_1] at hk; omega)
  have := N4.size
  exact ⟨hB9, hC9, (N4.go0 K8 (by simp)).go0 h9.2 fun k hk => by have := A2.mod.size; rw [List.mem_range'_1] at hk; omega⟩
 refine yu7 (fun mm x w' => ∃ k : Nat, x = k ∧ k ≤ ll.length ∧ Spo w4 w8 w2.heap.size w4.heap.size w' ∧ mm = ll.length - k) ll.length ⟨0, rfl, by omega, S8, rfl⟩ ?_
 rintro mm x w9 ⟨k, rfl, hk, S9, rfl⟩
 refine yaC (fun hlt => ?_) fun hge => ?_
 ·obtain ⟨q, hq⟩ : ∃ q, ll[k]? = some q := ⟨_, List.getElem?_eq_getElem (by omega)⟩
  have hQ := hop q (List.mem_of_getElem? hq)
  have ht := (hQ.topics.sl yh8).1
  have hr := (hQ.recs.sl yh7).1
  have lt := hQ.lt
  have lr := hQ.lr
  refine hll.ixO CV.cs_len hq fun q1 hc1 hb1 => ?_
  intro w10 A10
  refine (S9.mod0 A10.mod).int (hc1 1 _ rfl) fun y => ?_
  refine hll.ixO CV.cs_len hq fun q2 hc2 hb2 => ?_
  refine (S9.mod0 A10.mod).st (hc2 1 _ rfl) (hb2 1) ⟨_, rfl⟩ rfl fun w11 S11 M11 => ⟨kp M11 (hb2 1), ?_⟩
  refine yu9 (fun mm x w' => ∃ j : Nat, x = j ∧ j ≤ q.x.op.topics.length ∧ Spo w4 w8 w2.heap.size w4.heap.size w' ∧ mm = q.x.op.topics.length - j) q.x.op.topics.length ⟨0, rfl, by omega, S11, rfl⟩ ?_
  rintro mm x w12 ⟨j, rfl, hj, S12, rfl⟩
  refine hll.ixO CV.cs_len hq fun q3 hc3 hb3 => ?_
  refine S12.sl (by rw [ycB]; exact hc3 15 _ rfl) ?_
  refine yaC (fun hlt2 => ?_) fun hge2 => ?_
  ·obtain ⟨z, hz⟩ : ∃ z, q.x.op.topics[j]? = some z := ⟨_, List.getElem?_eq_getElem (by omega)⟩
   refine hll.ixO CV.cs_len hq fun q4 hc4 hb4 => ?_
   refine S12.sl (by rw [ycB]; exact hc4 15 _ rfl) ?_
   refine hQ.topics.ixO yh8 hz fun q5 hc5 hb5 => ?_
   have hb5 := hb5 0
   have hc5 := hc5 0 _ rfl
   rw [add_zero] at hb5 hc5
   refine S12.st hc5 hb5 ⟨_, rfl⟩ rfl fun w13 S13 M13 => ⟨kp M13 hb5, ?_⟩
   exact yu8 (q.x.op.topics.length - (j + 1)) (by omega) ⟨j + 1, by rw [yaG (by omega) (by omega)]; omega, by omega, S13, rfl⟩
  ·refine yvB (fun mm x w' => ∃ j : Nat, x = j ∧ j ≤ q.x.op.b.recs.length ∧ Spo w4 w8 w2.heap.size w4.heap.size w' ∧ mm = q.x.op.b.recs.length - j) q.x.op.b.recs.length ⟨0, rfl, by omega, S12, rfl⟩ ?_
   rintro mm x w13 ⟨j3, rfl, hj3, S13, rfl⟩
   refine hll.ixO CV.cs_len hq fun q4 hc4 hb4 => ?_
   refine S13.sl (by rw [ycB, ycB]; exact hc4 10 _ rfl) ?_
   refine yaC (fun hlt3 => ?_) fun hge3 => ?_
   ·obtain ⟨z, hz⟩ : ∃ z, q.x.op.b.recs[j3]? = some z := ⟨_, List.getElem?_eq_getElem (by omega)⟩
    refine hll.ixO CV.cs_len hq fun q5 hc5 hb5 => ?_
    refine S13.sl (by rw [ycB, ycB]; exact hc5 10 _ rfl) ?_
    refine hQ.recs.ixO yh7 hz fun q6 hc6 hb6 => ?_
    refine S13.st (hc6 1 _ rfl) (hb6 1) ⟨_, rfl⟩ rfl fun w14 S14 M14 => ⟨kp M14 (hb6 1), ?_⟩
    exact yvA (q.x.op.b.recs.length - (j3 + 1)) (by omega) ⟨j3 + 1, by rw [yaG (by omega) (by omega)]; omega, by omega, S14, rfl⟩
   ·exact yu6 (ll.length - (k + 1)) (by omega) ⟨k + 1, by rw [yaG (by omega) (by omega)]; omega, by omega, S13, rfl⟩
 ·refine yvD (fun mm x w' => ∃ k : Nat, x = k ∧ k ≤ (yjZ m).r.parts.length ∧ Spo w4 w8 w2.heap.size w4.heap.size w' ∧ mm = (yjZ m).r.parts.length - k) (yjZ m).r.parts.length ⟨0, rfl, by omega, S9, rfl⟩ ?_
  rintro mm x w10 ⟨k4, rfl, hk4, S10, rfl⟩
  refine yaC (fun hlt => ?_) fun hge => ?_
  ·obtain ⟨z, hz⟩ : ∃ z, (yjZ m).r.parts[k4]? = some z := ⟨_, List.getElem?_eq_getElem (by omega)⟩
   refine hrep.parts.ixO yeC hz fun q1 hc1 hb1 => ?_
   intro w11 A11
   refine (S10.mod0 A11.mod).int (hc1 1 _ rfl) fun y => ?_
   refine hrep.parts.ixO yeC hz fun q2 hc2 hb2 => ?_
   refine (S10.mod0 A11.mod).st (hc2 1 _ rfl) (hb2 1) ⟨_, rfl⟩ rfl fun w12 S12 M12 => ⟨kp M12 (hb2 1), ?_⟩
   exact yvC ((yjZ m).r.parts.length - (k4 + 1)) (by omega) ⟨k4 + 1, by rw [yaG (by omega) (by omega)]; omega, by omega, S12, rfl⟩
  ·refine yvF (fun mm x w' => ∃ k : Nat, x = k ∧ k ≤ (yjZ m).r.found.length ∧ Spo w4 w8 w2.heap.size w4.heap.size w' ∧ mm = (yjZ m).r.found.length - k) (yjZ m).r.found.length ⟨0, rfl, by omega, S10, rfl⟩ ?_
   rintro mm x w11 ⟨k5, rfl, hk5, S11, rfl⟩
   refine yaC (fun hlt => ?_) fun hge => ?_
   ·obtain ⟨z, hz⟩ : ∃ z, (yjZ m).r.found[k5]? = some z := ⟨_, List.getElem?_eq_getElem (by omega)⟩
    refine hrep.found.ixO yeB hz fun q1 hc1 hb1 => ?_
    have hc1 := hc1 0 _ rfl
    rw [add_zero] at hc1
    intro w12 A12
    refine (S11.mod0 A12.mod).int hc1 fun y => ?_
    refine hrep.found.ixO yeB hz fun q2 hc2 hb2 => ?_
    have hb2 := hb2 0
    have hc2 := hc2 0 _ rfl
    rw [add_zero] at hb2 hc2
    refine (S11.mod0 A12.mod).st hc2 hb2 ⟨_, rfl⟩ rfl fun w13 S13 M13 => ⟨kp M13 hb2, ?_⟩
    exact yvE ((yjZ m).r.found.length - (k5 + 1)) (by omega) ⟨k5 + 1, by rw [yaG (by omega) (by omega)]; omega, by omega, S13, rfl⟩
   ·obtain ⟨hB9, hC9, N9⟩ := fin S11
    refine (ym3 hC9.at hB9.at (by have := yrQ m; omega)).mono ?_
    rintro _ w12 ⟨rfl, M12⟩
    exact ⟨_, rfl, yaI.of0 M12, brT (by simp) (yIy (N9.go0 M12 (by simp)))⟩
end Go.Proofs.YtkbcmppbjfpjmaaGreat
namespace Go.Proofs.YtkbcmppbjfpjmaaGreat.messageOwn
open Go.ChangeShapes Go.WideShapes Go.ChangeAt Go.RowKit
open Go.ChangeMaps (open_string shut_string)
set_option linter.unusedVariables false
theorem own : ownKnob Tryz.prog.godebug = none := by kernel_rfl
theorem laidOut : laidOutB Tryz.prog = true := by kernel_rfl
set_option maxRecDepth 100000 in
theorem lifted (os : Os) (started : os.Started) (H : Type) (enc : TypeId × Value → H) :
    ReturnsInHanded {} Tryz.checked os 7 .any (Rows.messageOwnSpec.pre6 enc Tryz.prog Tryz.f7 Rows.messageOwnRow.domain false) (Rows.messageOwnSpec.post enc Tryz.prog Tryz.f7 false true false false) := by
  refine returnsInHanded_of_change (C := Tryz.checked) own started (by kernel_rfl) Tryz.func7
    (ChangeSpec.witness6 (enc := enc) (C := Tryz.checked) false ⟨#[], #[.agg #[.int .i64 0, .int .i64 0, .int .i64 0, .int .i64 0, .int .i64 0, .int .i64 0, .int .i64 0, .int .i64 0, .int .i64 0, .int .i64 0, .slice none 0 0, .int .i64 0, .int .i64 0, .int .i64 0, .int .i64 0, .slice none 0 0, .slice none 0 0]], []⟩ 8 (by kernel_rfl) (by kernel_rfl) (by kernel_rfl) (by kernel_rfl)) ?_
  intro W base args ds gs before hval0 hW hcnd _
  have hval : ∀ (j : Nat) t v, Tryz.f7.params[j]? = some t → args[j]? = some v → Value.okWide Tryz.prog W .any base t v := hval0
  have hW' := hW
  obtain ⟨p, q, hA0, hV, rfl, hfz, hnd⟩ := hW
  have hA : DataW.TrodAll enc Tryz.prog W 0 (fun _ => true) true Tryz.f7.params.toList args.toList ds p := hA0
  rw [Tryz.params7] at hA hval
  obtain ⟨v0, vs0, d0, ds0, p0, q0, hargs, rfl, rfl, h0, r0⟩ := trodAll_cons hA
  obtain ⟨rfl, rfl, rfl⟩ := trodAll_nil r0
  obtain rfl : args = #[v0] := by cases args; simp_all
  obtain ⟨rfl, rfl⟩ := trodVars_none hV
  have k0 := h0
  have lt0 : ∀ x ∈ p0, x.block < W.heap.size := by obtain ⟨m, hm⟩ := k0; exact DataW.trod_lt m _ _ _ hm
  obtain ⟨cs0, rfl, sz0⟩ := okWide_struct Tryz.underlying29 (hval 0 29 v0 rfl rfl)
  obtain ⟨fuel0, hf0⟩ := h0
  obtain ⟨x0, ex0, g0⟩ := yBE W _ (yD8 hf0) (by simpa [Value.cells] using sz0)
  simp only [Value.cells] at ex0
  have hx0 : cs0 = (MR.cs x0).toArray := by rw [← ex0]
  subst hx0
  clear hA0 hval0
  refine (yBU (m := x0.m) (s := x0.s) (f := x0.f) (p := x0.p) W g0).mono fun e W' ⟨he, hM⟩ => ?_
  have bel : Below W.heap.size W W' := hM.below (by simp)
  subst he
  exact ⟨_, rfl, _, _, _, [], _, [], hW', trodAll_mk1 (shut_bool Tryz.underlying4 _), (trodAll_cons_mk (Below.trod laidOut (by kernel_rfl) (of_decide_eq_true (by kernel_rfl)) k0 bel lt0) trodAll_mk0), rfl, bel.frame _, fun h => by cases h⟩
theorem over : Rows.messageOwnRow.holds Tryz.pinned (OpenSpec.ofChange Rows.messageOwnSpec) :=
  OpenClaim.holds_of_wide 7 Tryz.f7 rfl rfl rfl rfl rfl rfl rfl ⟨rfl, rfl, rfl, rfl, rfl⟩ rfl rfl rfl rfl rfl (by kernel_rfl) Tryz.func7 (by kernel_rfl)
    (of_decide_eq_true (by kernel_rfl)) (by unfold Func.isWrapper; first | (rw [if_pos (by decide +kernel)]; kernel_rfl) | (rw [if_neg (by decide +kernel)]; exact ⟨rfl, rfl⟩))
    (fun os started H enc _ => lifted os started H enc)
theorem proved : Rows.MessageOwnSaid := over
#print axioms proved
end Go.Proofs.YtkbcmppbjfpjmaaGreat.messageOwn
