/- HistoryLate, for every input. No conditions. -/
import Derived.Test.YtkepmmocldnnfaaGreatPHLateK3
namespace Go.Proofs.YtkepmmocldnnfaaGreat
open Go Go.RowKit
set_option linter.all false
section
set_option maxRecDepth 100000
set_option maxHeartbeats 4000000
variable {R : VWP} {w w0 : World} {m : Nat} {i0 i1 i2 i3 i4 i5 i6 i7 i8 i9 j0 j1 j2 j3 j4 j5 j6 j7 j8 j9 k0 k1 k2 k3 k4 k5 k6 k7 k8 k9 l0 l1 l2 l3 l4 l5 l6 l7 l8 l9 : Int} {s0 s1 s2 s3 s4 s5 s6 s7 s8 s9 t0 t1 t2 t3 t4 t5 t6 t7 t8 t9 : BA} {n0 n1 n2 n3 n4 n5 n6 n7 n8 n9 o0 o1 o2 o3 o4 o5 o6 o7 o8 o9 p0 p1 p2 p3 p4 p5 p6 p7 p8 p9 : Nat} {q0 q1 q2 q3 q4 q5 q6 q7 q8 q9 r0 r1 r2 r3 r4 r5 r6 r7 r8 r9 : OA} {B0 B1 B2 B3 B4 B5 B6 B7 B8 B9 : Bool} {M0 M1 M2 M3 : Option Nat} {V0 V1 V2 V3 V4 V5 : Value} {A0 A1 A2 : Addr}
def ybW : LA := ⟨[1, 1, 1, 1, 1], [1, 2, 4, 5], [(4, 0, 0), (5, 1, 0)], 2, []⟩
def ybX : LA := ⟨[1, 1, 1, 1, 1, 1], [1, 2, 4, 5, 6, 7], [(4, 0, 0), (5, 1, 0), (6, 2, 0), (7, 3, 0)], 4, []⟩
def ylS : List LA := [ybW, ybX, ⟨9 :: [0, 1, 1, 1, 1], [], [(4, 0, 0)], 6, [0, 1, 2, 4, 5, 6, 3, 7, 8, 9, 10, 11]⟩, ⟨9 :: [0, 1, 1, 1, 1, 1], [], [(4, 0, 0)], 12, [0, 1, 2, 3, 4, 5, 7, 8, 9, 10, 11, 12, 6, 13, 14, 15, 16, 17]⟩, ⟨9 :: [0, 1, 1, 1, 1, 1, 1, 1], [0, 1, 2, 3, 4, 5, 6, 7, 8, 9, 10, 11, 12, 13, 14, 15, 16, 17, 18, 19, 20, 21, 22, 23, 24, 25, 26, 27, 28, 29, 30, 31, 32, 33, 34, 35, 36, 37, 38, 39, 40, 41, 42, 43, 44, 45, 46, 47, 48, 49, 50, 51, 52, 53, 54, 55, 56, 57, 58, 59, 60, 61, 62, 63, 64, 65, 66, 67, 68, 69, 70, 71, 72, 73, 74, 75, 76, 77, 78, 79, 80, 81], [(3, 0, 0)], 6, [82, 83, 84, 87, 88, 89, 85, 86, 90, 91, 92, 93, 94, 95, 96, 97, 98, 99, 100, 101, 102, 103, 104, 105, 106, 107, 108]⟩]
abbrev yb0 := dnF pP ylS (code Tryz.f14)
abbrev yxK := ybE pP ylS (code Tryz.f14)
abbrev yb1 (p : List Nat) (K : List Kh) (R : VWP) := ybE pP ylS (code Tryz.f14) p K (ycT pP Tryz.f14 [] R)
def ycR : (Option Addr) × Nat × Nat × (Option Addr) × Nat × Nat × Nat × Int × Int × Bool × Int × ByteArray × Int × Int × Int × Int × Int × Int × (Option Addr) × Nat × Nat × ByteArray × ByteArray × Int × Bool × (Option Addr) × Nat × Nat × Int × Int × Int × Int × (Option Addr) × Nat × Nat × (Option Addr) × Nat × Nat × Nat × Int × Int × Bool × Int × ByteArray × Int × Int × Int × Int × Int × Int × (Option Addr) × Nat × Nat × ByteArray × ByteArray × Int × Bool × (Option Addr) × Nat × Nat × Int × Int × Int × Int × (Option Addr) × Nat × Nat × (Option Addr) × Nat × Nat → List Value × List TB := fun (g2, g6, g4, g3, g7, g5, bm0, e6, e7, e4, e8, e2, e9, f0, f1, f2, f3, d0, a0, b6, a8, c4, c5, d1, c8, a1, b7, a9, d2, d3, d4, d5, a2, b8, b0, a3, b9, b1, bm1, f4, f5, e5, f6, e3, f7, f8, f9, g0, g1, d6, a4, c0, b2, c6, c7, d7, c9, a5, c1, b3, d8, d9, e0, e1, a6, c2, b4, a7, c3, b5) => ([.slice g2 g6 g4, .slice g3 g7 g5, (.pointer (some ⟨bm0, 0, none⟩)), (.pointer (some ⟨bm1, 0, none⟩))], [⟨bm0, 46, [.int .i64 e6, .int .i64 e7, .bool e4, .int .i64 e8, .string e2, .int .i64 e9, .int .i64 f0, .int .i64 f1, .int .i64 f2, .int .i64 f3, .int .i64 d0, .slice a0 b6 a8, .string c4, .string c5, .int .i64 d1, .bool c8, .slice a1 b7 a9, .int .i64 d2, .int .i64 d3, .int .i64 d4, .int .i64 d5, .slice a2 b8 b0, .slice a3 b9 b1], false⟩, ⟨bm1, 46, [.int .i64 f4, .int .i64 f5, .bool e5, .int .i64 f6, .string e3, .int .i64 f7, .int .i64 f8, .int .i64 f9, .int .i64 g0, .int .i64 g1, .int .i64 d6, .slice a4 c0 b2, .string c6, .string c7, .int .i64 d7, .bool c9, .slice a5 c1 b3, .int .i64 d8, .int .i64 d9, .int .i64 e0, .int .i64 e1, .slice a6 c2 b4, .slice a7 c3 b5], false⟩])
def ycS : (Option Addr) × Nat × Nat × (Option Addr) × Nat × Nat × Nat × Int × Int × Bool × Int × ByteArray × Int × Int × Int × Int × Int × Int × (Option Addr) × Nat × Nat × ByteArray × ByteArray × Int × Bool × (Option Addr) × Nat × Nat × Int × Int × Int × Int × (Option Addr) × Nat × Nat × (Option Addr) × Nat × Nat × Nat × Int × Int × Bool × Int × ByteArray × Int × Int × Int × Int × Int × Int × (Option Addr) × Nat × Nat × ByteArray × ByteArray × Int × Bool × (Option Addr) × Nat × Nat × Int × Int × Int × Int × (Option Addr) × Nat × Nat × (Option Addr) × Nat × Nat × Nat × Int × Int × Bool × Int × ByteArray × Int × Int × Int × Int × Int × Int × (Option Addr) × Nat × Nat × ByteArray × ByteArray × Int × Bool × (Option Addr) × Nat × Nat × Int × Int × Int × Int × (Option Addr) × Nat × Nat × (Option Addr) × Nat × Nat × Nat × Int × Int × Bool × Int × ByteArray × Int × Int × Int × Int × Int × Int × (Option Addr) × Nat × Nat × ByteArray × ByteArray × Int × Bool × (Option Addr) × Nat × Nat × Int × Int × Int × Int × (Option Addr) × Nat × Nat × (Option Addr) × Nat × Nat → List Value × List TB := fun (y5, y9, y7, y6, z0, y8, bm0, v3, v4, u9, v5, u4, v6, v7, v8, v9, w0, g0, a0, d2, b6, e8, e9, g1, f6, a1, d3, b7, g2, g3, g4, g5, a2, d4, b8, a3, d5, b9, bm1, w1, w2, v0, w3, u5, w4, w5, w6, w7, w8, g6, a4, d6, c0, f0, f1, g7, f7, a5, d7, c1, g8, g9, h0, h1, a6, d8, c2, a7, d9, c3, bm2, w9, x0, v1, x1, u6, x2, x3, x4, x5, x6, h2, a8, e0, c4, f2, f3, h3, f8, a9, e1, c5, h4, h5, h6, h7, b0, e2, c6, b1, e3, c7, bm3, x7, x8, v2, x9, u7, y0, y1, y2, y3, y4, h8, b2, e4, c8, f4, f5, h9, f9, b3, e5, c9, u0, u1, u2, u3, b4, e6, d0, b5, e7, d1) => ([.slice y5 y9 y7, .slice y6 z0 y8, (.pointer (some ⟨bm0, 0, none⟩)), (.pointer (some ⟨bm1, 0, none⟩)), (.pointer (some ⟨bm2, 0, none⟩)), (.pointer (some ⟨bm3, 0, none⟩))], [⟨bm0, 46, [.int .i64 v3, .int .i64 v4, .bool u9, .int .i64 v5, .string u4, .int .i64 v6, .int .i64 v7, .int .i64 v8, .int .i64 v9, .int .i64 w0, .int .i64 g0, .slice a0 d2 b6, .string e8, .string e9, .int .i64 g1, .bool f6, .slice a1 d3 b7, .int .i64 g2, .int .i64 g3, .int .i64 g4, .int .i64 g5, .slice a2 d4 b8, .slice a3 d5 b9], false⟩, ⟨bm1, 46, [.int .i64 w1, .int .i64 w2, .bool v0, .int .i64 w3, .string u5, .int .i64 w4, .int .i64 w5, .int .i64 w6, .int .i64 w7, .int .i64 w8, .int .i64 g6, .slice a4 d6 c0, .string f0, .string f1, .int .i64 g7, .bool f7, .slice a5 d7 c1, .int .i64 g8, .int .i64 g9, .int .i64 h0, .int .i64 h1, .slice a6 d8 c2, .slice a7 d9 c3], false⟩, ⟨bm2, 46, [.int .i64 w9, .int .i64 x0, .bool v1, .int .i64 x1, .string u6, .int .i64 x2, .int .i64 x3, .int .i64 x4, .int .i64 x5, .int .i64 x6, .int .i64 h2, .slice a8 e0 c4, .string f2, .string f3, .int .i64 h3, .bool f8, .slice a9 e1 c5, .int .i64 h4, .int .i64 h5, .int .i64 h6, .int .i64 h7, .slice b0 e2 c6, .slice b1 e3 c7], false⟩, ⟨bm3, 46, [.int .i64 x7, .int .i64 x8, .bool v2, .int .i64 x9, .string u7, .int .i64 y0, .int .i64 y1, .int .i64 y2, .int .i64 y3, .int .i64 y4, .int .i64 h8, .slice b2 e4 c8, .string f4, .string f5, .int .i64 h9, .bool f9, .slice b3 e5 c9, .int .i64 u0, .int .i64 u1, .int .i64 u2, .int .i64 u3, .slice b4 e6 d0, .slice b5 e7 d1], false⟩])
def ygZ {A0 A1 A2 A3 A4 A5 A6 A7 A8 A9 A10 A11 A12 A13 A14 A15 A16 A17 A18 A19 A20 A21 A22 A23 A24 A25 A26 A27 A28 A29 A30 A31 A32 A33 A34 A35 A36 A37 A38 A39 A40 A41 A42 A43 A44 A45 A46 A47 A48 A49 A50 A51 A52 A53 A54 A55 A56 A57 A58 A59 A60 A61 A62 A63 A64 A65 A66 A67 A68 A69 : Type} (J : A0 → A1 → A2 → A3 → A4 → A5 → A6 → A7 → A8 → A9 → A10 → A11 → A12 → A13 → A14 → A15 → A16 → A17 → A18 → A19 → A20 → A21 → A22 → A23 → A24 → A25 → A26 → A27 → A28 → A29 → A30 → A31 → A32 → A33 → A34 → A35 → A36 → A37 → A38 → A39 → A40 → A41 → A42 → A43 → A44 → A45 → A46 → A47 → A48 → A49 → A50 → A51 → A52 → A53 → A54 → A55 → A56 → A57 → A58 → A59 → A60 → A61 → A62 → A63 → A64 → A65 → A66 → A67 → A68 → A69 → World → Prop) : A0 × A1 × A2 × A3 × A4 × A5 × A6 × A7 × A8 × A9 × A10 × A11 × A12 × A13 × A14 × A15 × A16 × A17 × A18 × A19 × A20 × A21 × A22 × A23 × A24 × A25 × A26 × A27 × A28 × A29 × A30 × A31 × A32 × A33 × A34 × A35 × A36 × A37 × A38 × A39 × A40 × A41 × A42 × A43 × A44 × A45 × A46 × A47 × A48 × A49 × A50 × A51 × A52 × A53 × A54 × A55 × A56 × A57 × A58 × A59 × A60 × A61 × A62 × A63 × A64 × A65 × A66 × A67 × A68 × A69 → World → Prop := fun (a0, a1, a2, a3, a4, a5, a6, a7, a8, a9, b0, b1, b2, b3, b4, b5, b6, b7, b8, b9, c0, c1, c2, c3, c4, c5, c6, c7, c8, c9, d0, d1, d2, d3, d4, d5, d6, d7, d8, d9, e0, e1, e2, e3, e4, e5, e6, e7, e8, e9, f0, f1, f2, f3, f4, f5, f6, f7, f8, f9, g0, g1, g2, g3, g4, g5, g6, g7, g8, g9) w_ => J a0 a1 a2 a3 a4 a5 a6 a7 a8 a9 b0 b1 b2 b3 b4 b5 b6 b7 b8 b9 c0 c1 c2 c3 c4 c5 c6 c7 c8 c9 d0 d1 d2 d3 d4 d5 d6 d7 d8 d9 e0 e1 e2 e3 e4 e5 e6 e7 e8 e9 f0 f1 f2 f3 f4 f5 f6 f7 f8 f9 g0 g1 g2 g3 g4 g5 g6 g7 g8 g9 w_
def yfM {A0 A1 A2 A3 A4 A5 A6 A7 A8 A9 A10 A11 A12 A13 A14 A15 A16 A17 A18 A19 A20 A21 A22 A23 A24 A25 A26 A27 A28 A29 A30 A31 A32 A33 A34 A35 A36 A37 A38 A39 A40 A41 A42 A43 A44 A45 A46 A47 A48 A49 A50 A51 A52 A53 A54 A55 A56 A57 A58 A59 A60 A61 A62 A63 A64 A65 A66 A67 A68 A69 A70 A71 A72 A73 A74 A75 A76 A77 A78 A79 A80 A81 A82 A83 A84 A85 A86 A87 A88 A89 A90 A91 A92 A93 A94 A95 A96 A97 A98 A99 A100 A101 A102 A103 A104 A105 A106 A107 A108 A109 A110 A111 A112 A113 A114 A115 A116 A117 A118 A119 A120 A121 A122 A123 A124 A125 A126 A127 A128 A129 A130 A131 A132 A133 : Type} (J : A0 → A1 → A2 → A3 → A4 → A5 → A6 → A7 → A8 → A9 → A10 → A11 → A12 → A13 → A14 → A15 → A16 → A17 → A18 → A19 → A20 → A21 → A22 → A23 → A24 → A25 → A26 → A27 → A28 → A29 → A30 → A31 → A32 → A33 → A34 → A35 → A36 → A37 → A38 → A39 → A40 → A41 → A42 → A43 → A44 → A45 → A46 → A47 → A48 → A49 → A50 → A51 → A52 → A53 → A54 → A55 → A56 → A57 → A58 → A59 → A60 → A61 → A62 → A63 → A64 → A65 → A66 → A67 → A68 → A69 → A70 → A71 → A72 → A73 → A74 → A75 → A76 → A77 → A78 → A79 → A80 → A81 → A82 → A83 → A84 → A85 → A86 → A87 → A88 → A89 → A90 → A91 → A92 → A93 → A94 → A95 → A96 → A97 → A98 → A99 → A100 → A101 → A102 → A103 → A104 → A105 → A106 → A107 → A108 → A109 → A110 → A111 → A112 → A113 → A114 → A115 → A116 → A117 → A118 → A119 → A120 → A121 → A122 → A123 → A124 → A125 → A126 → A127 → A128 → A129 → A130 → A131 → A132 → A133 → World → Prop) : A0 × A1 × A2 × A3 × A4 × A5 × A6 × A7 × A8 × A9 × A10 × A11 × A12 × A13 × A14 × A15 × A16 × A17 × A18 × A19 × A20 × A21 × A22 × A23 × A24 × A25 × A26 × A27 × A28 × A29 × A30 × A31 × A32 × A33 × A34 × A35 × A36 × A37 × A38 × A39 × A40 × A41 × A42 × A43 × A44 × A45 × A46 × A47 × A48 × A49 × A50 × A51 × A52 × A53 × A54 × A55 × A56 × A57 × A58 × A59 × A60 × A61 × A62 × A63 × A64 × A65 × A66 × A67 × A68 × A69 × A70 × A71 × A72 × A73 × A74 × A75 × A76 × A77 × A78 × A79 × A80 × A81 × A82 × A83 × A84 × A85 × A86 × A87 × A88 × A89 × A90 × A91 × A92 × A93 × A94 × A95 × A96 × A97 × A98 × A99 × A100 × A101 × A102 × A103 × A104 × A105 × A106 × A107 × A108 × A109 × A110 × A111 × A112 × A113 × A114 × A115 × A116 × A117 × A118 × A119 × A120 × A121 × A122 × A123 × A124 × A125 × A126 × A127 × A128 × A129 × A130 × A131 × A132 × A133 → World → Prop := fun (a0, a1, a2, a3, a4, a5, a6, a7, a8, a9, e4, e5, e6, e7, e8, e9, f0, f1, f2, f3, f4, f5, f6, f7, f8, f9, g0, g1, g2, g3, g4, g5, g6, g7, g8, g9, h0, h1, h2, h3, h4, h5, h6, h7, h8, h9, u0, u1, u2, u3, u4, u5, u6, u7, u9, v0, v1, v2, v3, v4, v5, v6, v7, v8, v9, w0, w1, w2, w3, w4, w5, w6, w7, w8, w9, x0, x1, x2, x3, x4, x5, x6, x7, x8, x9, y0, y1, y2, y3, y4, y5, y6, y7, y8, y9, z0, z1, z2, z3, z4, b0, b1, b2, b3, b4, b5, b6, b7, b8, b9, c0, c1, c2, c3, c4, c5, c6, c7, c8, c9, d0, d1, d2, d3, d4, d5, d6, d7, d8, d9, e0, e1, e2, e3) w_ => J a0 a1 a2 a3 a4 a5 a6 a7 a8 a9 e4 e5 e6 e7 e8 e9 f0 f1 f2 f3 f4 f5 f6 f7 f8 f9 g0 g1 g2 g3 g4 g5 g6 g7 g8 g9 h0 h1 h2 h3 h4 h5 h6 h7 h8 h9 u0 u1 u2 u3 u4 u5 u6 u7 u9 v0 v1 v2 v3 v4 v5 v6 v7 v8 v9 w0 w1 w2 w3 w4 w5 w6 w7 w8 w9 x0 x1 x2 x3 x4 x5 x6 x7 x8 x9 y0 y1 y2 y3 y4 y5 y6 y7 y8 y9 z0 z1 z2 z3 z4 b0 b1 b2 b3 b4 b5 b6 b7 b8 b9 c0 c1 c2 c3 c4 c5 c6 c7 c8 c9 d0 d1 d2 d3 d4 d5 d6 d7 d8 d9 e0 e1 e2 e3 w_
def ylT (w4 : OA) (w6 x0 : Nat) (w5 : OA) (w7 x1 bm0 : Nat) (f4 f5 : Int) (f2 : Bool) (f6 : Int) (f0 : BA) (f7 f8 f9 g0 g1 d8 : Int) (a8 : OA) (c4 b6 : Nat) (d2 d3 : BA) (d9 : Int) (d6 : Bool) (a9 : OA) (c5 b7 : Nat) (e0 e1 e2 e3 : Int) (b0 : OA) (c6 b8 : Nat) (b1 : OA) (c7 b9 bm1 : Nat) (g2 g3 : Int) (f3 : Bool) (g4 : Int) (f1 : BA) (g5 g6 g7 g8 g9 e4 : Int) (b2 : OA) (c8 c0 : Nat) (d4 d5 : BA) (e5 : Int) (d7 : Bool) (b3 : OA) (c9 c1 : Nat) (e6 e7 e8 e9 : Int) (b4 : OA) (d0 c2 : Nat) (b5 : OA) (d1 c3 : Nat) (R : VWP) (w : World) : Prop :=
 ixA w4 w6 0 16 fun u3 =>
 ∀ a1, Adv [] [] w a1 →
 yaA .i64 a1 u3 fun be => yaA .i64 a1 (Addr.add u3 1) fun bf => yaA .i64 a1 (Addr.add u3 2) fun bg => yaC a1 (Addr.add u3 3) fun ba => yaA .i64 a1 (Addr.add u3 4) fun bh => yaA .i64 a1 (Addr.add u3 5) fun bi => yaA .i64 a1 (Addr.add u3 6) fun bj => yaA .i64 a1 (Addr.add u3 7) fun bk => yaA .i64 a1 (Addr.add u3 8) fun bl => yaA .i64 a1 (Addr.add u3 9) fun bm => yaB a1 (Addr.add u3 10) fun ai aw aq => yaC a1 (Addr.add u3 11) fun bb => yaC a1 (Addr.add u3 12) fun bc => yaA .i64 a1 (Addr.add u3 13) fun bn => yaG a1 (Addr.add u3 14) fun bd => yaB a1 (Addr.add u3 15) fun aj ax ar =>
 ixA w5 w7 0 6 fun ah =>
 yaA .i64 a1 ah fun bo => yaA .i64 a1 (Addr.add ah 1) fun bp => yaA .i64 a1 (Addr.add ah 2) fun bq => yaA .i64 a1 (Addr.add ah 3) fun br => yaB a1 (Addr.add ah 4) fun ak ay au => yaB a1 (Addr.add ah 5) fun am az av =>
 ixA w4 w6 1 16 fun a0 =>
 yaA .i64 a1 a0 fun u9 => yaA .i64 a1 (Addr.add a0 1) fun v0 => yaA .i64 a1 (Addr.add a0 2) fun v1 => yaC a1 (Addr.add a0 3) fun u4 => yaA .i64 a1 (Addr.add a0 4) fun v2 => yaA .i64 a1 (Addr.add a0 5) fun v3 => yaA .i64 a1 (Addr.add a0 6) fun v4 => yaA .i64 a1 (Addr.add a0 7) fun v5 => yaA .i64 a1 (Addr.add a0 8) fun v6 => yaA .i64 a1 (Addr.add a0 9) fun v7 => yaB a1 (Addr.add a0 10) fun h1 h9 h5 => yaC a1 (Addr.add a0 11) fun u5 => yaC a1 (Addr.add a0 12) fun u6 => yaA .i64 a1 (Addr.add a0 13) fun v8 => yaG a1 (Addr.add a0 14) fun u7 => yaB a1 (Addr.add a0 15) fun h2 u0 h6 =>
 ixA w5 w7 1 6 fun a2 =>
 yaA .i64 a1 a2 fun v9 => yaA .i64 a1 (Addr.add a2 1) fun w0 => yaA .i64 a1 (Addr.add a2 2) fun w1 => yaA .i64 a1 (Addr.add a2 3) fun w2 => yaB a1 (Addr.add a2 4) fun h3 u1 h7 => yaB a1 (Addr.add a2 5) fun h4 u2 h8 =>
 ((
 Calls pP 10 #[(.agg (Z0 be bf bg ba bh bi bj bk bl bm ai aw aq bb bc bn bd aj ax ar)), (.agg (Z3 bo bp bq br ak ay au am az av))] a1 fun e a4 => ∃ z2 z3 y9 z4 y6 z5 z6 z7 z8 z9 aa x4 y2 x8 y7 y8 ab z0 x5 y3 x9 ac ad ae af x6 y4 y0 x7 y5 y1, e = .returned (.agg (Z1 z2 z3 y9 z4 y6 z5 z6 z7 z8 z9 aa x4 y2 x8 y7 y8 ab z0 x5 y3 x9 ac ad ae af x6 y4 y0 x7 y5 y1)) ∧ yaJ [bm0, bm1] a1 a4 ∧ (yaA .i64 a4 a2 fun ab6 => yaA .i64 a4 (Addr.add a2 1) fun ab7 => yaA .i64 a4 (Addr.add a2 2) fun ab8 => yaA .i64 a4 (Addr.add a2 3) fun ab9 => yaB a4 (Addr.add a2 4) fun zk aa0 zs => yaB a4 (Addr.add a2 5) fun zl aa1 zt => ((.agg (Z3 ab6 ab7 ab8 ab9 zk aa0 zs zl aa1 zt)) : Value) = (.agg (Z3 v9 w0 w1 w2 h3 u1 h7 h4 u2 h8))) ∧ (yaA .i64 a4 a0 fun ac0 => yaA .i64 a4 (Addr.add a0 1) fun ac1 => yaA .i64 a4 (Addr.add a0 2) fun ac2 => yaC a4 (Addr.add a0 3) fun aa8 => yaA .i64 a4 (Addr.add a0 4) fun ac3 => yaA .i64 a4 (Addr.add a0 5) fun ac4 => yaA .i64 a4 (Addr.add a0 6) fun ac5 => yaA .i64 a4 (Addr.add a0 7) fun ac6 => yaA .i64 a4 (Addr.add a0 8) fun ac7 => yaA .i64 a4 (Addr.add a0 9) fun ac8 => yaB a4 (Addr.add a0 10) fun zm aa2 zu => yaC a4 (Addr.add a0 11) fun aa9 => yaC a4 (Addr.add a0 12) fun ab0 => yaA .i64 a4 (Addr.add a0 13) fun ac9 => yaG a4 (Addr.add a0 14) fun ab4 => yaB a4 (Addr.add a0 15) fun zn aa3 zv => ((.agg (Z0 ac0 ac1 ac2 aa8 ac3 ac4 ac5 ac6 ac7 ac8 zm aa2 zu aa9 ab0 ac9 ab4 zn aa3 zv)) : Value) = (.agg (Z0 u9 v0 v1 u4 v2 v3 v4 v5 v6 v7 h1 h9 h5 u5 u6 v8 u7 h2 u0 h6))) ∧
 ((
 Calls pP 10 #[(.agg (Z0 u9 v0 v1 u4 v2 v3 v4 v5 v6 v7 h1 h9 h5 u5 u6 v8 u7 h2 u0 h6)), (.agg (Z3 v9 w0 w1 w2 h3 u1 h7 h4 u2 h8))] a4 fun e z1 => ∃ fh fi et fj em fk fl fm fn fo fp dg ee dw en eo fq eu dh ef dx fr fs ft fu di eg dy dj eh dz, e = .returned (.agg (Z1 fh fi et fj em fk fl fm fn fo fp dg ee dw en eo fq eu dh ef dx fr fs ft fu di eg dy dj eh dz)) ∧ yaJ [bm0, bm1] a4 z1 ∧
 ((
 ∀ dp, z1.heap.size ≤ dp →
 ∀ dq, z1.heap.size ≤ dq →
 ∀ sq, Adv [] [dq, dp] z1 sq →
 yaZ ybX ((yb0 394 [1, 1, 1, 1, 1, 1]) (yb1 [1, 1, 1, 1, 1] [] R)) (ycS (w4, w6, x0, w5, w7, x1, bm0, f4, f5, f2, f6, f0, f7, f8, f9, g0, g1, d8, a8, c4, b6, d2, d3, d9, d6, a9, c5, b7, e0, e1, e2, e3, b0, c6, b8, b1, c7, b9, bm1, g2, g3, f3, g4, f1, g5, g6, g7, g8, g9, e4, b2, c8, c0, d4, d5, e5, d7, b3, c9, c1, e6, e7, e8, e9, b4, d0, c2, b5, d1, c3, dp, z2, z3, y9, z4, y6, z5, z6, z7, z8, z9, aa, x4, y2, x8, y7, y8, ab, z0, x5, y3, x9, ac, ad, ae, af, x6, y4, y0, x7, y5, y1, dq, fh, fi, et, fj, em, fk, fl, fm, fn, fo, fp, dg, ee, dw, en, eo, fq, eu, dh, ef, dx, fr, fs, ft, fu, di, eg, dy, dj, eh, dz)) sq) ∧
 (
 ∀ dr, z1.heap.size ≤ dr →
 ∀ ds, z1.heap.size ≤ ds →
 ∀ sr, Adv [] [ds, dr] z1 sr →
 yaZ ybX ((yb0 394 [1, 1, 1, 1, 1, 1]) (yb1 [1, 1, 1, 1, 1] [] R)) (ycS (w4, w6, x0, w5, w7, x1, bm0, f4, f5, f2, f6, f0, f7, f8, f9, g0, g1, d8, a8, c4, b6, d2, d3, d9, d6, a9, c5, b7, e0, e1, e2, e3, b0, c6, b8, b1, c7, b9, bm1, g2, g3, f3, g4, f1, g5, g6, g7, g8, g9, e4, b2, c8, c0, d4, d5, e5, d7, b3, c9, c1, e6, e7, e8, e9, b4, d0, c2, b5, d1, c3, ds, z2, z3, y9, z4, y6, z5, z6, z7, z8, z9, aa, x4, y2, x8, y7, y8, ab, z0, x5, y3, x9, ac, ad, ae, af, x6, y4, y0, x7, y5, y1, dr, fh, fi, et, fj, em, fk, fl, fm, fn, fo, fp, dg, ee, dw, en, eo, fq, eu, dh, ef, dx, fr, fs, ft, fu, di, eg, dy, dj, eh, dz)) sr))) ∧
 (
 ((
 ∀ w8, a4.heap.size ≤ w8 →
 ((
 ∀ ey, Adv [] [w8] a4 ey →
 Calls pP 10 #[(.agg (Z0 u9 v0 v1 u4 v2 v3 v4 v5 v6 v7 h1 h9 h5 u5 u6 v8 u7 h2 u0 h6)), (.agg (Z3 v9 w0 w1 w2 h3 u1 h7 h4 u2 h8))] ey fun e ez => ∃ tb tc sf td rp te tf th ti tj tk pg qv qb rq rr tl sg ph qw qc tm tn to tp pi qx qd pj qy qe, e = .returned (.agg (Z1 tb tc sf td rp te tf th ti tj tk pg qv qb rq rr tl sg ph qw qc tm tn to tp pi qx qd pj qy qe)) ∧ yaJ [bm0, bm1, w8] ey ez ∧
 ∀ dt, ez.heap.size ≤ dt →
 ∀ ss, Adv [w8] [dt] ez ss →
 yaZ ybX ((yb0 394 [1, 1, 1, 1, 1, 1]) (yb1 [1, 1, 1, 1, 1] [] R)) (ycS (w4, w6, x0, w5, w7, x1, bm0, f4, f5, f2, f6, f0, f7, f8, f9, g0, g1, d8, a8, c4, b6, d2, d3, d9, d6, a9, c5, b7, e0, e1, e2, e3, b0, c6, b8, b1, c7, b9, bm1, g2, g3, f3, g4, f1, g5, g6, g7, g8, g9, e4, b2, c8, c0, d4, d5, e5, d7, b3, c9, c1, e6, e7, e8, e9, b4, d0, c2, b5, d1, c3, w8, z2, z3, y9, z4, y6, z5, z6, z7, z8, z9, aa, x4, y2, x8, y7, y8, ab, z0, x5, y3, x9, ac, ad, ae, af, x6, y4, y0, x7, y5, y1, dt, tb, tc, sf, td, rp, te, tf, th, ti, tj, tk, pg, qv, qb, rq, rr, tl, sg, ph, qw, qc, tm, tn, to, tp, pi, qx, qd, pj, qy, qe)) ss) ∧
 (
 ∀ an, a4.heap.size ≤ an →
 ∀ fa, Adv [] [an, w8] a4 fa →
 Calls pP 10 #[(.agg (Z0 u9 v0 v1 u4 v2 v3 v4 v5 v6 v7 h1 h9 h5 u5 u6 v8 u7 h2 u0 h6)), (.agg (Z3 v9 w0 w1 w2 h3 u1 h7 h4 u2 h8))] fa fun e su => ∃ tq tr sh ts rs tt tu tv tw tx ty pk qz qf rt ru tz si pl ra qg ua ub uc ud pm rb qh pn rc qi, e = .returned (.agg (Z1 tq tr sh ts rs tt tu tv tw tx ty pk qz qf rt ru tz si pl ra qg ua ub uc ud pm rb qh pn rc qi)) ∧ yaJ [bm0, bm1, w8, an] fa su ∧
 ∀ sv, Adv [an, w8] [] su sv →
 yaZ ybX ((yb0 394 [1, 1, 1, 1, 1, 1]) (yb1 [1, 1, 1, 1, 1] [] R)) (ycS (w4, w6, x0, w5, w7, x1, bm0, f4, f5, f2, f6, f0, f7, f8, f9, g0, g1, d8, a8, c4, b6, d2, d3, d9, d6, a9, c5, b7, e0, e1, e2, e3, b0, c6, b8, b1, c7, b9, bm1, g2, g3, f3, g4, f1, g5, g6, g7, g8, g9, e4, b2, c8, c0, d4, d5, e5, d7, b3, c9, c1, e6, e7, e8, e9, b4, d0, c2, b5, d1, c3, w8, z2, z3, y9, z4, y6, z5, z6, z7, z8, z9, aa, x4, y2, x8, y7, y8, ab, z0, x5, y3, x9, ac, ad, ae, af, x6, y4, y0, x7, y5, y1, an, tq, tr, sh, ts, rs, tt, tu, tv, tw, tx, ty, pk, qz, qf, rt, ru, tz, si, pl, ra, qg, ua, ub, uc, ud, pm, rb, qh, pn, rc, qi)) sv))) ∧
 (
 ∀ w9, a4.heap.size ≤ w9 →
 ((
 ∀ fb, Adv [] [w9] a4 fb →
 Calls pP 10 #[(.agg (Z0 u9 v0 v1 u4 v2 v3 v4 v5 v6 v7 h1 h9 h5 u5 u6 v8 u7 h2 u0 h6)), (.agg (Z3 v9 w0 w1 w2 h3 u1 h7 h4 u2 h8))] fb fun e fc => ∃ ue uf sj ug rv uh ui uj uk ul um po rd qj rx ry un sk pp re qk uo up uq ur pq rf ql pr rg qm, e = .returned (.agg (Z1 ue uf sj ug rv uh ui uj uk ul um po rd qj rx ry un sk pp re qk uo up uq ur pq rf ql pr rg qm)) ∧ yaJ [bm0, bm1, w9] fb fc ∧
 ∀ du, fc.heap.size ≤ du →
 ∀ sw, Adv [w9] [du] fc sw →
 yaZ ybX ((yb0 394 [1, 1, 1, 1, 1, 1]) (yb1 [1, 1, 1, 1, 1] [] R)) (ycS (w4, w6, x0, w5, w7, x1, bm0, f4, f5, f2, f6, f0, f7, f8, f9, g0, g1, d8, a8, c4, b6, d2, d3, d9, d6, a9, c5, b7, e0, e1, e2, e3, b0, c6, b8, b1, c7, b9, bm1, g2, g3, f3, g4, f1, g5, g6, g7, g8, g9, e4, b2, c8, c0, d4, d5, e5, d7, b3, c9, c1, e6, e7, e8, e9, b4, d0, c2, b5, d1, c3, du, z2, z3, y9, z4, y6, z5, z6, z7, z8, z9, aa, x4, y2, x8, y7, y8, ab, z0, x5, y3, x9, ac, ad, ae, af, x6, y4, y0, x7, y5, y1, w9, ue, uf, sj, ug, rv, uh, ui, uj, uk, ul, um, po, rd, qj, rx, ry, un, sk, pp, re, qk, uo, up, uq, ur, pq, rf, ql, pr, rg, qm)) sw) ∧
 (
 ∀ ao, a4.heap.size ≤ ao →
 ∀ fd, Adv [] [ao, w9] a4 fd →
 Calls pP 10 #[(.agg (Z0 u9 v0 v1 u4 v2 v3 v4 v5 v6 v7 h1 h9 h5 u5 u6 v8 u7 h2 u0 h6)), (.agg (Z3 v9 w0 w1 w2 h3 u1 h7 h4 u2 h8))] fd fun e sx => ∃ us ut sl uu rz uv uw ux uy uz va ps rh qn sa sb vb sm pu ri qo vc vd ve vf pv rj qp pw rk qq, e = .returned (.agg (Z1 us ut sl uu rz uv uw ux uy uz va ps rh qn sa sb vb sm pu ri qo vc vd ve vf pv rj qp pw rk qq)) ∧ yaJ [bm0, bm1, w9, ao] fd sx ∧
 ∀ sy, Adv [w9, ao] [] sx sy →
 yaZ ybX ((yb0 394 [1, 1, 1, 1, 1, 1]) (yb1 [1, 1, 1, 1, 1] [] R)) (ycS (w4, w6, x0, w5, w7, x1, bm0, f4, f5, f2, f6, f0, f7, f8, f9, g0, g1, d8, a8, c4, b6, d2, d3, d9, d6, a9, c5, b7, e0, e1, e2, e3, b0, c6, b8, b1, c7, b9, bm1, g2, g3, f3, g4, f1, g5, g6, g7, g8, g9, e4, b2, c8, c0, d4, d5, e5, d7, b3, c9, c1, e6, e7, e8, e9, b4, d0, c2, b5, d1, c3, ao, z2, z3, y9, z4, y6, z5, z6, z7, z8, z9, aa, x4, y2, x8, y7, y8, ab, z0, x5, y3, x9, ac, ad, ae, af, x6, y4, y0, x7, y5, y1, w9, us, ut, sl, uu, rz, uv, uw, ux, uy, uz, va, ps, rh, qn, sa, sb, vb, sm, pu, ri, qo, vc, vd, ve, vf, pv, rj, qp, pw, rk, qq)) sy))))))) ∧
 (
 ((
 ∀ w3, a1.heap.size ≤ w3 →
 ((
 ∀ fe, Adv [] [w3] a1 fe →
 Calls pP 10 #[(.agg (Z0 be bf bg ba bh bi bj bk bl bm ai aw aq bb bc bn bd aj ax ar)), (.agg (Z3 bo bp bq br ak ay au am az av))] fe fun e a7 => ∃ fv fw ew fx ep fy fz ga gb gc gd dk ei ea eq er ge ex dl ej eb gf gg gh gi dm ek ec dn el ed, e = .returned (.agg (Z1 fv fw ew fx ep fy fz ga gb gc gd dk ei ea eq er ge ex dl ej eb gf gg gh gi dm ek ec dn el ed)) ∧ yaJ [bm0, bm1, w3] fe a7 ∧ (yaA .i64 a7 a2 fun ad0 => yaA .i64 a7 (Addr.add a2 1) fun ad1 => yaA .i64 a7 (Addr.add a2 2) fun ad2 => yaA .i64 a7 (Addr.add a2 3) fun ad3 => yaB a7 (Addr.add a2 4) fun zo aa4 zw => yaB a7 (Addr.add a2 5) fun zp aa5 zx => ((.agg (Z3 ad0 ad1 ad2 ad3 zo aa4 zw zp aa5 zx)) : Value) = (.agg (Z3 v9 w0 w1 w2 h3 u1 h7 h4 u2 h8))) ∧ (yaA .i64 a7 a0 fun ad4 => yaA .i64 a7 (Addr.add a0 1) fun ad5 => yaA .i64 a7 (Addr.add a0 2) fun ad6 => yaC a7 (Addr.add a0 3) fun ab1 => yaA .i64 a7 (Addr.add a0 4) fun ad7 => yaA .i64 a7 (Addr.add a0 5) fun ad8 => yaA .i64 a7 (Addr.add a0 6) fun ad9 => yaA .i64 a7 (Addr.add a0 7) fun ae0 => yaA .i64 a7 (Addr.add a0 8) fun ae1 => yaA .i64 a7 (Addr.add a0 9) fun ae2 => yaB a7 (Addr.add a0 10) fun zq aa6 zy => yaC a7 (Addr.add a0 11) fun ab2 => yaC a7 (Addr.add a0 12) fun ab3 => yaA .i64 a7 (Addr.add a0 13) fun ae3 => yaG a7 (Addr.add a0 14) fun ab5 => yaB a7 (Addr.add a0 15) fun zr aa7 zz => ((.agg (Z0 ad4 ad5 ad6 ab1 ad7 ad8 ad9 ae0 ae1 ae2 zq aa6 zy ab2 ab3 ae3 ab5 zr aa7 zz)) : Value) = (.agg (Z0 u9 v0 v1 u4 v2 v3 v4 v5 v6 v7 h1 h9 h5 u5 u6 v8 u7 h2 u0 h6))) ∧
 ((
 Calls pP 10 #[(.agg (Z0 u9 v0 v1 u4 v2 v3 v4 v5 v6 v7 h1 h9 h5 u5 u6 v8 u7 h2 u0 h6)), (.agg (Z3 v9 w0 w1 w2 h3 u1 h7 h4 u2 h8))] a7 fun e ff => ∃ vh vi sn vj sc vk vl vm vn vo vp px rl qr sd se vq so py rm qs vr vs vt vu pz rn qt qa ro qu, e = .returned (.agg (Z1 vh vi sn vj sc vk vl vm vn vo vp px rl qr sd se vq so py rm qs vr vs vt vu pz rn qt qa ro qu)) ∧ yaJ [bm0, bm1, w3] a7 ff ∧
 ∀ dv, ff.heap.size ≤ dv →
 ∀ sz, Adv [w3] [dv] ff sz →
 yaZ ybX ((yb0 394 [1, 1, 1, 1, 1, 1]) (yb1 [1, 1, 1, 1, 1] [] R)) (ycS (w4, w6, x0, w5, w7, x1, bm0, f4, f5, f2, f6, f0, f7, f8, f9, g0, g1, d8, a8, c4, b6, d2, d3, d9, d6, a9, c5, b7, e0, e1, e2, e3, b0, c6, b8, b1, c7, b9, bm1, g2, g3, f3, g4, f1, g5, g6, g7, g8, g9, e4, b2, c8, c0, d4, d5, e5, d7, b3, c9, c1, e6, e7, e8, e9, b4, d0, c2, b5, d1, c3, w3, fv, fw, ew, fx, ep, fy, fz, ga, gb, gc, gd, dk, ei, ea, eq, er, ge, ex, dl, ej, eb, gf, gg, gh, gi, dm, ek, ec, dn, el, ed, dv, vh, vi, sn, vj, sc, vk, vl, vm, vn, vo, vp, px, rl, qr, sd, se, vq, so, py, rm, qs, vr, vs, vt, vu, pz, rn, qt, qa, ro, qu)) sz) ∧
 (
 ∀ ap, a7.heap.size ≤ ap →
 ∀ fg, Adv [] [ap] a7 fg →
 Calls pP 10 #[(.agg (Z0 u9 v0 v1 u4 v2 v3 v4 v5 v6 v7 h1 h9 h5 u5 u6 v8 u7 h2 u0 h6)), (.agg (Z3 v9 w0 w1 w2 h3 u1 h7 h4 u2 h8))] fg fun e ta => ∃ vv vw sp vx ju lm ln lo lp lq lr gj iq hm jv jw ls kp gk ir hn lt lu lv lw gl it ho gm iu hp, e = .returned (.agg (Z1 vv vw sp vx ju lm ln lo lp lq lr gj iq hm jv jw ls kp gk ir hn lt lu lv lw gl it ho gm iu hp)) ∧ yaJ [bm0, bm1, w3, ap] fg ta ∧
 ∀ le, Adv [ap, w3] [] ta le →
 yaZ ybX ((yb0 394 [1, 1, 1, 1, 1, 1]) (yb1 [1, 1, 1, 1, 1] [] R)) (ycS (w4, w6, x0, w5, w7, x1, bm0, f4, f5, f2, f6, f0, f7, f8, f9, g0, g1, d8, a8, c4, b6, d2, d3, d9, d6, a9, c5, b7, e0, e1, e2, e3, b0, c6, b8, b1, c7, b9, bm1, g2, g3, f3, g4, f1, g5, g6, g7, g8, g9, e4, b2, c8, c0, d4, d5, e5, d7, b3, c9, c1, e6, e7, e8, e9, b4, d0, c2, b5, d1, c3, w3, fv, fw, ew, fx, ep, fy, fz, ga, gb, gc, gd, dk, ei, ea, eq, er, ge, ex, dl, ej, eb, gf, gg, gh, gi, dm, ek, ec, dn, el, ed, ap, vv, vw, sp, vx, ju, lm, ln, lo, lp, lq, lr, gj, iq, hm, jv, jw, ls, kp, gk, ir, hn, lt, lu, lv, lw, gl, it, ho, gm, iu, hp)) le))) ∧
 (
 ∀ x2, a1.heap.size ≤ x2 →
 ∀ cn, Adv [] [x2, w3] a1 cn →
 Calls pP 10 #[(.agg (Z0 be bf bg ba bh bi bj bk bl bm ai aw aq bb bc bn bd aj ax ar)), (.agg (Z3 bo bp bq br ak ay au am az av))] cn fun e a5 => ∃ lx ly kq lz jx ma mb mc md me mf gn iv hq jy jz mg kr go iw hr mh mi mj mk gp ix hs gq iy ht, e = .returned (.agg (Z1 lx ly kq lz jx ma mb mc md me mf gn iv hq jy jz mg kr go iw hr mh mi mj mk gp ix hs gq iy ht)) ∧ yaJ [bm0, bm1, w3, x2] cn a5 ∧ (yaA .i64 a5 a2 fun xu => yaA .i64 a5 (Addr.add a2 1) fun xv => yaA .i64 a5 (Addr.add a2 2) fun xw => yaA .i64 a5 (Addr.add a2 3) fun xx => yaB a5 (Addr.add a2 4) fun vy ww wk => yaB a5 (Addr.add a2 5) fun vz wx wl => ((.agg (Z3 xu xv xw xx vy ww wk vz wx wl)) : Value) = (.agg (Z3 v9 w0 w1 w2 h3 u1 h7 h4 u2 h8))) ∧ (yaA .i64 a5 a0 fun xy => yaA .i64 a5 (Addr.add a0 1) fun xz => yaA .i64 a5 (Addr.add a0 2) fun ya => yaC a5 (Addr.add a0 3) fun xi => yaA .i64 a5 (Addr.add a0 4) fun yb => yaA .i64 a5 (Addr.add a0 5) fun yc => yaA .i64 a5 (Addr.add a0 6) fun yd => yaA .i64 a5 (Addr.add a0 7) fun ye => yaA .i64 a5 (Addr.add a0 8) fun yf => yaA .i64 a5 (Addr.add a0 9) fun yg => yaB a5 (Addr.add a0 10) fun wa wy wm => yaC a5 (Addr.add a0 11) fun xj => yaC a5 (Addr.add a0 12) fun xk => yaA .i64 a5 (Addr.add a0 13) fun yh => yaG a5 (Addr.add a0 14) fun xr => yaB a5 (Addr.add a0 15) fun wb wz wn => ((.agg (Z0 xy xz ya xi yb yc yd ye yf yg wa wy wm xj xk yh xr wb wz wn)) : Value) = (.agg (Z0 u9 v0 v1 u4 v2 v3 v4 v5 v6 v7 h1 h9 h5 u5 u6 v8 u7 h2 u0 h6))) ∧
 Calls pP 10 #[(.agg (Z0 u9 v0 v1 u4 v2 v3 v4 v5 v6 v7 h1 h9 h5 u5 u6 v8 u7 h2 u0 h6)), (.agg (Z3 v9 w0 w1 w2 h3 u1 h7 h4 u2 h8))] a5 fun e lf => ∃ ml mm ks mn ka mo mp mq mr ms mt gr iz hu kb kc mu kt gs ja hv mv mw mx my gt jb hw gu jc hx, e = .returned (.agg (Z1 ml mm ks mn ka mo mp mq mr ms mt gr iz hu kb kc mu kt gs ja hv mv mw mx my gt jb hw gu jc hx)) ∧ yaJ [bm0, bm1, w3, x2] a5 lf ∧
 ∀ lg, Adv [x2, w3] [] lf lg →
 yaZ ybX ((yb0 394 [1, 1, 1, 1, 1, 1]) (yb1 [1, 1, 1, 1, 1] [] R)) (ycS (w4, w6, x0, w5, w7, x1, bm0, f4, f5, f2, f6, f0, f7, f8, f9, g0, g1, d8, a8, c4, b6, d2, d3, d9, d6, a9, c5, b7, e0, e1, e2, e3, b0, c6, b8, b1, c7, b9, bm1, g2, g3, f3, g4, f1, g5, g6, g7, g8, g9, e4, b2, c8, c0, d4, d5, e5, d7, b3, c9, c1, e6, e7, e8, e9, b4, d0, c2, b5, d1, c3, w3, lx, ly, kq, lz, jx, ma, mb, mc, md, me, mf, gn, iv, hq, jy, jz, mg, kr, go, iw, hr, mh, mi, mj, mk, gp, ix, hs, gq, iy, ht, x2, ml, mm, ks, mn, ka, mo, mp, mq, mr, ms, mt, gr, iz, hu, kb, kc, mu, kt, gs, ja, hv, mv, mw, mx, my, gt, jb, hw, gu, jc, hx)) lg))) ∧
 (
 ∀ h0, a1.heap.size ≤ h0 →
 ((
 ∀ co, Adv [] [h0] a1 co →
 Calls pP 10 #[(.agg (Z0 be bf bg ba bh bi bj bk bl bm ai aw aq bb bc bn bd aj ax ar)), (.agg (Z3 bo bp bq br ak ay au am az av))] co fun e a3 => ∃ cs ct cl cu ci cv cw cx cy cz da bt cd bz cj ck db cm bu ce ca dc dd de df bv cf cb bw ch cc, e = .returned (.agg (Z1 cs ct cl cu ci cv cw cx cy cz da bt cd bz cj ck db cm bu ce ca dc dd de df bv cf cb bw ch cc)) ∧ yaJ [bm0, bm1, h0] co a3 ∧ (yaA .i64 a3 a2 fun yi => yaA .i64 a3 (Addr.add a2 1) fun yj => yaA .i64 a3 (Addr.add a2 2) fun yk => yaA .i64 a3 (Addr.add a2 3) fun yl => yaB a3 (Addr.add a2 4) fun wc xa wo => yaB a3 (Addr.add a2 5) fun wd xb wp => ((.agg (Z3 yi yj yk yl wc xa wo wd xb wp)) : Value) = (.agg (Z3 v9 w0 w1 w2 h3 u1 h7 h4 u2 h8))) ∧ (yaA .i64 a3 a0 fun ym => yaA .i64 a3 (Addr.add a0 1) fun yn => yaA .i64 a3 (Addr.add a0 2) fun yo => yaC a3 (Addr.add a0 3) fun xl => yaA .i64 a3 (Addr.add a0 4) fun yp => yaA .i64 a3 (Addr.add a0 5) fun yq => yaA .i64 a3 (Addr.add a0 6) fun yr => yaA .i64 a3 (Addr.add a0 7) fun ys => yaA .i64 a3 (Addr.add a0 8) fun yt => yaA .i64 a3 (Addr.add a0 9) fun yu => yaB a3 (Addr.add a0 10) fun we xc wq => yaC a3 (Addr.add a0 11) fun xm => yaC a3 (Addr.add a0 12) fun xn => yaA .i64 a3 (Addr.add a0 13) fun yv => yaG a3 (Addr.add a0 14) fun xs => yaB a3 (Addr.add a0 15) fun wf xd wr => ((.agg (Z0 ym yn yo xl yp yq yr ys yt yu we xc wq xm xn yv xs wf xd wr)) : Value) = (.agg (Z0 u9 v0 v1 u4 v2 v3 v4 v5 v6 v7 h1 h9 h5 u5 u6 v8 u7 h2 u0 h6))) ∧
 ((
 Calls pP 10 #[(.agg (Z0 u9 v0 v1 u4 v2 v3 v4 v5 v6 v7 h1 h9 h5 u5 u6 v8 u7 h2 u0 h6)), (.agg (Z3 v9 w0 w1 w2 h3 u1 h7 h4 u2 h8))] a3 fun e cp => ∃ mz na ku nb kd nc nd ne nf ng nh gv jd hy ke kf ni kv gw je hz nj nk nl nm gx jf ia gy jg ib, e = .returned (.agg (Z1 mz na ku nb kd nc nd ne nf ng nh gv jd hy ke kf ni kv gw je hz nj nk nl nm gx jf ia gy jg ib)) ∧ yaJ [bm0, bm1, h0] a3 cp ∧
 ∀ bx, cp.heap.size ≤ bx →
 ∀ lh, Adv [h0] [bx] cp lh →
 yaZ ybX ((yb0 394 [1, 1, 1, 1, 1, 1]) (yb1 [1, 1, 1, 1, 1] [] R)) (ycS (w4, w6, x0, w5, w7, x1, bm0, f4, f5, f2, f6, f0, f7, f8, f9, g0, g1, d8, a8, c4, b6, d2, d3, d9, d6, a9, c5, b7, e0, e1, e2, e3, b0, c6, b8, b1, c7, b9, bm1, g2, g3, f3, g4, f1, g5, g6, g7, g8, g9, e4, b2, c8, c0, d4, d5, e5, d7, b3, c9, c1, e6, e7, e8, e9, b4, d0, c2, b5, d1, c3, bx, cs, ct, cl, cu, ci, cv, cw, cx, cy, cz, da, bt, cd, bz, cj, ck, db, cm, bu, ce, ca, dc, dd, de, df, bv, cf, cb, bw, ch, cc, h0, mz, na, ku, nb, kd, nc, nd, ne, nf, ng, nh, gv, jd, hy, ke, kf, ni, kv, gw, je, hz, nj, nk, nl, nm, gx, jf, ia, gy, jg, ib)) lh) ∧
 (
 ∀ ag, a3.heap.size ≤ ag →
 ∀ cq, Adv [] [ag] a3 cq →
 Calls pP 10 #[(.agg (Z0 u9 v0 v1 u4 v2 v3 v4 v5 v6 v7 h1 h9 h5 u5 u6 v8 u7 h2 u0 h6)), (.agg (Z3 v9 w0 w1 w2 h3 u1 h7 h4 u2 h8))] cq fun e li => ∃ no np kw nq kg nr ns nt nu nv nw gz jh ic kh ki nx kx hb ji id ny oa ob oc hc jj ie hd jl ig, e = .returned (.agg (Z1 no np kw nq kg nr ns nt nu nv nw gz jh ic kh ki nx kx hb ji id ny oa ob oc hc jj ie hd jl ig)) ∧ yaJ [bm0, bm1, h0, ag] cq li ∧
 ∀ lj, Adv [h0, ag] [] li lj →
 yaZ ybX ((yb0 394 [1, 1, 1, 1, 1, 1]) (yb1 [1, 1, 1, 1, 1] [] R)) (ycS (w4, w6, x0, w5, w7, x1, bm0, f4, f5, f2, f6, f0, f7, f8, f9, g0, g1, d8, a8, c4, b6, d2, d3, d9, d6, a9, c5, b7, e0, e1, e2, e3, b0, c6, b8, b1, c7, b9, bm1, g2, g3, f3, g4, f1, g5, g6, g7, g8, g9, e4, b2, c8, c0, d4, d5, e5, d7, b3, c9, c1, e6, e7, e8, e9, b4, d0, c2, b5, d1, c3, ag, cs, ct, cl, cu, ci, cv, cw, cx, cy, cz, da, bt, cd, bz, cj, ck, db, cm, bu, ce, ca, dc, dd, de, df, bv, cf, cb, bw, ch, cc, h0, no, np, kw, nq, kg, nr, ns, nt, nu, nv, nw, gz, jh, ic, kh, ki, nx, kx, hb, ji, id, ny, oa, ob, oc, hc, jj, ie, hd, jl, ig)) lj))) ∧
 (
 ∀ x3, a1.heap.size ≤ x3 →
 ∀ cr, Adv [] [x3, h0] a1 cr →
 Calls pP 10 #[(.agg (Z0 be bf bg ba bh bi bj bk bl bm ai aw aq bb bc bn bd aj ax ar)), (.agg (Z3 bo bp bq br ak ay au am az av))] cr fun e a6 => ∃ od oe ky of kj og oh oi oj ok ol he jm ih kk kl om kz hf jn ii on oo op oq hg jo ij hh jp ik, e = .returned (.agg (Z1 od oe ky of kj og oh oi oj ok ol he jm ih kk kl om kz hf jn ii on oo op oq hg jo ij hh jp ik)) ∧ yaJ [bm0, bm1, h0, x3] cr a6 ∧ (yaA .i64 a6 a2 fun yw => yaA .i64 a6 (Addr.add a2 1) fun yx => yaA .i64 a6 (Addr.add a2 2) fun yy => yaA .i64 a6 (Addr.add a2 3) fun yz => yaB a6 (Addr.add a2 4) fun wg xe ws => yaB a6 (Addr.add a2 5) fun wh xf wt => ((.agg (Z3 yw yx yy yz wg xe ws wh xf wt)) : Value) = (.agg (Z3 v9 w0 w1 w2 h3 u1 h7 h4 u2 h8))) ∧ (yaA .i64 a6 a0 fun za => yaA .i64 a6 (Addr.add a0 1) fun zb => yaA .i64 a6 (Addr.add a0 2) fun zc => yaC a6 (Addr.add a0 3) fun xo => yaA .i64 a6 (Addr.add a0 4) fun zd => yaA .i64 a6 (Addr.add a0 5) fun ze => yaA .i64 a6 (Addr.add a0 6) fun zf => yaA .i64 a6 (Addr.add a0 7) fun zg => yaA .i64 a6 (Addr.add a0 8) fun zh => yaA .i64 a6 (Addr.add a0 9) fun zi => yaB a6 (Addr.add a0 10) fun wi xg wu => yaC a6 (Addr.add a0 11) fun xp => yaC a6 (Addr.add a0 12) fun xq => yaA .i64 a6 (Addr.add a0 13) fun zj => yaG a6 (Addr.add a0 14) fun xt => yaB a6 (Addr.add a0 15) fun wj xh wv => ((.agg (Z0 za zb zc xo zd ze zf zg zh zi wi xg wu xp xq zj xt wj xh wv)) : Value) = (.agg (Z0 u9 v0 v1 u4 v2 v3 v4 v5 v6 v7 h1 h9 h5 u5 u6 v8 u7 h2 u0 h6))) ∧
 Calls pP 10 #[(.agg (Z0 u9 v0 v1 u4 v2 v3 v4 v5 v6 v7 h1 h9 h5 u5 u6 v8 u7 h2 u0 h6)), (.agg (Z3 v9 w0 w1 w2 h3 u1 h7 h4 u2 h8))] a6 fun e lk => ∃ os ot la ou km ov ow ox oy oz pa hi jq il kn ko pb lc hj jr im pc pd pe pf hk js io hl jt ip, e = .returned (.agg (Z1 os ot la ou km ov ow ox oy oz pa hi jq il kn ko pb lc hj jr im pc pd pe pf hk js io hl jt ip)) ∧ yaJ [bm0, bm1, h0, x3] a6 lk ∧
 ∀ ll, Adv [h0, x3] [] lk ll →
 yaZ ybX ((yb0 394 [1, 1, 1, 1, 1, 1]) (yb1 [1, 1, 1, 1, 1] [] R)) (ycS (w4, w6, x0, w5, w7, x1, bm0, f4, f5, f2, f6, f0, f7, f8, f9, g0, g1, d8, a8, c4, b6, d2, d3, d9, d6, a9, c5, b7, e0, e1, e2, e3, b0, c6, b8, b1, c7, b9, bm1, g2, g3, f3, g4, f1, g5, g6, g7, g8, g9, e4, b2, c8, c0, d4, d5, e5, d7, b3, c9, c1, e6, e7, e8, e9, b4, d0, c2, b5, d1, c3, x3, od, oe, ky, of, kj, og, oh, oi, oj, ok, ol, he, jm, ih, kk, kl, om, kz, hf, jn, ii, on, oo, op, oq, hg, jo, ij, hh, jp, ik, h0, os, ot, la, ou, km, ov, ow, ox, oy, oz, pa, hi, jq, il, kn, ko, pb, lc, hj, jr, im, pc, pd, pe, pf, hk, js, io, hl, jt, ip)) ll))))))
theorem yqI (J : Option Addr → Nat → Nat → Option Addr → Nat → Nat → Nat → Int → Int → Bool → Int → ByteArray → Int → Int → Int → Int → Int → Int → Option Addr → Nat → Nat → ByteArray → ByteArray → Int → Bool → Option Addr → Nat → Nat → Int → Int → Int → Int → Option Addr → Nat → Nat → Option Addr → Nat → Nat → Nat → Int → Int → Bool → Int → ByteArray → Int → Int → Int → Int → Int → Int → Option Addr → Nat → Nat → ByteArray → ByteArray → Int → Bool → Option Addr → Nat → Nat → Int → Int → Int → Int → Option Addr → Nat → Nat → Option Addr → Nat → Nat → World → Prop) (h0 : J q0 n0 n1 q1 n2 n3 n4 i0 i1 B0 i2 s0 i3 i4 i5 i6 i7 i8 q2 n5 n6 s1 s2 i9 B1 q3 n7 n8 j0 j1 j2 j3 q4 n9 o0 q5 o1 o2 o3 j4 j5 B2 j6 s3 j7 j8 j9 k0 k1 k2 q6 o4 o5 s4 s5 k3 B3 q7 o6 o7 k4 k5 k6 k7 q8 o8 o9 q9 p0 p1 w0)
 (hr : ∀ y5 y9 y7 y6 z0 y8 bm0 e6 e7 e4 e8 e2 e9 f0 f1 f2 f3 i1 a2 b8 b0 c6 c7 d2 d0 a3 b9 b1 d3 d4 d5 d6 a4 c0 b2 a5 c1 b3 bm1 f4 f5 e5 f6 e3 f7 f8 f9 g0 g1 j5 a6 c2 b4 c8 c9 d7 d1 a7 c3 b5 d8 d9 e0 e1 a8 c4 b6 a9 c5 b7 w, J y5 y9 y7 y6 z0 y8 bm0 e6 e7 e4 e8 e2 e9 f0 f1 f2 f3 i1 a2 b8 b0 c6 c7 d2 d0 a3 b9 b1 d3 d4 d5 d6 a4 c0 b2 a5 c1 b3 bm1 f4 f5 e5 f6 e3 f7 f8 f9 g0 g1 j5 a6 c2 b4 c8 c9 d7 d1 a7 c3 b5 d8 d9 e0 e1 a8 c4 b6 a9 c5 b7 w → ylT y5 y9 y7 y6 z0 y8 bm0 e6 e7 e4 e8 e2 e9 f0 f1 f2 f3 i1 a2 b8 b0 c6 c7 d2 d0 a3 b9 b1 d3 d4 d5 d6 a4 c0 b2 a5 c1 b3 bm1 f4 f5 e5 f6 e3 f7 f8 f9 g0 g1 j5 a6 c2 b4 c8 c9 d7 d1 a7 c3 b5 d8 d9 e0 e1 a8 c4 b6 a9 c5 b7 R w) :
 yaZ ybW ((yb0 395 [1, 1, 1, 1, 1]) (yb1 [1, 1, 1, 1] [] R)) (ycR (q0, n0, n1, q1, n2, n3, n4, i0, i1, B0, i2, s0, i3, i4, i5, i6, i7, i8, q2, n5, n6, s1, s2, i9, B1, q3, n7, n8, j0, j1, j2, j3, q4, n9, o0, q5, o1, o2, o3, j4, j5, B2, j6, s3, j7, j8, j9, k0, k1, k2, q6, o4, o5, s4, s5, k3, B3, q7, o6, o7, k4, k5, k6, k7, q8, o8, o9, q9, p0, p1)) w0 :=
 crule (ycR) (ygZ J) h0 (by rintro ⟨y5, y9, y7, y6, z0, y8, bm0, e6, e7, e4, e8, e2, e9, f0, f1, f2, f3, i1, a2, b8, b0, c6, c7, d2, d0, a3, b9, b1, d3, d4, d5, d6, a4, c0, b2, a5, c1, b3, bm1, f4, f5, e5, f6, e3, f7, f8, f9, g0, g1, j5, a6, c2, b4, c8, c9, d7, d1, a7, c3, b5, d8, d9, e0, e1, a8, c4, b6, a9, c5, b7⟩ w h; exact ⟨by kernel_rfl, by kernel_rfl, fun js => Eq.mpr (by kernel_rfl) (hr y5 y9 y7 y6 z0 y8 bm0 e6 e7 e4 e8 e2 e9 f0 f1 f2 f3 i1 a2 b8 b0 c6 c7 d2 d0 a3 b9 b1 d3 d4 d5 d6 a4 c0 b2 a5 c1 b3 bm1 f4 f5 e5 f6 e3 f7 f8 f9 g0 g1 j5 a6 c2 b4 c8 c9 d7 d1 a7 c3 b5 d8 d9 e0 e1 a8 c4 b6 a9 c5 b7 w h)⟩)
theorem ycD {w0 w1 w2 w3 w4 d6 : Int} (h : ylT q0 n0 n1 q1 n2 n3 n4 i0 i1 B0 i2 s0 i3 i4 i5 i6 i7 i8 q2 n5 n6 s1 s2 i9 B1 q3 n7 n8 j0 j1 j2 j3 q4 n9 o0 q5 o1 o2 o3 j4 j5 B2 j6 s3 w0 w1 w2 w3 w4 d6 q6 o4 o5 s4 s5 j7 B3 q7 o6 o7 j8 j9 k0 k1 q8 o8 o9 q9 p0 p1 R w) :
 yaZ ybW ((yb0 395 [1, 1, 1, 1, 1]) (yb1 [1, 1, 1, 1] [] R)) (ycR (q0, n0, n1, q1, n2, n3, n4, i0, i1, B0, i2, s0, i3, i4, i5, i6, i7, i8, q2, n5, n6, s1, s2, i9, B1, q3, n7, n8, j0, j1, j2, j3, q4, n9, o0, q5, o1, o2, o3, j4, j5, B2, j6, s3, w0, w1, w2, w3, w4, d6, q6, o4, o5, s4, s5, j7, B3, q7, o6, o7, j8, j9, k0, k1, q8, o8, o9, q9, p0, p1)) w :=
 yqI (fun y6 z4 z0 y8 z6 z2 bm0' w9 x0 w7 x1 w5 x2 x3 x4 x5 x6 h8 e2 f8 f0 g6 g7 h9 h2 e3 f9 f1 u0 u1 u2 u3 e4 g0 f2 e5 g1 f3 bm1' x7 x8 w8 x9 w6 y0 y1 y2 y3 y4 v3 e6 g2 f4 g9 h0 v4 h4 e7 g3 f5 v5 v6 v7 v8 e8 g4 f6 e9 g5 f7 w' => y6 = q0 ∧ z4 = n0 ∧ z0 = n1 ∧ y8 = q1 ∧ z6 = n2 ∧ z2 = n3 ∧ bm0' = n4 ∧ w9 = i0 ∧ x0 = i1 ∧ w7 = B0 ∧ x1 = i2 ∧ w5 = s0 ∧ x2 = i3 ∧ x3 = i4 ∧ x4 = i5 ∧ x5 = i6 ∧ x6 = i7 ∧ h8 = i8 ∧ e2 = q2 ∧ f8 = n5 ∧ f0 = n6 ∧ g6 = s1 ∧ g7 = s2 ∧ h9 = i9 ∧ h2 = B1 ∧ e3 = q3 ∧ f9 = n7 ∧ f1 = n8 ∧ u0 = j0 ∧ u1 = j1 ∧ u2 = j2 ∧ u3 = j3 ∧ e4 = q4 ∧ g0 = n9 ∧ f2 = o0 ∧ e5 = q5 ∧ g1 = o1 ∧ f3 = o2 ∧ bm1' = o3 ∧ x7 = j4 ∧ x8 = j5 ∧ w8 = B2 ∧ x9 = j6 ∧ w6 = s3 ∧ y0 = w0 ∧ y1 = w1 ∧ y2 = w2 ∧ y3 = w3 ∧ y4 = w4 ∧ v3 = d6 ∧ e6 = q6 ∧ g2 = o4 ∧ f4 = o5 ∧ g9 = s4 ∧ h0 = s5 ∧ v4 = j7 ∧ h4 = B3 ∧ e7 = q7 ∧ g3 = o6 ∧ f5 = o7 ∧ v5 = j8 ∧ v6 = j9 ∧ v7 = k0 ∧ v8 = k1 ∧ e8 = q8 ∧ g4 = o8 ∧ f6 = o9 ∧ e9 = q9 ∧ g5 = p0 ∧ f7 = p1 ∧ w' = w) ⟨rfl, rfl, rfl, rfl, rfl, rfl, rfl, rfl, rfl, rfl, rfl, rfl, rfl, rfl, rfl, rfl, rfl, rfl, rfl, rfl, rfl, rfl, rfl, rfl, rfl, rfl, rfl, rfl, rfl, rfl, rfl, rfl, rfl, rfl, rfl, rfl, rfl, rfl, rfl, rfl, rfl, rfl, rfl, rfl, rfl, rfl, rfl, rfl, rfl, rfl, rfl, rfl, rfl, rfl, rfl, rfl, rfl, rfl, rfl, rfl, rfl, rfl, rfl, rfl, rfl, rfl, rfl, rfl, rfl, rfl, rfl⟩ (by rintro y6 z4 z0 y8 z6 z2 bm0' w9 x0 w7 x1 w5 x2 x3 x4 x5 x6 h8 e2 f8 f0 g6 g7 h9 h2 e3 f9 f1 u0 u1 u2 u3 e4 g0 f2 e5 g1 f3 bm1' x7 x8 w8 x9 w6 y0 y1 y2 y3 y4 v3 e6 g2 f4 g9 h0 v4 h4 e7 g3 f5 v5 v6 v7 v8 e8 g4 f6 e9 g5 f7 w' ⟨rfl, rfl, rfl, rfl, rfl, rfl, rfl, rfl, rfl, rfl, rfl, rfl, rfl, rfl, rfl, rfl, rfl, rfl, rfl, rfl, rfl, rfl, rfl, rfl, rfl, rfl, rfl, rfl, rfl, rfl, rfl, rfl, rfl, rfl, rfl, rfl, rfl, rfl, rfl, rfl, rfl, rfl, rfl, rfl, rfl, rfl, rfl, rfl, rfl, rfl, rfl, rfl, rfl, rfl, rfl, rfl, rfl, rfl, rfl, rfl, rfl, rfl, rfl, rfl, rfl, rfl, rfl, rfl, rfl, rfl, rfl⟩; exact h)
def ylU (d7 : OA) (d8 w3 : Nat) (er : OA) (et ny bm0 : Nat) (e1 e2 : Int) (e0 : Bool) (e3 : Int) (d9 : BA) (e4 e5 e6 e7 e8 c4 : Int) (a9 : OA) (b7 b3 : Nat) (c1 c2 : BA) (c5 : Int) (c3 : Bool) (b0 : OA) (b8 b4 : Nat) (c6 c7 c8 c9 : Int) (b1 : OA) (b9 b5 : Nat) (b2 : OA) (c0 b6 bm1 : Nat) (w6 w7 : Int) (w5 : Bool) (w8 : Int) (w4 : BA) (w9 x0 x1 x2 x3 u7 : Int) (h0 : OA) (h8 h4 : Nat) (u2 u3 : BA) (u9 : Int) (u5 : Bool) (h1 : OA) (h9 h5 : Nat) (v0 v1 v2 v3 : Int) (h2 : OA) (u0 h6 : Nat) (h3 : OA) (u1 h7 bm2 : Nat) (v4 v5 : Int) (u6 : Bool) (v6 : Int) (u4 : BA) (v7 v8 v9 w0 w1 g4 : Int) (e9 : OA) (f7 f3 : Nat) (g1 g2 : BA) (g5 : Int) (g3 : Bool) (f0 : OA) (f8 f4 : Nat) (g6 g7 g8 g9 : Int) (f1 : OA) (f9 f5 : Nat) (f2 : OA) (g0 f6 bm3 : Nat) (bc bd : Int) (ax : Bool) (be : Int) (aw : BA) (bf bg bh bi bj ao : Int) (x6 : OA) (y8 y2 : Nat) (z6 z7 : BA) (ap : Int) (z9 : Bool) (x7 : OA) (y9 y3 : Nat) (aq ar au av : Int) (x8 : OA) (z0 y4 : Nat) (x9 : OA) (z1 y5 : Nat) (R : VWP) (w : World) : Prop :=
 Calls pP 8 #[.int .i64 0, .slice d7 d8 w3] w fun e db => ∃ eu hd gf dt, e = .returned (.tuple #[.slice eu hd gf, .int .i64 dt]) ∧ yaJ [bm0, bm1, bm2, bm3] w db ∧
 ixA er et 1 6 fun ia =>
 ∀ aa, Adv [] [] db aa →
 yaA .i64 aa (Addr.add ia 1) fun ju =>
 brB (ju == 2) (
 al aa (.cells (Z2 e1 e2 e0 e3 d9 e4 e5 e6 e7 e8 c4 a9 b7 b3 c1 c2 c5 c3 b0 b8 b4 c6 c7 c8 c9 b1 b9 b5 b2 c0 b6 v4 v5 u6 v6 u4 v7 v8 v9 w0 w1 g4 e9 f7 f3 g1 g2 g5 g3 f0 f8 f4 g6 g7 g8 g9 f1 f9 f5 f2 g0 f6 w6 w7 w5 w8 w4 w9 x0 x1 x2 x3 u7 h0 h8 h4 u2 u3 u9 u5 h1 h9 h5 v0 v1 v2 v3 h2 u0 h6 h3 u1 h7 bc bd ax be aw bf bg bh bi bj ao x6 y8 y2 z6 z7 ap z9 x7 y9 y3 aq ar au av x8 z0 y4 x9 z1 y5) 46) fun fs dc =>
 Calls pP 11 (Z10 4 d7 d8 w3 (some ⟨fs, 0, none⟩) 4 4) dc fun e ay => ∃ du, e = .returned (.int .i64 du) ∧ yaJ [bm0, bm1, bm2, bm3] dc ay ∧
 brB (du == (-1)) (
 al ay (.cells (Z1 v4 v5 u6 v6 u4 v7 v8 v9 w0 w1 g4 e9 f7 f3 g1 g2 g5 g3 f0 f8 f4 g6 g7 g8 g9 f1 f9 f5 f2 g0 f6) 46) fun ft dd =>
 Calls pP 11 (Z10 4 d7 d8 w3 (some ⟨ft, 0, none⟩) 1 1) dd fun e az => ∃ dv, e = .returned (.int .i64 dv) ∧ yaJ [bm0, bm1, bm2, bm3] dd az ∧
 brB (dv == 0) (
 al az (.cells (Z2 w6 w7 w5 w8 w4 w9 x0 x1 x2 x3 u7 h0 h8 h4 u2 u3 u9 u5 h1 h9 h5 v0 v1 v2 v3 h2 u0 h6 h3 u1 h7 bc bd ax be aw bf bg bh bi bj ao x6 y8 y2 z6 z7 ap z9 x7 y9 y3 aq ar au av x8 z0 y4 x9 z1 y5 e1 e2 e0 e3 d9 e4 e5 e6 e7 e8 c4 a9 b7 b3 c1 c2 c5 c3 b0 b8 b4 c6 c7 c8 c9 b1 b9 b5 b2 c0 b6 v4 v5 u6 v6 u4 v7 v8 v9 w0 w1 g4 e9 f7 f3 g1 g2 g5 g3 f0 f8 f4 g6 g7 g8 g9 f1 f9 f5 f2 g0 f6) 46) fun fu de =>
 Calls pP 11 (Z10 4 d7 d8 w3 (some ⟨fu, 0, none⟩) 4 4) de fun e ba => ∃ dw, e = .returned (.int .i64 dw) ∧ yaJ [bm0, bm1, bm2, bm3] de ba ∧
 brB (dw == 3) (
 al ba (.cells (Z2 e1 e2 e0 e3 d9 e4 e5 e6 e7 e8 c4 a9 b7 b3 c1 c2 c5 c3 b0 b8 b4 c6 c7 c8 c9 b1 b9 b5 b2 c0 b6 w6 w7 w5 w8 w4 w9 x0 x1 x2 x3 u7 h0 h8 h4 u2 u3 u9 u5 h1 h9 h5 v0 v1 v2 v3 h2 u0 h6 h3 u1 h7 bc bd ax be aw bf bg bh bi bj ao x6 y8 y2 z6 z7 ap z9 x7 y9 y3 aq ar au av x8 z0 y4 x9 z1 y5 v4 v5 u6 v6 u4 v7 v8 v9 w0 w1 g4 e9 f7 f3 g1 g2 g5 g3 f0 f8 f4 g6 g7 g8 g9 f1 f9 f5 f2 g0 f6) 46) fun fv df =>
 Calls pP 11 (Z10 4 d7 d8 w3 (some ⟨fv, 0, none⟩) 4 4) df fun e a4 => ∃ dx, e = .returned (.int .i64 dx) ∧ yaJ [bm0, bm1, bm2, bm3] df a4 ∧
 brB (dx == (-1)) (
 ixA d7 d8 0 16 fun d0 =>
 yaA .i64 a4 d0 fun jv => yaA .i64 a4 (Addr.add d0 1) fun jw => yaA .i64 a4 (Addr.add d0 2) fun jx => yaC a4 (Addr.add d0 3) fun ib => yaA .i64 a4 (Addr.add d0 4) fun jy => yaA .i64 a4 (Addr.add d0 5) fun jz => yaA .i64 a4 (Addr.add d0 6) fun ka => yaA .i64 a4 (Addr.add d0 7) fun kb => yaA .i64 a4 (Addr.add d0 8) fun kc => yaA .i64 a4 (Addr.add d0 9) fun kd => yaB a4 (Addr.add d0 10) fun ew he gg => yaC a4 (Addr.add d0 11) fun ic => yaC a4 (Addr.add d0 12) fun id => yaA .i64 a4 (Addr.add d0 13) fun ke => yaG a4 (Addr.add d0 14) fun ji => yaB a4 (Addr.add d0 15) fun ex hf gh =>
 ixA er et 1 6 fun z2 =>
 yaA .i64 a4 z2 fun kf => yaA .i64 a4 (Addr.add z2 1) fun kg => yaA .i64 a4 (Addr.add z2 2) fun kh => yaA .i64 a4 (Addr.add z2 3) fun ki => yaB a4 (Addr.add z2 4) fun ey hg gi => yaB a4 (Addr.add z2 5) fun ez hh gj =>
 Calls pP 10 #[(.agg (Z0 jv jw jx ib jy jz ka kb kc kd ew he gg ic id ke ji ex hf gh)), (.agg (Z3 kf kg kh ki ey hg gi ez hh gj))] a4 fun e dg => ∃ dy dz cq ea cn eb ec ed ee ef eg bo cf bx co cp eh cr bp ch bz ei ej ek el bq ci ca br cj cb, e = .returned (.agg (Z1 dy dz cq ea cn eb ec ed ee ef eg bo cf bx co cp eh cr bp ch bz ei ej ek el bq ci ca br cj cb)) ∧ yaJ [bm0, bm1, bm2, bm3] a4 dg ∧ (((.agg (Z1 e1 e2 e0 e3 d9 e4 e5 e6 e7 e8 c4 a9 b7 b3 c1 c2 c5 c3 b0 b8 b4 c6 c7 c8 c9 b1 b9 b5 b2 c0 b6)) : Value) = (.agg (Z1 e1 e2 e0 e3 d9 e4 e5 e6 e7 e8 c4 a9 b7 b3 c1 c2 c5 c3 b0 b8 b4 c6 c7 c8 c9 b1 b9 b5 b2 c0 b6))) ∧
 al dg (.cells #[.int .i64 e1, .int .i64 e2, .bool e0, .int .i64 e3, .string d9, .int .i64 e4, .int .i64 e5, .int .i64 e6, .int .i64 e7, .int .i64 e8, .int .i64 c4, .slice a9 b7 b3, .string c1, .string c2, .int .i64 c5, .bool c3, .slice b0 b8 b4, .int .i64 c6, .int .i64 c7, .int .i64 c8, .int .i64 c9, .slice b1 b9 b5, .slice b2 c0 b6, .int .i64 dy, .int .i64 dz, .bool cq, .int .i64 ea, .string cn, .int .i64 eb, .int .i64 ec, .int .i64 ed, .int .i64 ee, .int .i64 ef, .int .i64 eg, .slice bo cf bx, .string co, .string cp, .int .i64 eh, .bool cr, .slice bp ch bz, .int .i64 ei, .int .i64 ej, .int .i64 ek, .int .i64 el, .slice bq ci ca, .slice br cj cb] 46) fun fw dh =>
 Calls pP 11 (Z10 4 d7 d8 w3 (some ⟨fw, 0, none⟩) 2 2) dh fun e bb => ∃ em, e = .returned (.int .i64 em) ∧ yaJ [bm0, bm1, bm2, bm3] dh bb ∧
 brB (em == 1) (
 al bb (.cells (Z1 e1 e2 e0 e3 d9 e4 e5 e6 e7 e8 c4 a9 b7 b3 c1 c2 c5 c3 b0 b8 b4 c6 c7 c8 c9 b1 b9 b5 b2 c0 b6) 46) fun fx di =>
 Calls pP 11 (Z10 0 d7 d8 w3 (some ⟨fx, 0, none⟩) 1 1) di fun e ab => ∃ en, e = .returned (.int .i64 en) ∧ yaJ [bm0, bm1, bm2, bm3] di ab ∧
 brB (en == 0) (
 Calls pP 11 (Z10 4 none 0 0 none 0 0) ab fun e w2 => ∃ eo, e = .returned (.int .i64 eo) ∧ yaJ [bm0, bm1, bm2, bm3] ab w2 ∧
 brB (eo == (-1)) (
 brB (dt == 1) (
 Calls pP 17 #[.slice d7 d8 w3, .int .i64 2, .int .i64 1] w2 fun e ac => ∃ ep, e = .returned (.int .i64 ep) ∧ yaJ [bm0, bm1, bm2, bm3] w2 ac ∧
 brB (ep == 1) (
 Calls pP 17 #[.slice d7 d8 w3, .int .i64 2, .int .i64 2] ac fun e a5 => ∃ eq, e = .returned (.int .i64 eq) ∧ yaJ [bm0, bm1, bm2, bm3] ac a5 ∧
 brB (eq == (-1)) (
 ixA d7 d8 1 16 fun a0 =>
 yaA .i64 a5 a0 fun ad => yaA .i64 a5 (Addr.add a0 1) fun ae => yaA .i64 a5 (Addr.add a0 2) fun af => yaC a5 (Addr.add a0 3) fun z3 => yaA .i64 a5 (Addr.add a0 4) fun ag => yaA .i64 a5 (Addr.add a0 5) fun ah => yaA .i64 a5 (Addr.add a0 6) fun ai => yaA .i64 a5 (Addr.add a0 7) fun aj => yaA .i64 a5 (Addr.add a0 8) fun ak => yaA .i64 a5 (Addr.add a0 9) fun am => yaB a5 (Addr.add a0 10) fun x4 y6 y0 => yaC a5 (Addr.add a0 11) fun z4 => yaC a5 (Addr.add a0 12) fun z5 => yaA .i64 a5 (Addr.add a0 13) fun an => yaG a5 (Addr.add a0 14) fun z8 => yaB a5 (Addr.add a0 15) fun x5 y7 y1 =>
 ((
 al a5 (.cells #[.int .i64 e1, .int .i64 e2, .bool e0, .int .i64 e3, .string d9, .int .i64 e4, .int .i64 e5, .int .i64 e6, .int .i64 e7, .int .i64 e8, .int .i64 c4, .slice a9 b7 b3, .string c1, .string c2, .int .i64 c5, .bool c3, .slice b0 b8 b4, .int .i64 c6, .int .i64 c7, .int .i64 c8, .int .i64 c9, .slice b1 b9 b5, .slice b2 c0 b6, .int .i64 w6, .int .i64 w7, .bool w5, .int .i64 w8, .string w4, .int .i64 w9, .int .i64 x0, .int .i64 x1, .int .i64 x2, .int .i64 x3, .int .i64 u7, .slice h0 h8 h4, .string u2, .string u3, .int .i64 u9, .bool u5, .slice h1 h9 h5, .int .i64 v0, .int .i64 v1, .int .i64 v2, .int .i64 v3, .slice h2 u0 h6, .slice h3 u1 h7, .int .i64 v4, .int .i64 v5, .bool u6, .int .i64 v6, .string u4, .int .i64 v7, .int .i64 v8, .int .i64 v9, .int .i64 w0, .int .i64 w1, .int .i64 g4, .slice e9 f7 f3, .string g1, .string g2, .int .i64 g5, .bool g3, .slice f0 f8 f4, .int .i64 g6, .int .i64 g7, .int .i64 g8, .int .i64 g9, .slice f1 f9 f5, .slice f2 g0 f6] 46) fun bw bn =>
 ((
 Calls pP 12 #[(.slice (some ⟨bw, 0, none⟩) 3 3)] bn fun e a8 => ∃ bt ck cc, e = .returned (.slice bt ck cc) ∧ yaJ [bm0, bm1, bm2, bm3] bn a8 ∧ (yaA .i64 a8 a0 fun kj => yaA .i64 a8 (Addr.add a0 1) fun kk => yaA .i64 a8 (Addr.add a0 2) fun kl => yaC a8 (Addr.add a0 3) fun ie => yaA .i64 a8 (Addr.add a0 4) fun km => yaA .i64 a8 (Addr.add a0 5) fun kn => yaA .i64 a8 (Addr.add a0 6) fun ko => yaA .i64 a8 (Addr.add a0 7) fun kp => yaA .i64 a8 (Addr.add a0 8) fun kq => yaA .i64 a8 (Addr.add a0 9) fun kr => yaB a8 (Addr.add a0 10) fun fa hi gk => yaC a8 (Addr.add a0 11) fun ig => yaC a8 (Addr.add a0 12) fun ih => yaA .i64 a8 (Addr.add a0 13) fun ks => yaG a8 (Addr.add a0 14) fun jj => yaB a8 (Addr.add a0 15) fun fb hj gl => ((.agg (Z0 kj kk kl ie km kn ko kp kq kr fa hi gk ig ih ks jj fb hj gl)) : Value) = (.agg (Z0 ad ae af z3 ag ah ai aj ak am x4 y6 y0 z4 z5 an z8 x5 y7 y1))) ∧
 al a8 (.cells (Z0 ad ae af z3 ag ah ai aj ak am x4 y6 y0 z4 z5 an z8 x5 y7 y1) 35) fun fy dj =>
 Calls pP 18 #[.slice bt ck cc, (.slice (some ⟨fy, 0, none⟩) 1 1)] dj fun e bk => ∃ cs, e = .returned (.bool cs) ∧ yaJ [bm0, bm1, bm2, bm3] dj bk ∧
 brB cs (
 Calls pP 13 #[.slice d7 d8 w3] bk fun e a1 => ∃ ct, e = .returned (.bool ct) ∧ yaJ [bm0, bm1, bm2, bm3] bk a1 ∧
 brB ct (
 ixA d7 d8 0 16 fun d1 =>
 yaA .i64 a1 d1 fun kt => yaA .i64 a1 (Addr.add d1 1) fun ku => yaA .i64 a1 (Addr.add d1 2) fun kv => yaC a1 (Addr.add d1 3) fun ii => yaA .i64 a1 (Addr.add d1 4) fun kw => yaA .i64 a1 (Addr.add d1 5) fun kx => yaA .i64 a1 (Addr.add d1 6) fun ky => yaA .i64 a1 (Addr.add d1 7) fun kz => yaA .i64 a1 (Addr.add d1 8) fun la => yaA .i64 a1 (Addr.add d1 9) fun lc => yaB a1 (Addr.add d1 10) fun fc hk gm => yaC a1 (Addr.add d1 11) fun ij => yaC a1 (Addr.add d1 12) fun ik => yaA .i64 a1 (Addr.add d1 13) fun le => yaG a1 (Addr.add d1 14) fun jl => yaB a1 (Addr.add d1 15) fun fd hl gn =>
 ixA d7 d8 0 16 fun d2 =>
 yaA .i64 a1 d2 fun lf => yaA .i64 a1 (Addr.add d2 1) fun lg => yaA .i64 a1 (Addr.add d2 2) fun lh => yaC a1 (Addr.add d2 3) fun il => yaA .i64 a1 (Addr.add d2 4) fun li => yaA .i64 a1 (Addr.add d2 5) fun lj => yaA .i64 a1 (Addr.add d2 6) fun lk => yaA .i64 a1 (Addr.add d2 7) fun ll => yaA .i64 a1 (Addr.add d2 8) fun lm => yaA .i64 a1 (Addr.add d2 9) fun ln => yaB a1 (Addr.add d2 10) fun fe hm go => yaC a1 (Addr.add d2 11) fun im => yaC a1 (Addr.add d2 12) fun io => yaA .i64 a1 (Addr.add d2 13) fun lo => yaG a1 (Addr.add d2 14) fun jm => yaB a1 (Addr.add d2 15) fun ff hn gp =>
 al a1 (.cells (Z6 kt ku kv ii kw kx ky kz la lc fc hk gm ij ik le jl fd hl gn lf lg lh il li lj lk ll lm ln fe hm go im io lo jm ff hn gp) 35) fun fz dk =>
 Calls pP 13 #[(.slice (some ⟨fz, 0, none⟩) 2 2)] dk fun e dl => ∃ cu, e = .returned (.bool cu) ∧ yaJ [bm0, bm1, bm2, bm3] dk dl ∧
 R (.bool (!cu)) dl)
 (
 R (.bool false) a1))
 (
 R (.bool false) bk)) ∧
 (
 al bn (.cells (Z0 ad ae af z3 ag ah ai aj ak am x4 y6 y0 z4 z5 an z8 x5 y7 y1) 35) fun ga dm =>
 Calls pP 12 #[(.slice (some ⟨bw, 0, none⟩) 3 3)] dm fun e a6 => ∃ bu cl cd, e = .returned (.slice bu cl cd) ∧ yaJ [bm0, bm1, bm2, bm3] dm a6 ∧ (yaA .i64 a6 a0 fun lp => yaA .i64 a6 (Addr.add a0 1) fun lq => yaA .i64 a6 (Addr.add a0 2) fun lr => yaC a6 (Addr.add a0 3) fun ip => yaA .i64 a6 (Addr.add a0 4) fun ls => yaA .i64 a6 (Addr.add a0 5) fun lt => yaA .i64 a6 (Addr.add a0 6) fun lu => yaA .i64 a6 (Addr.add a0 7) fun lv => yaA .i64 a6 (Addr.add a0 8) fun lw => yaA .i64 a6 (Addr.add a0 9) fun lx => yaB a6 (Addr.add a0 10) fun fg ho gq => yaC a6 (Addr.add a0 11) fun iq => yaC a6 (Addr.add a0 12) fun ir => yaA .i64 a6 (Addr.add a0 13) fun ly => yaG a6 (Addr.add a0 14) fun jn => yaB a6 (Addr.add a0 15) fun fh hp gr => ((.agg (Z0 lp lq lr ip ls lt lu lv lw lx fg ho gq iq ir ly jn fh hp gr)) : Value) = (.agg (Z0 ad ae af z3 ag ah ai aj ak am x4 y6 y0 z4 z5 an z8 x5 y7 y1))) ∧
 Calls pP 18 #[.slice bu cl cd, (.slice (some ⟨ga, 0, none⟩) 1 1)] a6 fun e bl => ∃ cv, e = .returned (.bool cv) ∧ yaJ [bm0, bm1, bm2, bm3] a6 bl ∧
 brB cv (
 Calls pP 13 #[.slice d7 d8 w3] bl fun e a2 => ∃ cw, e = .returned (.bool cw) ∧ yaJ [bm0, bm1, bm2, bm3] bl a2 ∧
 brB cw (
 ixA d7 d8 0 16 fun d3 =>
 yaA .i64 a2 d3 fun lz => yaA .i64 a2 (Addr.add d3 1) fun ma => yaA .i64 a2 (Addr.add d3 2) fun mb => yaC a2 (Addr.add d3 3) fun it => yaA .i64 a2 (Addr.add d3 4) fun mc => yaA .i64 a2 (Addr.add d3 5) fun md => yaA .i64 a2 (Addr.add d3 6) fun me => yaA .i64 a2 (Addr.add d3 7) fun mf => yaA .i64 a2 (Addr.add d3 8) fun mg => yaA .i64 a2 (Addr.add d3 9) fun mh => yaB a2 (Addr.add d3 10) fun fi hq gs => yaC a2 (Addr.add d3 11) fun iu => yaC a2 (Addr.add d3 12) fun iv => yaA .i64 a2 (Addr.add d3 13) fun mi => yaG a2 (Addr.add d3 14) fun jo => yaB a2 (Addr.add d3 15) fun fj hr gt =>
 ixA d7 d8 0 16 fun d4 =>
 yaA .i64 a2 d4 fun mj => yaA .i64 a2 (Addr.add d4 1) fun mk => yaA .i64 a2 (Addr.add d4 2) fun ml => yaC a2 (Addr.add d4 3) fun iw => yaA .i64 a2 (Addr.add d4 4) fun mm => yaA .i64 a2 (Addr.add d4 5) fun mn => yaA .i64 a2 (Addr.add d4 6) fun mo => yaA .i64 a2 (Addr.add d4 7) fun mp => yaA .i64 a2 (Addr.add d4 8) fun mq => yaA .i64 a2 (Addr.add d4 9) fun mr => yaB a2 (Addr.add d4 10) fun fk hs gu => yaC a2 (Addr.add d4 11) fun ix => yaC a2 (Addr.add d4 12) fun iy => yaA .i64 a2 (Addr.add d4 13) fun ms => yaG a2 (Addr.add d4 14) fun jp => yaB a2 (Addr.add d4 15) fun fl ht gv =>
 al a2 (.cells (Z6 lz ma mb it mc md me mf mg mh fi hq gs iu iv mi jo fj hr gt mj mk ml iw mm mn mo mp mq mr fk hs gu ix iy ms jp fl ht gv) 35) fun gb dn =>
 Calls pP 13 #[(.slice (some ⟨gb, 0, none⟩) 2 2)] dn fun e dp => ∃ cx, e = .returned (.bool cx) ∧ yaJ [bm0, bm1, bm2, bm3] dn dp ∧
 R (.bool (!cx)) dp)
 (
 R (.bool false) a2))
 (
 R (.bool false) bl)))) ∧
 (
 al a5 (.cells (Z0 ad ae af z3 ag ah ai aj ak am x4 y6 y0 z4 z5 an z8 x5 y7 y1) 35) fun gc jt =>
 al jt (.cells #[.int .i64 e1, .int .i64 e2, .bool e0, .int .i64 e3, .string d9, .int .i64 e4, .int .i64 e5, .int .i64 e6, .int .i64 e7, .int .i64 e8, .int .i64 c4, .slice a9 b7 b3, .string c1, .string c2, .int .i64 c5, .bool c3, .slice b0 b8 b4, .int .i64 c6, .int .i64 c7, .int .i64 c8, .int .i64 c9, .slice b1 b9 b5, .slice b2 c0 b6, .int .i64 w6, .int .i64 w7, .bool w5, .int .i64 w8, .string w4, .int .i64 w9, .int .i64 x0, .int .i64 x1, .int .i64 x2, .int .i64 x3, .int .i64 u7, .slice h0 h8 h4, .string u2, .string u3, .int .i64 u9, .bool u5, .slice h1 h9 h5, .int .i64 v0, .int .i64 v1, .int .i64 v2, .int .i64 v3, .slice h2 u0 h6, .slice h3 u1 h7, .int .i64 v4, .int .i64 v5, .bool u6, .int .i64 v6, .string u4, .int .i64 v7, .int .i64 v8, .int .i64 v9, .int .i64 w0, .int .i64 w1, .int .i64 g4, .slice e9 f7 f3, .string g1, .string g2, .int .i64 g5, .bool g3, .slice f0 f8 f4, .int .i64 g6, .int .i64 g7, .int .i64 g8, .int .i64 g9, .slice f1 f9 f5, .slice f2 g0 f6] 46) fun gd dq =>
 Calls pP 12 #[(.slice (some ⟨gd, 0, none⟩) 3 3)] dq fun e a7 => ∃ bv cm ce, e = .returned (.slice bv cm ce) ∧ yaJ [bm0, bm1, bm2, bm3] dq a7 ∧ (yaA .i64 a7 a0 fun mt => yaA .i64 a7 (Addr.add a0 1) fun mu => yaA .i64 a7 (Addr.add a0 2) fun mv => yaC a7 (Addr.add a0 3) fun iz => yaA .i64 a7 (Addr.add a0 4) fun mw => yaA .i64 a7 (Addr.add a0 5) fun mx => yaA .i64 a7 (Addr.add a0 6) fun my => yaA .i64 a7 (Addr.add a0 7) fun mz => yaA .i64 a7 (Addr.add a0 8) fun na => yaA .i64 a7 (Addr.add a0 9) fun nb => yaB a7 (Addr.add a0 10) fun fm hu gw => yaC a7 (Addr.add a0 11) fun ja => yaC a7 (Addr.add a0 12) fun jb => yaA .i64 a7 (Addr.add a0 13) fun nc => yaG a7 (Addr.add a0 14) fun jq => yaB a7 (Addr.add a0 15) fun fn hv gx => ((.agg (Z0 mt mu mv iz mw mx my mz na nb fm hu gw ja jb nc jq fn hv gx)) : Value) = (.agg (Z0 ad ae af z3 ag ah ai aj ak am x4 y6 y0 z4 z5 an z8 x5 y7 y1))) ∧
 Calls pP 18 #[.slice bv cm ce, (.slice (some ⟨gc, 0, none⟩) 1 1)] a7 fun e bm => ∃ cy, e = .returned (.bool cy) ∧ yaJ [bm0, bm1, bm2, bm3] a7 bm ∧
 brB cy (
 Calls pP 13 #[.slice d7 d8 w3] bm fun e a3 => ∃ cz, e = .returned (.bool cz) ∧ yaJ [bm0, bm1, bm2, bm3] bm a3 ∧
 brB cz (
 ixA d7 d8 0 16 fun d5 =>
 yaA .i64 a3 d5 fun nd => yaA .i64 a3 (Addr.add d5 1) fun ne => yaA .i64 a3 (Addr.add d5 2) fun nf => yaC a3 (Addr.add d5 3) fun jc => yaA .i64 a3 (Addr.add d5 4) fun ng => yaA .i64 a3 (Addr.add d5 5) fun nh => yaA .i64 a3 (Addr.add d5 6) fun ni => yaA .i64 a3 (Addr.add d5 7) fun nj => yaA .i64 a3 (Addr.add d5 8) fun nk => yaA .i64 a3 (Addr.add d5 9) fun nl => yaB a3 (Addr.add d5 10) fun fo hw gy => yaC a3 (Addr.add d5 11) fun jd => yaC a3 (Addr.add d5 12) fun je => yaA .i64 a3 (Addr.add d5 13) fun nm => yaG a3 (Addr.add d5 14) fun jr => yaB a3 (Addr.add d5 15) fun fp hx gz =>
 ixA d7 d8 0 16 fun d6 =>
 yaA .i64 a3 d6 fun no => yaA .i64 a3 (Addr.add d6 1) fun np => yaA .i64 a3 (Addr.add d6 2) fun nq => yaC a3 (Addr.add d6 3) fun jf => yaA .i64 a3 (Addr.add d6 4) fun nr => yaA .i64 a3 (Addr.add d6 5) fun ns => yaA .i64 a3 (Addr.add d6 6) fun nt => yaA .i64 a3 (Addr.add d6 7) fun nu => yaA .i64 a3 (Addr.add d6 8) fun nv => yaA .i64 a3 (Addr.add d6 9) fun nw => yaB a3 (Addr.add d6 10) fun fq hy hb => yaC a3 (Addr.add d6 11) fun jg => yaC a3 (Addr.add d6 12) fun jh => yaA .i64 a3 (Addr.add d6 13) fun nx => yaG a3 (Addr.add d6 14) fun js => yaB a3 (Addr.add d6 15) fun fr hz hc =>
 al a3 (.cells (Z6 nd ne nf jc ng nh ni nj nk nl fo hw gy jd je nm jr fp hx gz no np nq jf nr ns nt nu nv nw fq hy hb jg jh nx js fr hz hc) 35) fun ge dr =>
 Calls pP 13 #[(.slice (some ⟨ge, 0, none⟩) 2 2)] dr fun e ds => ∃ da, e = .returned (.bool da) ∧ yaJ [bm0, bm1, bm2, bm3] dr ds ∧
 R (.bool (!da)) ds)
 (
 R (.bool false) a3))
 (
 R (.bool false) bm))))
 (
 ((
 ((
 R (.bool false) a5) ∧
 (
 R (.bool false) a5))) ∧
 (
 R (.bool false) a5))))
 (
 ((
 ((
 R (.bool false) ac) ∧
 (
 R (.bool false) ac))) ∧
 (
 R (.bool false) ac))))
 (
 ((
 ((
 R (.bool false) w2) ∧
 (
 R (.bool false) w2))) ∧
 (
 R (.bool false) w2))))
 (
 ((
 ((
 R (.bool false) w2) ∧
 (
 R (.bool false) w2))) ∧
 (
 R (.bool false) w2))))
 (
 ((
 ((
 R (.bool false) ab) ∧
 (
 R (.bool false) ab))) ∧
 (
 R (.bool false) ab))))
 (
 ((
 ((
 R (.bool false) bb) ∧
 (
 R (.bool false) bb))) ∧
 (
 R (.bool false) bb))))
 (
 ((
 ((
 R (.bool false) a4) ∧
 (
 R (.bool false) a4))) ∧
 (
 R (.bool false) a4))))
 (
 ((
 ((
 R (.bool false) ba) ∧
 (
 R (.bool false) ba))) ∧
 (
 R (.bool false) ba))))
 (
 ((
 ((
 R (.bool false) az) ∧
 (
 R (.bool false) az))) ∧
 (
 R (.bool false) az))))
 (
 ((
 ((
 R (.bool false) ay) ∧
 (
 R (.bool false) ay))) ∧
 (
 R (.bool false) ay))))
 (
 ((
 ((
 R (.bool false) aa) ∧
 (
 R (.bool false) aa))) ∧
 (
 R (.bool false) aa)))
theorem yqJ {cp cq cr cs : Int} {bh ap bm30 : Nat} {ee : Int} {ef eg eh ei ej ct : Int} {bi aq : Nat} {cu : Int} {bj ar : Nat} {cv cw cx cy : Int} {bk au : Nat} {bl av : Nat} (J : Option Addr → Nat → Nat → Option Addr → Nat → Nat → Nat → Int → Int → Bool → Int → ByteArray → Int → Int → Int → Int → Int → Int → Option Addr → Nat → Nat → ByteArray → ByteArray → Int → Bool → Option Addr → Nat → Nat → Int → Int → Int → Int → Option Addr → Nat → Nat → Option Addr → Nat → Nat → Nat → Int → Int → Bool → Int → ByteArray → Int → Int → Int → Int → Int → Int → Option Addr → Nat → Nat → ByteArray → ByteArray → Int → Bool → Option Addr → Nat → Nat → Int → Int → Int → Int → Option Addr → Nat → Nat → Option Addr → Nat → Nat → Nat → Int → Int → Bool → Int → ByteArray → Int → Int → Int → Int → Int → Int → Option Addr → Nat → Nat → ByteArray → ByteArray → Int → Bool → Option Addr → Nat → Nat → Int → Int → Int → Int → Option Addr → Nat → Nat → Option Addr → Nat → Nat → Nat → Int → Int → Bool → Int → ByteArray → Int → Int → Int → Int → Int → Int → Option Addr → Nat → Nat → ByteArray → ByteArray → Int → Bool → Option Addr → Nat → Nat → Int → Int → Int → Int → Option Addr → Nat → Nat → Option Addr → Nat → Nat → World → Prop) (h0 : J q0 n0 n1 q1 n2 n3 n4 i0 i1 B0 i2 s0 i3 i4 i5 i6 i7 i8 q2 n5 n6 s1 s2 i9 B1 q3 n7 n8 j0 j1 j2 j3 q4 n9 o0 q5 o1 o2 o3 j4 j5 B2 j6 s3 j7 j8 j9 k0 k1 k2 q6 o4 o5 s4 s5 k3 B3 q7 o6 o7 k4 k5 k6 k7 q8 o8 o9 q9 p0 p1 p2 k8 k9 B4 l0 s6 l1 l2 l3 l4 l5 l6 r0 p3 p4 s7 s8 l7 B5 r1 p5 p6 cp cq cr cs r2 p7 p8 r3 bh ap bm30 l8 l9 B6 ee s9 ef eg eh ei ej ct r4 bi aq t0 t1 cu B7 r5 bj ar cv cw cx cy r6 bk au r7 bl av w0)
 (hr : ∀ ek eo em el ep en bm0 v4 v5 v0 v6 u5 v7 v8 v9 w1 w2 i1 a4 d6 c0 f2 f3 g4 g0 a5 d7 c1 g5 g6 g7 g8 a6 d8 c2 a7 d9 c3 bm1 w3 w4 v1 w5 u6 w6 w7 w8 w9 x0 j5 a8 e0 c4 f4 f5 g9 g1 a9 e1 c5 h1 h2 h3 h4 b0 e2 c6 b1 e3 c7 bm2 x1 x2 v2 x3 u7 x4 x5 x6 x7 x8 k9 b2 e4 c8 f6 f7 h5 g2 b3 e5 c9 h6 h7 h8 h9 b4 e6 d0 b5 e7 d1 bm3 x9 y0 v3 y1 u9 y2 y3 y4 y5 y6 l9 b6 e8 d2 f8 f9 u0 g3 b7 e9 d3 u1 u2 u3 u4 b8 f0 d4 b9 f1 d5 w, J ek eo em el ep en bm0 v4 v5 v0 v6 u5 v7 v8 v9 w1 w2 i1 a4 d6 c0 f2 f3 g4 g0 a5 d7 c1 g5 g6 g7 g8 a6 d8 c2 a7 d9 c3 bm1 w3 w4 v1 w5 u6 w6 w7 w8 w9 x0 j5 a8 e0 c4 f4 f5 g9 g1 a9 e1 c5 h1 h2 h3 h4 b0 e2 c6 b1 e3 c7 bm2 x1 x2 v2 x3 u7 x4 x5 x6 x7 x8 k9 b2 e4 c8 f6 f7 h5 g2 b3 e5 c9 h6 h7 h8 h9 b4 e6 d0 b5 e7 d1 bm3 x9 y0 v3 y1 u9 y2 y3 y4 y5 y6 l9 b6 e8 d2 f8 f9 u0 g3 b7 e9 d3 u1 u2 u3 u4 b8 f0 d4 b9 f1 d5 w → ylU ek eo em el ep en bm0 v4 v5 v0 v6 u5 v7 v8 v9 w1 w2 i1 a4 d6 c0 f2 f3 g4 g0 a5 d7 c1 g5 g6 g7 g8 a6 d8 c2 a7 d9 c3 bm1 w3 w4 v1 w5 u6 w6 w7 w8 w9 x0 j5 a8 e0 c4 f4 f5 g9 g1 a9 e1 c5 h1 h2 h3 h4 b0 e2 c6 b1 e3 c7 bm2 x1 x2 v2 x3 u7 x4 x5 x6 x7 x8 k9 b2 e4 c8 f6 f7 h5 g2 b3 e5 c9 h6 h7 h8 h9 b4 e6 d0 b5 e7 d1 bm3 x9 y0 v3 y1 u9 y2 y3 y4 y5 y6 l9 b6 e8 d2 f8 f9 u0 g3 b7 e9 d3 u1 u2 u3 u4 b8 f0 d4 b9 f1 d5 R w) :
 yaZ ybX ((yb0 394 [1, 1, 1, 1, 1, 1]) (yb1 [1, 1, 1, 1, 1] [] R)) (ycS (q0, n0, n1, q1, n2, n3, n4, i0, i1, B0, i2, s0, i3, i4, i5, i6, i7, i8, q2, n5, n6, s1, s2, i9, B1, q3, n7, n8, j0, j1, j2, j3, q4, n9, o0, q5, o1, o2, o3, j4, j5, B2, j6, s3, j7, j8, j9, k0, k1, k2, q6, o4, o5, s4, s5, k3, B3, q7, o6, o7, k4, k5, k6, k7, q8, o8, o9, q9, p0, p1, p2, k8, k9, B4, l0, s6, l1, l2, l3, l4, l5, l6, r0, p3, p4, s7, s8, l7, B5, r1, p5, p6, cp, cq, cr, cs, r2, p7, p8, r3, bh, ap, bm30, l8, l9, B6, ee, s9, ef, eg, eh, ei, ej, ct, r4, bi, aq, t0, t1, cu, B7, r5, bj, ar, cv, cw, cx, cy, r6, bk, au, r7, bl, av)) w0 :=
 crule (ycS) (yfM J) h0 (by rintro ⟨ek, eo, em, el, ep, en, bm0, v4, v5, v0, v6, u5, v7, v8, v9, w1, w2, i1, a4, d6, c0, f2, f3, g4, g0, a5, d7, c1, g5, g6, g7, g8, a6, d8, c2, a7, d9, c3, bm1, w3, w4, v1, w5, u6, w6, w7, w8, w9, x0, j5, a8, e0, c4, f4, f5, g9, g1, a9, e1, c5, h1, h2, h3, h4, b0, e2, c6, b1, e3, c7, bm2, x1, x2, v2, x3, u7, x4, x5, x6, x7, x8, k9, b2, e4, c8, f6, f7, h5, g2, b3, e5, c9, h6, h7, h8, h9, b4, e6, d0, b5, e7, d1, bm3, x9, y0, v3, y1, u9, y2, y3, y4, y5, y6, l9, b6, e8, d2, f8, f9, u0, g3, b7, e9, d3, u1, u2, u3, u4, b8, f0, d4, b9, f1, d5⟩ w h; exact ⟨by kernel_rfl, by kernel_rfl, fun js => Eq.mpr (by kernel_rfl) (hr ek eo em el ep en bm0 v4 v5 v0 v6 u5 v7 v8 v9 w1 w2 i1 a4 d6 c0 f2 f3 g4 g0 a5 d7 c1 g5 g6 g7 g8 a6 d8 c2 a7 d9 c3 bm1 w3 w4 v1 w5 u6 w6 w7 w8 w9 x0 j5 a8 e0 c4 f4 f5 g9 g1 a9 e1 c5 h1 h2 h3 h4 b0 e2 c6 b1 e3 c7 bm2 x1 x2 v2 x3 u7 x4 x5 x6 x7 x8 k9 b2 e4 c8 f6 f7 h5 g2 b3 e5 c9 h6 h7 h8 h9 b4 e6 d0 b5 e7 d1 bm3 x9 y0 v3 y1 u9 y2 y3 y4 y5 y6 l9 b6 e8 d2 f8 f9 u0 g3 b7 e9 d3 u1 u2 u3 u4 b8 f0 d4 b9 f1 d5 w h)⟩)
theorem ycE {h4 h5 h6 h7 : Int} {e3 c7 bm3 : Nat} {cr : Int} {cs ct cu cv cw h8 : Int} {e4 c8 : Nat} {h9 : Int} {e5 c9 : Nat} {u0 u1 u2 u3 : Int} {e6 d0 : Nat} {e7 d1 : Nat} (h : ylU q0 n0 n1 q1 n2 n3 n4 i0 i1 B0 i2 s0 i3 i4 i5 i6 i7 i8 q2 n5 n6 s1 s2 i9 B1 q3 n7 n8 j0 j1 j2 j3 q4 n9 o0 q5 o1 o2 o3 j4 j5 B2 j6 s3 j7 j8 j9 k0 k1 k2 q6 o4 o5 s4 s5 k3 B3 q7 o6 o7 k4 k5 k6 k7 q8 o8 o9 q9 p0 p1 p2 k8 k9 B4 l0 s6 l1 l2 l3 l4 l5 l6 r0 p3 p4 s7 s8 l7 B5 r1 p5 p6 h4 h5 h6 h7 r2 p7 p8 r3 e3 c7 bm3 l8 l9 B6 cr s9 cs ct cu cv cw h8 r4 e4 c8 t0 t1 h9 B7 r5 e5 c9 u0 u1 u2 u3 r6 e6 d0 r7 e7 d1 R w) :
 yaZ ybX ((yb0 394 [1, 1, 1, 1, 1, 1]) (yb1 [1, 1, 1, 1, 1] [] R)) (ycS (q0, n0, n1, q1, n2, n3, n4, i0, i1, B0, i2, s0, i3, i4, i5, i6, i7, i8, q2, n5, n6, s1, s2, i9, B1, q3, n7, n8, j0, j1, j2, j3, q4, n9, o0, q5, o1, o2, o3, j4, j5, B2, j6, s3, j7, j8, j9, k0, k1, k2, q6, o4, o5, s4, s5, k3, B3, q7, o6, o7, k4, k5, k6, k7, q8, o8, o9, q9, p0, p1, p2, k8, k9, B4, l0, s6, l1, l2, l3, l4, l5, l6, r0, p3, p4, s7, s8, l7, B5, r1, p5, p6, h4, h5, h6, h7, r2, p7, p8, r3, e3, c7, bm3, l8, l9, B6, cr, s9, cs, ct, cu, cv, cw, h8, r4, e4, c8, t0, t1, h9, B7, r5, e5, c9, u0, u1, u2, u3, r6, e6, d0, r7, e7, d1)) w :=
 yqJ (fun en ex er ep ez eu bm0' df dg db dh cx di dj dk dl dm aq u4 x7 w1 z3 z4 ar af u5 x8 w2 au av aw ax u6 x9 w3 u7 y0 w4 bm1' dn dp dc dq cy dr ds dt du dv bg u9 y1 w5 z6 z7 bh ah v0 y2 w6 bi bj bk bl v1 y3 w7 v2 y4 w8 bm2' dw dx dd dy cz dz ea eb ec ed bv v3 y5 w9 z9 aa bw aj v4 y6 x0 bx bz ca cb v5 y7 x1 v6 y8 x2 bm3' ee ef de eg da eh ei ej ek el cl v7 y9 x3 ac ad cm am v8 z0 x4 cn co cp cq v9 z1 x5 w0 z2 x6 w' => en = q0 ∧ ex = n0 ∧ er = n1 ∧ ep = q1 ∧ ez = n2 ∧ eu = n3 ∧ bm0' = n4 ∧ df = i0 ∧ dg = i1 ∧ db = B0 ∧ dh = i2 ∧ cx = s0 ∧ di = i3 ∧ dj = i4 ∧ dk = i5 ∧ dl = i6 ∧ dm = i7 ∧ aq = i8 ∧ u4 = q2 ∧ x7 = n5 ∧ w1 = n6 ∧ z3 = s1 ∧ z4 = s2 ∧ ar = i9 ∧ af = B1 ∧ u5 = q3 ∧ x8 = n7 ∧ w2 = n8 ∧ au = j0 ∧ av = j1 ∧ aw = j2 ∧ ax = j3 ∧ u6 = q4 ∧ x9 = n9 ∧ w3 = o0 ∧ u7 = q5 ∧ y0 = o1 ∧ w4 = o2 ∧ bm1' = o3 ∧ dn = j4 ∧ dp = j5 ∧ dc = B2 ∧ dq = j6 ∧ cy = s3 ∧ dr = j7 ∧ ds = j8 ∧ dt = j9 ∧ du = k0 ∧ dv = k1 ∧ bg = k2 ∧ u9 = q6 ∧ y1 = o4 ∧ w5 = o5 ∧ z6 = s4 ∧ z7 = s5 ∧ bh = k3 ∧ ah = B3 ∧ v0 = q7 ∧ y2 = o6 ∧ w6 = o7 ∧ bi = k4 ∧ bj = k5 ∧ bk = k6 ∧ bl = k7 ∧ v1 = q8 ∧ y3 = o8 ∧ w7 = o9 ∧ v2 = q9 ∧ y4 = p0 ∧ w8 = p1 ∧ bm2' = p2 ∧ dw = k8 ∧ dx = k9 ∧ dd = B4 ∧ dy = l0 ∧ cz = s6 ∧ dz = l1 ∧ ea = l2 ∧ eb = l3 ∧ ec = l4 ∧ ed = l5 ∧ bv = l6 ∧ v3 = r0 ∧ y5 = p3 ∧ w9 = p4 ∧ z9 = s7 ∧ aa = s8 ∧ bw = l7 ∧ aj = B5 ∧ v4 = r1 ∧ y6 = p5 ∧ x0 = p6 ∧ bx = h4 ∧ bz = h5 ∧ ca = h6 ∧ cb = h7 ∧ v5 = r2 ∧ y7 = p7 ∧ x1 = p8 ∧ v6 = r3 ∧ y8 = e3 ∧ x2 = c7 ∧ bm3' = bm3 ∧ ee = l8 ∧ ef = l9 ∧ de = B6 ∧ eg = cr ∧ da = s9 ∧ eh = cs ∧ ei = ct ∧ ej = cu ∧ ek = cv ∧ el = cw ∧ cl = h8 ∧ v7 = r4 ∧ y9 = e4 ∧ x3 = c8 ∧ ac = t0 ∧ ad = t1 ∧ cm = h9 ∧ am = B7 ∧ v8 = r5 ∧ z0 = e5 ∧ x4 = c9 ∧ cn = u0 ∧ co = u1 ∧ cp = u2 ∧ cq = u3 ∧ v9 = r6 ∧ z1 = e6 ∧ x5 = d0 ∧ w0 = r7 ∧ z2 = e7 ∧ x6 = d1 ∧ w' = w) ⟨rfl, rfl, rfl, rfl, rfl, rfl, rfl, rfl, rfl, rfl, rfl, rfl, rfl, rfl, rfl, rfl, rfl, rfl, rfl, rfl, rfl, rfl, rfl, rfl, rfl, rfl, rfl, rfl, rfl, rfl, rfl, rfl, rfl, rfl, rfl, rfl, rfl, rfl, rfl, rfl, rfl, rfl, rfl, rfl, rfl, rfl, rfl, rfl, rfl, rfl, rfl, rfl, rfl, rfl, rfl, rfl, rfl, rfl, rfl, rfl, rfl, rfl, rfl, rfl, rfl, rfl, rfl, rfl, rfl, rfl, rfl, rfl, rfl, rfl, rfl, rfl, rfl, rfl, rfl, rfl, rfl, rfl, rfl, rfl, rfl, rfl, rfl, rfl, rfl, rfl, rfl, rfl, rfl, rfl, rfl, rfl, rfl, rfl, rfl, rfl, rfl, rfl, rfl, rfl, rfl, rfl, rfl, rfl, rfl, rfl, rfl, rfl, rfl, rfl, rfl, rfl, rfl, rfl, rfl, rfl, rfl, rfl, rfl, rfl, rfl, rfl, rfl, rfl, rfl, rfl, rfl, rfl, rfl, rfl, rfl⟩ (by rintro en ex er ep ez eu bm0' df dg db dh cx di dj dk dl dm aq u4 x7 w1 z3 z4 ar af u5 x8 w2 au av aw ax u6 x9 w3 u7 y0 w4 bm1' dn dp dc dq cy dr ds dt du dv bg u9 y1 w5 z6 z7 bh ah v0 y2 w6 bi bj bk bl v1 y3 w7 v2 y4 w8 bm2' dw dx dd dy cz dz ea eb ec ed bv v3 y5 w9 z9 aa bw aj v4 y6 x0 bx bz ca cb v5 y7 x1 v6 y8 x2 bm3' ee ef de eg da eh ei ej ek el cl v7 y9 x3 ac ad cm am v8 z0 x4 cn co cp cq v9 z1 x5 w0 z2 x6 w' ⟨rfl, rfl, rfl, rfl, rfl, rfl, rfl, rfl, rfl, rfl, rfl, rfl, rfl, rfl, rfl, rfl, rfl, rfl, rfl, rfl, rfl, rfl, rfl, rfl, rfl, rfl, rfl, rfl, rfl, rfl, rfl, rfl, rfl, rfl, rfl, rfl, rfl, rfl, rfl, rfl, rfl, rfl, rfl, rfl, rfl, rfl, rfl, rfl, rfl, rfl, rfl, rfl, rfl, rfl, rfl, rfl, rfl, rfl, rfl, rfl, rfl, rfl, rfl, rfl, rfl, rfl, rfl, rfl, rfl, rfl, rfl, rfl, rfl, rfl, rfl, rfl, rfl, rfl, rfl, rfl, rfl, rfl, rfl, rfl, rfl, rfl, rfl, rfl, rfl, rfl, rfl, rfl, rfl, rfl, rfl, rfl, rfl, rfl, rfl, rfl, rfl, rfl, rfl, rfl, rfl, rfl, rfl, rfl, rfl, rfl, rfl, rfl, rfl, rfl, rfl, rfl, rfl, rfl, rfl, rfl, rfl, rfl, rfl, rfl, rfl, rfl, rfl, rfl, rfl, rfl, rfl, rfl, rfl, rfl, rfl⟩; exact h)
theorem yvJ (h :
 Calls pP 15 #[.int .i64 1, .int .i64 1] w fun e yd => ∃ wo wp wq wg wr ws wt wu wv ww vu wc vy wh wi wx wm vv wd vz, e = .returned (.agg (Z0 wo wp wq wg wr ws wt wu wv ww vu wc vy wh wi wx wm vv wd vz)) ∧
 Calls pP 15 #[.int .i64 2, .int .i64 1] yd fun e ye => ∃ wy wz xa wj xb xc xd xe xf xg vw we wa wk wl xh wn vx wf wb, e = .returned (.agg (Z0 wy wz xa wj xb xc xd xe xf xg vw we wa wk wl xh wn vx wf wb)) ∧
 al ye (.cells (Z6 wo wp wq wg wr ws wt wu wv ww vu wc vy wh wi wx wm vv wd vz wy wz xa wj xb xc xd xe xf xg vw we wa wk wl xh wn vx wf wb) 35) fun d2 yf =>
 Calls pP 8 #[.int .i64 4, (.slice (some ⟨d2, 0, none⟩) 2 2)] yf fun e so => ∃ d4 d3 d5 xi, e = .returned (.tuple #[.slice d4 d3 d5, .int .i64 xi]) ∧
 brB (xi != 0) (
 R (.bool false) so)
 (
 brB ((d3 : Int) != 2) (
 R (.bool false) so)
 (
 ixA (some ⟨d2, 0, none⟩) 2 0 16 fun c9 =>
 ∀ a1, Adv [] [] so a1 →
 yaA .i64 a1 c9 fun u4 => yaA .i64 a1 (Addr.add c9 1) fun u5 => yaA .i64 a1 (Addr.add c9 2) fun u6 => yaC a1 (Addr.add c9 3) fun u0 => yaA .i64 a1 (Addr.add c9 4) fun u7 => yaA .i64 a1 (Addr.add c9 5) fun u9 => yaA .i64 a1 (Addr.add c9 6) fun v0 => yaA .i64 a1 (Addr.add c9 7) fun v1 => yaA .i64 a1 (Addr.add c9 8) fun v2 => yaA .i64 a1 (Addr.add c9 9) fun v3 => yaB a1 (Addr.add c9 10) fun h4 h8 h6 => yaC a1 (Addr.add c9 11) fun u1 => yaC a1 (Addr.add c9 12) fun u2 => yaA .i64 a1 (Addr.add c9 13) fun v4 => yaG a1 (Addr.add c9 14) fun u3 => yaB a1 (Addr.add c9 15) fun h5 h9 h7 =>
 ixA (some ⟨d2, 0, none⟩) 2 1 16 fun a0 =>
 yaA .i64 a1 a0 fun b9 => yaA .i64 a1 (Addr.add a0 1) fun c0 => yaA .i64 a1 (Addr.add a0 2) fun c1 => yaC a1 (Addr.add a0 3) fun b5 => yaA .i64 a1 (Addr.add a0 4) fun c2 => yaA .i64 a1 (Addr.add a0 5) fun c3 => yaA .i64 a1 (Addr.add a0 6) fun c4 => yaA .i64 a1 (Addr.add a0 7) fun c5 => yaA .i64 a1 (Addr.add a0 8) fun c6 => yaA .i64 a1 (Addr.add a0 9) fun c7 => yaB a1 (Addr.add a0 10) fun a9 b3 b1 => yaC a1 (Addr.add a0 11) fun b6 => yaC a1 (Addr.add a0 12) fun b7 => yaA .i64 a1 (Addr.add a0 13) fun c8 => yaG a1 (Addr.add a0 14) fun b8 => yaB a1 (Addr.add a0 15) fun b0 b4 b2 =>
 ((
 Calls pP 9 #[(.agg (Z0 u4 u5 u6 u0 u7 u9 v0 v1 v2 v3 h4 h8 h6 u1 u2 v4 u3 h5 h9 h7))] a1 fun e a4 => ∃ f5 f6 f3 f7 f0 f8 f9 g0 g1 g2 g3 d8 e6 e2 f1 f2 g4 f4 d9 e7 e3 g5 g6 g7 g8 e0 e8 e4 e1 e9 e5, e = .returned (.agg (Z1 f5 f6 f3 f7 f0 f8 f9 g0 g1 g2 g3 d8 e6 e2 f1 f2 g4 f4 d9 e7 e3 g5 g6 g7 g8 e0 e8 e4 e1 e9 e5)) ∧ (yaA .i64 a4 a0 fun xt => yaA .i64 a4 (Addr.add a0 1) fun xu => yaA .i64 a4 (Addr.add a0 2) fun xv => yaC a4 (Addr.add a0 3) fun xp => yaA .i64 a4 (Addr.add a0 4) fun xw => yaA .i64 a4 (Addr.add a0 5) fun xx => yaA .i64 a4 (Addr.add a0 6) fun xy => yaA .i64 a4 (Addr.add a0 7) fun xz => yaA .i64 a4 (Addr.add a0 8) fun ya => yaA .i64 a4 (Addr.add a0 9) fun yb => yaB a4 (Addr.add a0 10) fun xj xn xl => yaC a4 (Addr.add a0 11) fun xq => yaC a4 (Addr.add a0 12) fun xr => yaA .i64 a4 (Addr.add a0 13) fun yc => yaG a4 (Addr.add a0 14) fun xs => yaB a4 (Addr.add a0 15) fun xk xo xm => ((.agg (Z0 xt xu xv xp xw xx xy xz ya yb xj xn xl xq xr yc xs xk xo xm)) : Value) = (.agg (Z0 b9 c0 c1 b5 c2 c3 c4 c5 c6 c7 a9 b3 b1 b6 b7 c8 b8 b0 b4 b2))) ∧
 ((
 Calls pP 9 #[(.agg (Z0 b9 c0 c1 b5 c2 c3 c4 c5 c6 c7 a9 b3 b1 b6 b7 c8 b8 b0 b4 b2))] a4 fun e h3 => ∃ cl cm cj cn cf co cp cq cr cs ct bp cb bw ch ci cu ck bq cc bx cv cw cx cy br cd bz bt ce ca, e = .returned (.agg (Z1 cl cm cj cn cf co cp cq cr cs ct bp cb bw ch ci cu ck bq cc bx cv cw cx cy br cd bz bt ce ca)) ∧
 ((
 ∀ bu, h3.heap.size ≤ bu →
 ∀ bv, h3.heap.size ≤ bv →
 ∀ lf, Adv [] [bv, bu] h3 lf →
 yaZ ybW ((yb0 395 [1, 1, 1, 1, 1]) (yb1 [1, 1, 1, 1] [] R)) (ycR ((some ⟨d2, 0, none⟩), 2, 2, d4, d3, d5, bu, f5, f6, f3, f7, f0, f8, f9, g0, g1, g2, g3, d8, e6, e2, f1, f2, g4, f4, d9, e7, e3, g5, g6, g7, g8, e0, e8, e4, e1, e9, e5, bv, cl, cm, cj, cn, cf, co, cp, cq, cr, cs, ct, bp, cb, bw, ch, ci, cu, ck, bq, cc, bx, cv, cw, cx, cy, br, cd, bz, bt, ce, ca)) lf) ∧
 (
 ∀ w3, h3.heap.size ≤ w3 →
 ∀ w4, h3.heap.size ≤ w4 →
 ∀ lg, Adv [] [w4, w3] h3 lg →
 yaZ ybW ((yb0 395 [1, 1, 1, 1, 1]) (yb1 [1, 1, 1, 1] [] R)) (ycR ((some ⟨d2, 0, none⟩), 2, 2, d4, d3, d5, w4, f5, f6, f3, f7, f0, f8, f9, g0, g1, g2, g3, d8, e6, e2, f1, f2, g4, f4, d9, e7, e3, g5, g6, g7, g8, e0, e8, e4, e1, e9, e5, w3, cl, cm, cj, cn, cf, co, cp, cq, cr, cs, ct, bp, cb, bw, ch, ci, cu, ck, bq, cc, bx, cv, cw, cx, cy, br, cd, bz, bt, ce, ca)) lg))) ∧
 (
 ((
 ∀ d0, a4.heap.size ≤ d0 →
 ((
 ∀ z5, Adv [] [d0] a4 z5 →
 Calls pP 9 #[(.agg (Z0 b9 c0 c1 b5 c2 c3 c4 c5 c6 c7 a9 b3 b1 b6 b7 c8 b8 b0 b4 b2))] z5 fun e z6 => ∃ lx ly kf lz iu ma mb mc md me mf cz gu ey iv iw mg kg da gv ez mh mi mj mk db gw fa dc gx fb, e = .returned (.agg (Z1 lx ly kf lz iu ma mb mc md me mf cz gu ey iv iw mg kg da gv ez mh mi mj mk db gw fa dc gx fb)) ∧ yaJ [d0] z5 z6 ∧
 ∀ w5, z6.heap.size ≤ w5 →
 ∀ lh, Adv [d0] [w5] z6 lh →
 yaZ ybW ((yb0 395 [1, 1, 1, 1, 1]) (yb1 [1, 1, 1, 1] [] R)) (ycR ((some ⟨d2, 0, none⟩), 2, 2, d4, d3, d5, d0, f5, f6, f3, f7, f0, f8, f9, g0, g1, g2, g3, d8, e6, e2, f1, f2, g4, f4, d9, e7, e3, g5, g6, g7, g8, e0, e8, e4, e1, e9, e5, w5, lx, ly, kf, lz, iu, ma, mb, mc, md, me, mf, cz, gu, ey, iv, iw, mg, kg, da, gv, ez, mh, mi, mj, mk, db, gw, fa, dc, gx, fb)) lh) ∧
 (
 ∀ g9, a4.heap.size ≤ g9 →
 ∀ z7, Adv [] [g9, d0] a4 z7 →
 Calls pP 9 #[(.agg (Z0 b9 c0 c1 b5 c2 c3 c4 c5 c6 c7 a9 b3 b1 b6 b7 c8 b8 b0 b4 b2))] z7 fun e li => ∃ ml mm kh mn ix mo mp mq mr ms mt dd gy fc iy iz mu ki de gz fd mv mw mx my df hb fe dg hc ff, e = .returned (.agg (Z1 ml mm kh mn ix mo mp mq mr ms mt dd gy fc iy iz mu ki de gz fd mv mw mx my df hb fe dg hc ff)) ∧ yaJ [d0, g9] z7 li ∧
 ∀ lj, Adv [g9, d0] [] li lj →
 yaZ ybW ((yb0 395 [1, 1, 1, 1, 1]) (yb1 [1, 1, 1, 1] [] R)) (ycR ((some ⟨d2, 0, none⟩), 2, 2, d4, d3, d5, d0, f5, f6, f3, f7, f0, f8, f9, g0, g1, g2, g3, d8, e6, e2, f1, f2, g4, f4, d9, e7, e3, g5, g6, g7, g8, e0, e8, e4, e1, e9, e5, g9, ml, mm, kh, mn, ix, mo, mp, mq, mr, ms, mt, dd, gy, fc, iy, iz, mu, ki, de, gz, fd, mv, mw, mx, my, df, hb, fe, dg, hc, ff)) lj))) ∧
 (
 ∀ d1, a4.heap.size ≤ d1 →
 ((
 ∀ z8, Adv [] [d1] a4 z8 →
 Calls pP 9 #[(.agg (Z0 b9 c0 c1 b5 c2 c3 c4 c5 c6 c7 a9 b3 b1 b6 b7 c8 b8 b0 b4 b2))] z8 fun e z9 => ∃ mz na kj nb ja nc nd ne nf ng nh dh hd fg jb jc ni kk di he fh nj nk nl nm dj hf fi dk hg fj, e = .returned (.agg (Z1 mz na kj nb ja nc nd ne nf ng nh dh hd fg jb jc ni kk di he fh nj nk nl nm dj hf fi dk hg fj)) ∧ yaJ [d1] z8 z9 ∧
 ∀ w6, z9.heap.size ≤ w6 →
 ∀ lk, Adv [d1] [w6] z9 lk →
 yaZ ybW ((yb0 395 [1, 1, 1, 1, 1]) (yb1 [1, 1, 1, 1] [] R)) (ycR ((some ⟨d2, 0, none⟩), 2, 2, d4, d3, d5, w6, f5, f6, f3, f7, f0, f8, f9, g0, g1, g2, g3, d8, e6, e2, f1, f2, g4, f4, d9, e7, e3, g5, g6, g7, g8, e0, e8, e4, e1, e9, e5, d1, mz, na, kj, nb, ja, nc, nd, ne, nf, ng, nh, dh, hd, fg, jb, jc, ni, kk, di, he, fh, nj, nk, nl, nm, dj, hf, fi, dk, hg, fj)) lk) ∧
 (
 ∀ h0, a4.heap.size ≤ h0 →
 ∀ aa, Adv [] [h0, d1] a4 aa →
 Calls pP 9 #[(.agg (Z0 b9 c0 c1 b5 c2 c3 c4 c5 c6 c7 a9 b3 b1 b6 b7 c8 b8 b0 b4 b2))] aa fun e ll => ∃ no np kl nq jd nr ns nt nu nv nw dl hh fk je jf nx km dm hi fl ny oa ob oc dn hj fm dp hk fn, e = .returned (.agg (Z1 no np kl nq jd nr ns nt nu nv nw dl hh fk je jf nx km dm hi fl ny oa ob oc dn hj fm dp hk fn)) ∧ yaJ [d1, h0] aa ll ∧
 ∀ lm, Adv [d1, h0] [] ll lm →
 yaZ ybW ((yb0 395 [1, 1, 1, 1, 1]) (yb1 [1, 1, 1, 1] [] R)) (ycR ((some ⟨d2, 0, none⟩), 2, 2, d4, d3, d5, h0, f5, f6, f3, f7, f0, f8, f9, g0, g1, g2, g3, d8, e6, e2, f1, f2, g4, f4, d9, e7, e3, g5, g6, g7, g8, e0, e8, e4, e1, e9, e5, d1, no, np, kl, nq, jd, nr, ns, nt, nu, nv, nw, dl, hh, fk, je, jf, nx, km, dm, hi, fl, ny, oa, ob, oc, dn, hj, fm, dp, hk, fn)) lm))))))) ∧
 (
 ((
 ∀ a7, a1.heap.size ≤ a7 →
 ((
 ∀ ab, Adv [] [a7] a1 ab →
 Calls pP 9 #[(.agg (Z0 u4 u5 u6 u0 u7 u9 v0 v1 v2 v3 h4 h8 h6 u1 u2 v4 u3 h5 h9 h7))] ab fun e a2 => ∃ aj ak z1 am y5 ao ap aq ar au av v5 x7 w9 y6 y7 aw z2 v6 x8 x0 ax ay az ba v7 x9 x1 v8 y0 x2, e = .returned (.agg (Z1 aj ak z1 am y5 ao ap aq ar au av v5 x7 w9 y6 y7 aw z2 v6 x8 x0 ax ay az ba v7 x9 x1 v8 y0 x2)) ∧ yaJ [a7] ab a2 ∧ (yaA .i64 a2 a0 fun uf => yaA .i64 a2 (Addr.add a0 1) fun ug => yaA .i64 a2 (Addr.add a0 2) fun uh => yaC a2 (Addr.add a0 3) fun tp => yaA .i64 a2 (Addr.add a0 4) fun ui => yaA .i64 a2 (Addr.add a0 5) fun uj => yaA .i64 a2 (Addr.add a0 6) fun uk => yaA .i64 a2 (Addr.add a0 7) fun ul => yaA .i64 a2 (Addr.add a0 8) fun um => yaA .i64 a2 (Addr.add a0 9) fun un => yaB a2 (Addr.add a0 10) fun sp th sy => yaC a2 (Addr.add a0 11) fun tq => yaC a2 (Addr.add a0 12) fun tr => yaA .i64 a2 (Addr.add a0 13) fun uo => yaG a2 (Addr.add a0 14) fun ub => yaB a2 (Addr.add a0 15) fun sq ti sz => ((.agg (Z0 uf ug uh tp ui uj uk ul um un sp th sy tq tr uo ub sq ti sz)) : Value) = (.agg (Z0 b9 c0 c1 b5 c2 c3 c4 c5 c6 c7 a9 b3 b1 b6 b7 c8 b8 b0 b4 b2))) ∧
 ((
 Calls pP 9 #[(.agg (Z0 b9 c0 c1 b5 c2 c3 c4 c5 c6 c7 a9 b3 b1 b6 b7 c8 b8 b0 b4 b2))] a2 fun e ac => ∃ od oe kn of jg og oh oi oj ok ol dq hl fo jh ji om ko dr hm fp on oo op oq ds hn fq dt ho fr, e = .returned (.agg (Z1 od oe kn of jg og oh oi oj ok ol dq hl fo jh ji om ko dr hm fp on oo op oq ds hn fq dt ho fr)) ∧ yaJ [a7] a2 ac ∧
 ∀ w7, ac.heap.size ≤ w7 →
 ∀ ln, Adv [a7] [w7] ac ln →
 yaZ ybW ((yb0 395 [1, 1, 1, 1, 1]) (yb1 [1, 1, 1, 1] [] R)) (ycR ((some ⟨d2, 0, none⟩), 2, 2, d4, d3, d5, a7, aj, ak, z1, am, y5, ao, ap, aq, ar, au, av, v5, x7, w9, y6, y7, aw, z2, v6, x8, x0, ax, ay, az, ba, v7, x9, x1, v8, y0, x2, w7, od, oe, kn, of, jg, og, oh, oi, oj, ok, ol, dq, hl, fo, jh, ji, om, ko, dr, hm, fp, on, oo, op, oq, ds, hn, fq, dt, ho, fr)) ln) ∧
 (
 ∀ h1, a2.heap.size ≤ h1 →
 ∀ ad, Adv [] [h1] a2 ad →
 Calls pP 9 #[(.agg (Z0 b9 c0 c1 b5 c2 c3 c4 c5 c6 c7 a9 b3 b1 b6 b7 c8 b8 b0 b4 b2))] ad fun e lo => ∃ os ot kp ou jj ov ow ox oy oz pa du hp fs jl jm pb kq dv hq ft pc pd pe pf dw hr fu dx hs fv, e = .returned (.agg (Z1 os ot kp ou jj ov ow ox oy oz pa du hp fs jl jm pb kq dv hq ft pc pd pe pf dw hr fu dx hs fv)) ∧ yaJ [a7, h1] ad lo ∧
 ∀ lp, Adv [h1, a7] [] lo lp →
 yaZ ybW ((yb0 395 [1, 1, 1, 1, 1]) (yb1 [1, 1, 1, 1] [] R)) (ycR ((some ⟨d2, 0, none⟩), 2, 2, d4, d3, d5, a7, aj, ak, z1, am, y5, ao, ap, aq, ar, au, av, v5, x7, w9, y6, y7, aw, z2, v6, x8, x0, ax, ay, az, ba, v7, x9, x1, v8, y0, x2, h1, os, ot, kp, ou, jj, ov, ow, ox, oy, oz, pa, du, hp, fs, jl, jm, pb, kq, dv, hq, ft, pc, pd, pe, pf, dw, hr, fu, dx, hs, fv)) lp))) ∧
 (
 ∀ d6, a1.heap.size ≤ d6 →
 ∀ ae, Adv [] [d6, a7] a1 ae →
 Calls pP 9 #[(.agg (Z0 u4 u5 u6 u0 u7 u9 v0 v1 v2 v3 h4 h8 h6 u1 u2 v4 u3 h5 h9 h7))] ae fun e a5 => ∃ pg ph kr pi jn pj pk pl pm pn po dy ht fw jo jp pp ks dz hu fx pq pr ps pu ea hv fy eb hw fz, e = .returned (.agg (Z1 pg ph kr pi jn pj pk pl pm pn po dy ht fw jo jp pp ks dz hu fx pq pr ps pu ea hv fy eb hw fz)) ∧ yaJ [a7, d6] ae a5 ∧ (yaA .i64 a5 a0 fun up => yaA .i64 a5 (Addr.add a0 1) fun uq => yaA .i64 a5 (Addr.add a0 2) fun ur => yaC a5 (Addr.add a0 3) fun ts => yaA .i64 a5 (Addr.add a0 4) fun us => yaA .i64 a5 (Addr.add a0 5) fun ut => yaA .i64 a5 (Addr.add a0 6) fun uu => yaA .i64 a5 (Addr.add a0 7) fun uv => yaA .i64 a5 (Addr.add a0 8) fun uw => yaA .i64 a5 (Addr.add a0 9) fun ux => yaB a5 (Addr.add a0 10) fun sr tj ta => yaC a5 (Addr.add a0 11) fun tt => yaC a5 (Addr.add a0 12) fun tu => yaA .i64 a5 (Addr.add a0 13) fun uy => yaG a5 (Addr.add a0 14) fun uc => yaB a5 (Addr.add a0 15) fun ss tk tb => ((.agg (Z0 up uq ur ts us ut uu uv uw ux sr tj ta tt tu uy uc ss tk tb)) : Value) = (.agg (Z0 b9 c0 c1 b5 c2 c3 c4 c5 c6 c7 a9 b3 b1 b6 b7 c8 b8 b0 b4 b2))) ∧
 Calls pP 9 #[(.agg (Z0 b9 c0 c1 b5 c2 c3 c4 c5 c6 c7 a9 b3 b1 b6 b7 c8 b8 b0 b4 b2))] a5 fun e lq => ∃ pv pw kt px jq py pz qa qb qc qd ec hx ga jr js qe ku ed hy gb qf qg qh qi ee hz gc ef ia gd, e = .returned (.agg (Z1 pv pw kt px jq py pz qa qb qc qd ec hx ga jr js qe ku ed hy gb qf qg qh qi ee hz gc ef ia gd)) ∧ yaJ [a7, d6] a5 lq ∧
 ∀ lr, Adv [d6, a7] [] lq lr →
 yaZ ybW ((yb0 395 [1, 1, 1, 1, 1]) (yb1 [1, 1, 1, 1] [] R)) (ycR ((some ⟨d2, 0, none⟩), 2, 2, d4, d3, d5, a7, pg, ph, kr, pi, jn, pj, pk, pl, pm, pn, po, dy, ht, fw, jo, jp, pp, ks, dz, hu, fx, pq, pr, ps, pu, ea, hv, fy, eb, hw, fz, d6, pv, pw, kt, px, jq, py, pz, qa, qb, qc, qd, ec, hx, ga, jr, js, qe, ku, ed, hy, gb, qf, qg, qh, qi, ee, hz, gc, ef, ia, gd)) lr))) ∧
 (
 ∀ a8, a1.heap.size ≤ a8 →
 ((
 ∀ af, Adv [] [a8] a1 af →
 Calls pP 9 #[(.agg (Z0 u4 u5 u6 u0 u7 u9 v0 v1 v2 v3 h4 h8 h6 u1 u2 v4 u3 h5 h9 h7))] af fun e a3 => ∃ bb bc z3 bd y8 be bf bg bh bi bj v9 y1 x3 y9 z0 bk z4 w0 y2 x4 bl bm bn bo w1 y3 x5 w2 y4 x6, e = .returned (.agg (Z1 bb bc z3 bd y8 be bf bg bh bi bj v9 y1 x3 y9 z0 bk z4 w0 y2 x4 bl bm bn bo w1 y3 x5 w2 y4 x6)) ∧ yaJ [a8] af a3 ∧ (yaA .i64 a3 a0 fun uz => yaA .i64 a3 (Addr.add a0 1) fun va => yaA .i64 a3 (Addr.add a0 2) fun vb => yaC a3 (Addr.add a0 3) fun tv => yaA .i64 a3 (Addr.add a0 4) fun vc => yaA .i64 a3 (Addr.add a0 5) fun vd => yaA .i64 a3 (Addr.add a0 6) fun ve => yaA .i64 a3 (Addr.add a0 7) fun vf => yaA .i64 a3 (Addr.add a0 8) fun vh => yaA .i64 a3 (Addr.add a0 9) fun vi => yaB a3 (Addr.add a0 10) fun su tl tc => yaC a3 (Addr.add a0 11) fun tw => yaC a3 (Addr.add a0 12) fun tx => yaA .i64 a3 (Addr.add a0 13) fun vj => yaG a3 (Addr.add a0 14) fun ud => yaB a3 (Addr.add a0 15) fun sv tm td => ((.agg (Z0 uz va vb tv vc vd ve vf vh vi su tl tc tw tx vj ud sv tm td)) : Value) = (.agg (Z0 b9 c0 c1 b5 c2 c3 c4 c5 c6 c7 a9 b3 b1 b6 b7 c8 b8 b0 b4 b2))) ∧
 ((
 Calls pP 9 #[(.agg (Z0 b9 c0 c1 b5 c2 c3 c4 c5 c6 c7 a9 b3 b1 b6 b7 c8 b8 b0 b4 b2))] a3 fun e ag => ∃ qj qk kv ql jt qm qn qo qp qq qr eg ib ge ju jv qs kw eh ic gf qt qu qv qw ei id gg ej ie gh, e = .returned (.agg (Z1 qj qk kv ql jt qm qn qo qp qq qr eg ib ge ju jv qs kw eh ic gf qt qu qv qw ei id gg ej ie gh)) ∧ yaJ [a8] a3 ag ∧
 ∀ w8, ag.heap.size ≤ w8 →
 ∀ ls, Adv [a8] [w8] ag ls →
 yaZ ybW ((yb0 395 [1, 1, 1, 1, 1]) (yb1 [1, 1, 1, 1] [] R)) (ycR ((some ⟨d2, 0, none⟩), 2, 2, d4, d3, d5, w8, bb, bc, z3, bd, y8, be, bf, bg, bh, bi, bj, v9, y1, x3, y9, z0, bk, z4, w0, y2, x4, bl, bm, bn, bo, w1, y3, x5, w2, y4, x6, a8, qj, qk, kv, ql, jt, qm, qn, qo, qp, qq, qr, eg, ib, ge, ju, jv, qs, kw, eh, ic, gf, qt, qu, qv, qw, ei, id, gg, ej, ie, gh)) ls) ∧
 (
 ∀ h2, a3.heap.size ≤ h2 →
 ∀ ah, Adv [] [h2] a3 ah →
 Calls pP 9 #[(.agg (Z0 b9 c0 c1 b5 c2 c3 c4 c5 c6 c7 a9 b3 b1 b6 b7 c8 b8 b0 b4 b2))] ah fun e lt => ∃ qx qy kx qz jw ra rb rc rd re rf ek ig gi jx jy rg ky el ih gj rh ri rj rk em ii gk en ij gl, e = .returned (.agg (Z1 qx qy kx qz jw ra rb rc rd re rf ek ig gi jx jy rg ky el ih gj rh ri rj rk em ii gk en ij gl)) ∧ yaJ [a8, h2] ah lt ∧
 ∀ lu, Adv [a8, h2] [] lt lu →
 yaZ ybW ((yb0 395 [1, 1, 1, 1, 1]) (yb1 [1, 1, 1, 1] [] R)) (ycR ((some ⟨d2, 0, none⟩), 2, 2, d4, d3, d5, h2, bb, bc, z3, bd, y8, be, bf, bg, bh, bi, bj, v9, y1, x3, y9, z0, bk, z4, w0, y2, x4, bl, bm, bn, bo, w1, y3, x5, w2, y4, x6, a8, qx, qy, kx, qz, jw, ra, rb, rc, rd, re, rf, ek, ig, gi, jx, jy, rg, ky, el, ih, gj, rh, ri, rj, rk, em, ii, gk, en, ij, gl)) lu))) ∧
 (
 ∀ d7, a1.heap.size ≤ d7 →
 ∀ ai, Adv [] [d7, a8] a1 ai →
 Calls pP 9 #[(.agg (Z0 u4 u5 u6 u0 u7 u9 v0 v1 v2 v3 h4 h8 h6 u1 u2 v4 u3 h5 h9 h7))] ai fun e a6 => ∃ rl rm kz rn jz ro rp rq rr rs rt eo ik gm ka kb ru la ep il gn rv rx ry rz eq im go er io gp, e = .returned (.agg (Z1 rl rm kz rn jz ro rp rq rr rs rt eo ik gm ka kb ru la ep il gn rv rx ry rz eq im go er io gp)) ∧ yaJ [a8, d7] ai a6 ∧ (yaA .i64 a6 a0 fun vk => yaA .i64 a6 (Addr.add a0 1) fun vl => yaA .i64 a6 (Addr.add a0 2) fun vm => yaC a6 (Addr.add a0 3) fun ty => yaA .i64 a6 (Addr.add a0 4) fun vn => yaA .i64 a6 (Addr.add a0 5) fun vo => yaA .i64 a6 (Addr.add a0 6) fun vp => yaA .i64 a6 (Addr.add a0 7) fun vq => yaA .i64 a6 (Addr.add a0 8) fun vr => yaA .i64 a6 (Addr.add a0 9) fun vs => yaB a6 (Addr.add a0 10) fun sw tn te => yaC a6 (Addr.add a0 11) fun tz => yaC a6 (Addr.add a0 12) fun ua => yaA .i64 a6 (Addr.add a0 13) fun vt => yaG a6 (Addr.add a0 14) fun ue => yaB a6 (Addr.add a0 15) fun sx to tf => ((.agg (Z0 vk vl vm ty vn vo vp vq vr vs sw tn te tz ua vt ue sx to tf)) : Value) = (.agg (Z0 b9 c0 c1 b5 c2 c3 c4 c5 c6 c7 a9 b3 b1 b6 b7 c8 b8 b0 b4 b2))) ∧
 Calls pP 9 #[(.agg (Z0 b9 c0 c1 b5 c2 c3 c4 c5 c6 c7 a9 b3 b1 b6 b7 c8 b8 b0 b4 b2))] a6 fun e lv => ∃ sa sb lc sc kc sd se sf sg sh si et ip gq kd ke sj le eu iq gr sk sl sm sn ew ir gs ex it gt, e = .returned (.agg (Z1 sa sb lc sc kc sd se sf sg sh si et ip gq kd ke sj le eu iq gr sk sl sm sn ew ir gs ex it gt)) ∧ yaJ [a8, d7] a6 lv ∧
 ∀ lw, Adv [a8, d7] [] lv lw →
 yaZ ybW ((yb0 395 [1, 1, 1, 1, 1]) (yb1 [1, 1, 1, 1] [] R)) (ycR ((some ⟨d2, 0, none⟩), 2, 2, d4, d3, d5, d7, rl, rm, kz, rn, jz, ro, rp, rq, rr, rs, rt, eo, ik, gm, ka, kb, ru, la, ep, il, gn, rv, rx, ry, rz, eq, im, go, er, io, gp, a8, sa, sb, lc, sc, kc, sd, se, sf, sg, sh, si, et, ip, gq, kd, ke, sj, le, eu, iq, gr, sk, sl, sm, sn, ew, ir, gs, ex, it, gt)) lw))))))))) :
 CR pP 14 #[] w R :=
 yaD Tryz.wide_mixed (an := ylS) Tryz.func14 rfl rfl (by kernel_rfl) rfl (Eq.mpr (by kernel_rfl) h)
end
theorem ya9 {w : World} {a : Addr} {q : HV} {F : Int → Int → Int → Int → Option Addr → Nat → Nat → Option Addr → Nat → Nat → Prop} (h : ∀ j v, q.cs[j]? = some v → w.cell? (a.add j) = some v) (hF : F q.x.e q.x.off q.x.n q.x.gen q.f.a q.f.n q.f.c q.p.a q.p.n q.p.c) :
  yaA .i64 w a fun x0 => yaA .i64 w (a.add 1) fun x1 => yaA .i64 w (a.add 2) fun x2 => yaA .i64 w (a.add 3) fun x3 => yaB w (a.add 4) fun a4 n4 c4 => yaB w (a.add 5) fun a5 n5 c5 => F x0 x1 x2 x3 a4 n4 c4 a5 n5 c5 :=
 yaF (x := q.x.e) (by simpa [add_zero] using h 0 _ rfl) (yaF (h 1 _ rfl) (yaF (h 2 _ rfl) (yaF (h 3 _ rfl) (yaY (h 4 _ rfl) (yaY (h 5 _ rfl) hF)))))
theorem ywL (w : World) : EvAt w fA ∧ s64 fA.x.c := ⟨ye6 (ycZ w), by unfold s64; decide⟩
theorem ywM (w : World) : EvAt w fB ∧ s64 fB.x.c := ⟨ye6 (ycZ w), by unfold s64; decide⟩
theorem ywN (w : World) : EvAt w fX ∧ s64 fX.x.c := ⟨yfU (yfV w 0), by unfold s64; decide⟩
theorem ywO (w : World) : EvAt w fY ∧ s64 fY.x.c := ⟨yfU (yfV w 1), by unfold s64; decide⟩
theorem ywP (w : World) : EvAt w fZ ∧ s64 fZ.x.c := ⟨yfU (yfV w 1), by unfold s64; decide⟩
theorem yiM : ∀ q ∈ fxC, q.op = yd7 := by
 intro q hq
 simp [fxC] at hq
 rcases hq with rfl | rfl <;> rfl
theorem ye7 {w1 : World} {s : Sl} {b n : Nat} {evs : List EV} {x : Int} (room : Int) (hC : ya8 w1 s fxC) (h : w1.heap[b]? = some (.cells (evs.flatMap EV.cs).toArray 46)) (hn : evs.length = n) (hle : n ≤ 1000) (hE : ∀ q ∈ evs, EvAt w1 q ∧ s64 q.x.c)
  (hx : ybZ (if 1 ≤ room ∧ room ≤ 64 then 0 else 1) fxC fxR (evs.map (·.x)) = x) : Calls pP 11 #[.int .i64 room, .slice s.a s.n s.c, .slice (some ⟨b, 0, none⟩) n n] w1 fun e w2 => e = .returned (.int .i64 x) ∧ Mod [] w1 w2 := by
 subst hn
 refine (ydV (t := ⟨some ⟨b, 0, none⟩, evs.length, evs.length⟩) room hC (by decide) yiM (ybU.flatB EV.cs_len h) hE (by omega)).mono ?_
 rintro _ w2 ⟨rfl, M⟩
 exact ⟨by rw [← hx]; rfl, M⟩
set_option maxHeartbeats 2000000 in
theorem yxL {w0 w : World} {s sr : Sl} {m0 m1 m2 m3 : Nat} {eA eB eX eY : EV} {q0 q1 : CV} (hA : eA = fA) (hB : eB = fB) (hX : eX = fX) (hY : eY = fY) (h0 : q0 = yaU 1 1) (h1 : q1 = yaU 2 1) (N : Mod [] w0 w) (hS : ybU w 16 CV.cs s.a s.n [q0, q1]) (hR : ybU w 6 HV.cs sr.a sr.n (ybV 2)) :
  ylU s.a s.n s.c sr.a sr.n sr.c m0 eA.x.c eA.x.n eA.x.a eA.x.op.kind eA.x.op.part.t eA.x.op.part.n eA.x.op.n eA.x.op.off eA.x.op.b.prod eA.x.op.b.epoch eA.x.op.b.seq eA.rs.a eA.rs.n eA.rs.c eA.x.op.g eA.x.op.m eA.x.op.gen eA.x.op.robin eA.ts.a eA.ts.n eA.ts.c eA.x.r.e eA.x.r.off eA.x.r.n eA.x.r.gen eA.f.a eA.f.n eA.f.c eA.p.a eA.p.n eA.p.c m1 eB.x.c eB.x.n eB.x.a eB.x.op.kind eB.x.op.part.t eB.x.op.part.n eB.x.op.n eB.x.op.off eB.x.op.b.prod eB.x.op.b.epoch eB.x.op.b.seq eB.rs.a eB.rs.n eB.rs.c eB.x.op.g eB.x.op.m eB.x.op.gen eB.x.op.robin eB.ts.a eB.ts.n eB.ts.c eB.x.r.e eB.x.r.off eB.x.r.n eB.x.r.gen eB.f.a eB.f.n eB.f.c eB.p.a eB.p.n eB.p.c m2 eX.x.c eX.x.n eX.x.a eX.x.op.kind eX.x.op.part.t eX.x.op.part.n eX.x.op.n eX.x.op.off eX.x.op.b.prod eX.x.op.b.epoch eX.x.op.b.seq eX.rs.a eX.rs.n eX.rs.c eX.x.op.g eX.x.op.m eX.x.op.gen eX.x.op.robin eX.ts.a eX.ts.n eX.ts.c eX.x.r.e eX.x.r.off eX.x.r.n eX.x.r.gen eX.f.a eX.f.n eX.f.c eX.p.a eX.p.n eX.p.c m3 eY.x.c eY.x.n eY.x.a eY.x.op.kind eY.x.op.part.t eY.x.op.part.n eY.x.op.n eY.x.op.off eY.x.op.b.prod eY.x.op.b.epoch eY.x.op.b.seq eY.rs.a eY.rs.n eY.rs.c eY.x.op.g eY.x.op.m eY.x.op.gen eY.x.op.robin eY.ts.a eY.ts.n eY.ts.c eY.x.r.e eY.x.r.off eY.x.r.n eY.x.r.gen eY.f.a eY.f.n eY.f.c eY.p.a eY.p.n eY.p.c (fun v w' => v = .bool true ∧ Mod [] w0 w') w := by
 have hC : ya8 w s fxC := ⟨[q0, q1], hS, fun q hq => by simp at hq; rcases hq with rfl | rfl <;> simp only [h0, h1] <;> exact ycZ w, by simp [h0, h1]; rfl⟩
 have qA : ∀ w', EvAt w' eA ∧ s64 eA.x.c := fun w' => by rw [hA]; exact ywL w'
 have qB : ∀ w', EvAt w' eB ∧ s64 eB.x.c := fun w' => by rw [hB]; exact ywM w'
 have qX : ∀ w', EvAt w' eX ∧ s64 eX.x.c := fun w' => by rw [hX]; exact ywN w'
 have qY : ∀ w', EvAt w' eY ∧ s64 eY.x.c := fun w' => by rw [hY]; exact ywO w'
 refine (ydU hC (by decide) yiM 0).mono ?_
 rintro _ w1 ⟨_, rfl, s', rfl, M1, _⟩
 refine ⟨_, _, _, _, rfl, yaJ.of0 M1, ?_⟩
 have K := M1
 refine (hR.keep0 K).ixW (i := 1) (x := ybB 1) rfl fun ad had => ?_
 intro w2 A2
 have K := K.go0 A2.mod (by simp)
 refine yaF (x := (ybB 1).x.off) (had _ A2.mod 1 _ rfl) (brT (by decide) ?_)
 refine ybM fun b w3 c3 M3 f3 => ?_
 have K := K.go0 M3 (by simp)
 refine (ye7 (evs := [eA, eX, eB, eY]) (x := -1) 4 (hC.keep0 K) c3 rfl (by simp) (fun q hq => ?_) ?_).mono ?_
 ·simp only [List.mem_cons, List.not_mem_nil, or_false] at hq
  rcases hq with rfl | rfl | rfl | rfl <;> first | exact qA _ | exact qB _ | exact qX _ | exact qY _
 ·simp only [hA, hB, hX, hY]; exact fx1
 rintro _ w4 ⟨rfl, M4⟩
 have K := K.go0 M4 (by simp)
 refine ⟨_, rfl, yaJ.of0 M4, brT (by decide) ?_⟩
 refine ybM fun b w3 c3 M3 f3 => ?_
 have K := K.go0 M3 (by simp)
 refine (ye7 (evs := [eX]) (x := 0) 4 (hC.keep0 K) c3 rfl (by simp) (fun q hq => ?_) ?_).mono ?_
 ·simp only [List.mem_cons, List.not_mem_nil, or_false] at hq
  rcases hq with rfl <;> first | exact qX _
 ·simp only [hX]; exact fx2
 rintro _ w4 ⟨rfl, M4⟩
 have K := K.go0 M4 (by simp)
 refine ⟨_, rfl, yaJ.of0 M4, brT (by decide) ?_⟩
 refine ybM fun b w3 c3 M3 f3 => ?_
 have K := K.go0 M3 (by simp)
 refine (ye7 (evs := [eB, eY, eA, eX]) (x := 3) 4 (hC.keep0 K) c3 rfl (by simp) (fun q hq => ?_) ?_).mono ?_
 ·simp only [List.mem_cons, List.not_mem_nil, or_false] at hq
  rcases hq with rfl | rfl | rfl | rfl <;> first | exact qA _ | exact qB _ | exact qX _ | exact qY _
 ·simp only [hA, hB, hX, hY]; exact fx3
 rintro _ w4 ⟨rfl, M4⟩
 have K := K.go0 M4 (by simp)
 refine ⟨_, rfl, yaJ.of0 M4, brT (by decide) ?_⟩
 refine ybM fun b w3 c3 M3 f3 => ?_
 have K := K.go0 M3 (by simp)
 refine (ye7 (evs := [eA, eB, eY, eX]) (x := -1) 4 (hC.keep0 K) c3 rfl (by simp) (fun q hq => ?_) ?_).mono ?_
 ·simp only [List.mem_cons, List.not_mem_nil, or_false] at hq
  rcases hq with rfl | rfl | rfl | rfl <;> first | exact qA _ | exact qB _ | exact qX _ | exact qY _
 ·simp only [hA, hB, hX, hY]; exact fx4
 rintro _ w4 ⟨rfl, M4⟩
 have K := K.go0 M4 (by simp)
 refine ⟨_, rfl, yaJ.of0 M4, brT (by decide) ?_⟩
 refine (hS.keep0 K).ix (i := 0) (x := q0) rfl fun ad0 had0 => yaI had0 ?_
 refine (hR.keep0 K).ix (i := 1) (x := ybB 1) rfl fun ad1 had1 => ya9 had1 ?_
 refine (yaV q0 (ybB 1) _).mono ?_
 rintro _ w4 ⟨rfl, M4⟩
 have K := K.go0 M4 (by simp)
 refine ⟨_, _, _, _, _, _, _, _, _, _, _, _, _, _, _, _, _, _, _, _, _, _, _, _, _, _, _, _, _, _, _, rfl, yaJ.of0 M4, And.intro rfl ?_⟩
 obtain ⟨eZ, hZ⟩ : ∃ e, e = yaQ q0 (ybB 1) := ⟨_, rfl⟩
 have hZ' : eZ = fZ := by rw [hZ, h0]; rfl
 have qZ : ∀ w', EvAt w' eZ ∧ s64 eZ.x.c := fun w' => by rw [hZ']; exact ywP w'
 refine ybM fun b w3 c3 M3 f3 => ?_
 have K := K.go0 M3 (by simp)
 refine (ye7 (evs := [eA, eZ]) (x := 1) 4 (hC.keep0 K) (by rw [hZ]; exact c3) rfl (by simp) (fun q hq => ?_) ?_).mono ?_
 ·simp only [List.mem_cons, List.not_mem_nil, or_false] at hq
  rcases hq with rfl | rfl
  ·exact qA _
  ·exact qZ _
 ·simp only [hA, hZ']; exact fx5
 rintro _ w4 ⟨rfl, M4⟩
 have K := K.go0 M4 (by simp)
 refine ⟨_, rfl, yaJ.of0 M4, brT (by decide) ?_⟩
 refine ybM fun b w3 c3 M3 f3 => ?_
 have K := K.go0 M3 (by simp)
 refine (ye7 (evs := [eA]) (x := 0) 0 (hC.keep0 K) c3 rfl (by simp) (fun q hq => ?_) ?_).mono ?_
 ·simp only [List.mem_cons, List.not_mem_nil, or_false] at hq
  rcases hq with rfl <;> first | exact qA _
 ·simp only [hA]; exact fx6
 rintro _ w4 ⟨rfl, M4⟩
 have K := K.go0 M4 (by simp)
 refine ⟨_, rfl, yaJ.of0 M4, brT (by decide) ?_⟩
 refine (ydV (s := yeQ) (t := yeQ) (calls := []) (evs := []) 4 ⟨[], ⟨rfl, by simp⟩, by simp, rfl⟩ (by decide) (by simp) ⟨rfl, by simp⟩ (by simp) (by simp)).mono ?_
 rintro _ w4 ⟨rfl, M4⟩
 have K := K.go0 M4 (by simp)
 refine ⟨_, rfl, yaJ.of0 M4, brT (by decide +kernel) ?_⟩
 refine brT (by decide) ?_
 refine (yiJ (hC.keep0 K) (by decide) 2 1).mono ?_
 rw [fx8]
 rintro _ w4 ⟨rfl, M4⟩
 have K := K.go0 M4 (by simp)
 refine ⟨_, rfl, yaJ.of0 M4, brT (by decide) ?_⟩
 refine (yiJ (hC.keep0 K) (by decide) 2 2).mono ?_
 rw [fx9]
 rintro _ w5 ⟨rfl, M5⟩
 have K := K.go0 M5 (by simp)
 refine ⟨_, rfl, yaJ.of0 M5, brT (by decide) ?_⟩
 refine (hS.keep0 K).ixW (i := 1) (x := q1) rfl fun adl hadl => yaI (hadl _ (Mod.refl _)) ?_
 obtain ⟨wl, hwl⟩ : ∃ wl, wl = w5 := ⟨_, rfl⟩
 rw [← hwl]
 have KL := K
 rw [← hwl] at KL hadl
 have L : Mod [] wl wl := Mod.refl wl
 have opn : ∀ {w' : World} {b : Nat}, w'.heap[b]? = some (.cells ([eA, eB, eX].flatMap EV.cs).toArray 46) → Calls pP 12 #[.slice (some ⟨b, 0, none⟩) 3 3] w' fun e w'' => ∃ v, e = .returned v ∧ ∃ s' : Sl, v = .slice s'.a s'.n s'.c ∧ ya8 w'' s' [yeS 2 1] ∧ Mod [] w' w'' := fun {w' b} h => by
  refine (ysD (t := ⟨some ⟨b, 0, none⟩, 3, 3⟩) (evs := [eA, eB, eX]) (ybU.flatB (l := [eA, eB, eX]) EV.cs_len h) (fun q hq => ?_) (by simp)).mono ?_
  ·simp only [List.mem_cons, List.not_mem_nil, or_false] at hq
   rcases hq with rfl | rfl | rfl
   ·exact ⟨(qA _).1.op, (qA w').2⟩
   ·exact ⟨(qB _).1.op, (qB w').2⟩
   ·exact ⟨(qX _).1.op, (qX w').2⟩
  ·rintro _ w'' ⟨v, rfl, s', out, rfl, h1, h2, _, M⟩
   have e : ([eA, eB, eX].map (·.x)) = [fA.x, fB.x, fX.x] := by simp [hA, hB, hX]
   rw [e, yxJ] at h2
   have h2 := List.perm_singleton.1 h2
   subst h2
   exact ⟨_, rfl, s', rfl, h1.at, M⟩
 have one : ∀ {w' : World} {b : Nat}, w'.heap[b]? = some (.cells ([q1].flatMap CV.cs).toArray 35) → ya8 w' ⟨some ⟨b, 0, none⟩, 1, 1⟩ [yeS 2 1] := fun {w' b} h =>
  ⟨[q1], ybU.flatB (l := [q1]) CV.cs_len h, fun q hq => by simp at hq; subst hq; rw [h1]; exact ycZ w', by simp [h1]; rfl⟩
 have two : ∀ {w' : World} {b : Nat}, w'.heap[b]? = some (.cells ([q0, q0].flatMap CV.cs).toArray 35) → ya8 w' ⟨some ⟨b, 0, none⟩, 2, 2⟩ [yeS 1 1, yeS 1 1] := fun {w' b} h =>
  ⟨[q0, q0], ybU.flatB (l := [q0, q0]) CV.cs_len h, fun q hq => by simp at hq; subst hq; rw [h0]; exact ycZ w', by simp [h0]; rfl⟩
 refine And.intro ?_ ?_
 ·refine ybM fun ba wa ca Ma fa => ?_
  have L := L.go0 Ma (by simp)
  refine And.intro ?_ ?_
  ·refine (opn ca).mono ?_
   rintro _ w6 ⟨_, rfl, s6, rfl, hO, M6⟩
   have L := L.go0 M6 (by simp)
   refine ⟨_, _, _, rfl, yaJ.of0 M6, And.intro (yaI (hadl _ L) rfl) ?_⟩
   refine ybM fun bl wb cb Mb fb => ?_
   have L := L.go0 Mb (by simp)
   have hO := hO.keep0 Mb
   have hl := one cb
   refine (ygR hO hl (by decide)).mono ?_
   rintro _ w7 ⟨rfl, M7⟩
   have L := L.go0 M7 (by simp)
   refine ⟨_, rfl, yaJ.of0 M7, brT (by decide) ?_⟩
   refine (ydT (hC.keep0 (KL.go0 L (by simp))) (by decide) (by intro q hq; simp [fxC] at hq; rcases hq with rfl | rfl <;> (unfold s64; decide))).mono ?_
   rw [ywJ]
   rintro _ w8 ⟨rfl, M8⟩
   have L := L.go0 M8 (by simp)
   refine ⟨_, rfl, yaJ.of0 M8, brT rfl ?_⟩
   refine (hS.keep0 (KL.go0 L (by simp))).ix (i := 0) (x := q0) rfl fun ad0 had0 => yaI had0 ?_
   refine (hS.keep0 (KL.go0 L (by simp))).ix (i := 0) (x := q0) rfl fun ad1 had1 => yaI had1 ?_
   refine ybM fun bo wo co Mo fo => ?_
   have L := L.go0 Mo (by simp)
   refine (ydT (s := ⟨some ⟨bo, 0, none⟩, 2, 2⟩) (two co) (by decide) (by intro q hq; simp at hq; subst hq; unfold s64; decide)).mono ?_
   rw [ywK]
   rintro _ w9 ⟨rfl, M9⟩
   have L := L.go0 M9 (by simp)
   exact ⟨_, rfl, yaJ.of0 M9, rfl, N.go0 (KL.go0 L (by simp)) (by simp)⟩
  ·refine ybM fun bl wb cb Mb fb => ?_
   have L := L.go0 Mb (by simp)
   have ca := Mb.keep0 ca
   have hl := one cb
   refine (opn ca).mono ?_
   rintro _ w6 ⟨_, rfl, s6, rfl, hO, M6⟩
   have L := L.go0 M6 (by simp)
   refine ⟨_, _, _, rfl, yaJ.of0 M6, And.intro (yaI (hadl _ L) rfl) ?_⟩
   have hl := hl.keep0 M6
   refine (ygR hO hl (by decide)).mono ?_
   rintro _ w7 ⟨rfl, M7⟩
   have L := L.go0 M7 (by simp)
   refine ⟨_, rfl, yaJ.of0 M7, brT (by decide) ?_⟩
   refine (ydT (hC.keep0 (KL.go0 L (by simp))) (by decide) (by intro q hq; simp [fxC] at hq; rcases hq with rfl | rfl <;> (unfold s64; decide))).mono ?_
   rw [ywJ]
   rintro _ w8 ⟨rfl, M8⟩
   have L := L.go0 M8 (by simp)
   refine ⟨_, rfl, yaJ.of0 M8, brT rfl ?_⟩
   refine (hS.keep0 (KL.go0 L (by simp))).ix (i := 0) (x := q0) rfl fun ad0 had0 => yaI had0 ?_
   refine (hS.keep0 (KL.go0 L (by simp))).ix (i := 0) (x := q0) rfl fun ad1 had1 => yaI had1 ?_
   refine ybM fun bo wo co Mo fo => ?_
   have L := L.go0 Mo (by simp)
   refine (ydT (s := ⟨some ⟨bo, 0, none⟩, 2, 2⟩) (two co) (by decide) (by intro q hq; simp at hq; subst hq; unfold s64; decide)).mono ?_
   rw [ywK]
   rintro _ w9 ⟨rfl, M9⟩
   have L := L.go0 M9 (by simp)
   exact ⟨_, rfl, yaJ.of0 M9, rfl, N.go0 (KL.go0 L (by simp)) (by simp)⟩
 ·refine ybM fun bl wb cb Mb fb => ?_
  have L := L.go0 Mb (by simp)
  have hl := one cb
  refine ybM fun ba wa ca Ma fa => ?_
  have L := L.go0 Ma (by simp)
  have hl := hl.keep0 Ma
  refine (opn ca).mono ?_
  rintro _ w6 ⟨_, rfl, s6, rfl, hO, M6⟩
  have L := L.go0 M6 (by simp)
  refine ⟨_, _, _, rfl, yaJ.of0 M6, And.intro (yaI (hadl _ L) rfl) ?_⟩
  have hl := hl.keep0 M6
  refine (ygR hO hl (by decide)).mono ?_
  rintro _ w7 ⟨rfl, M7⟩
  have L := L.go0 M7 (by simp)
  refine ⟨_, rfl, yaJ.of0 M7, brT (by decide) ?_⟩
  refine (ydT (hC.keep0 (KL.go0 L (by simp))) (by decide) (by intro q hq; simp [fxC] at hq; rcases hq with rfl | rfl <;> (unfold s64; decide))).mono ?_
  rw [ywJ]
  rintro _ w8 ⟨rfl, M8⟩
  have L := L.go0 M8 (by simp)
  refine ⟨_, rfl, yaJ.of0 M8, brT rfl ?_⟩
  refine (hS.keep0 (KL.go0 L (by simp))).ix (i := 0) (x := q0) rfl fun ad0 had0 => yaI had0 ?_
  refine (hS.keep0 (KL.go0 L (by simp))).ix (i := 0) (x := q0) rfl fun ad1 had1 => yaI had1 ?_
  refine ybM fun bo wo co Mo fo => ?_
  have L := L.go0 Mo (by simp)
  refine (ydT (s := ⟨some ⟨bo, 0, none⟩, 2, 2⟩) (two co) (by decide) (by intro q hq; simp at hq; subst hq; unfold s64; decide)).mono ?_
  rw [ywK]
  rintro _ w9 ⟨rfl, M9⟩
  have L := L.go0 M9 (by simp)
  exact ⟨_, rfl, yaJ.of0 M9, rfl, N.go0 (KL.go0 L (by simp)) (by simp)⟩
set_option maxRecDepth 100000 in
set_option maxHeartbeats 600000 in
theorem yxM {w0 w : World} {s sr : Sl} {m0 m1 : Nat} {eA eB : EV} {q0 q1 : CV} {r0 r1 : HV} (hA : eA = fA) (hB : eB = fB) (h0 : q0 = yaU 1 1) (h1 : q1 = yaU 2 1) (hr0 : r0 = ybB 0) (hr1 : r1 = ybB 1) (N : Mod [] w0 w) (hS : ybU w 16 CV.cs s.a s.n [q0, q1]) (hR : ybU w 6 HV.cs sr.a sr.n [r0, r1]) :
  ylT s.a s.n s.c sr.a sr.n sr.c m0 eA.x.c eA.x.n eA.x.a eA.x.op.kind eA.x.op.part.t eA.x.op.part.n eA.x.op.n eA.x.op.off eA.x.op.b.prod eA.x.op.b.epoch eA.x.op.b.seq eA.rs.a eA.rs.n eA.rs.c eA.x.op.g eA.x.op.m eA.x.op.gen eA.x.op.robin eA.ts.a eA.ts.n eA.ts.c eA.x.r.e eA.x.r.off eA.x.r.n eA.x.r.gen eA.f.a eA.f.n eA.f.c eA.p.a eA.p.n eA.p.c m1 eB.x.c eB.x.n eB.x.a eB.x.op.kind eB.x.op.part.t eB.x.op.part.n eB.x.op.n eB.x.op.off eB.x.op.b.prod eB.x.op.b.epoch eB.x.op.b.seq eB.rs.a eB.rs.n eB.rs.c eB.x.op.g eB.x.op.m eB.x.op.gen eB.x.op.robin eB.ts.a eB.ts.n eB.ts.c eB.x.r.e eB.x.r.off eB.x.r.n eB.x.r.gen eB.f.a eB.f.n eB.f.c eB.p.a eB.p.n eB.p.c (fun v w' => v = .bool true ∧ Mod [] w0 w') w := by
 refine hS.ixW (i := 0) (x := q0) rfl fun a0 ha0 => ?_
 intro w1 A1
 have N := N.go0 A1.mod (by simp)
 refine yaI (ha0 _ A1.mod) ?_
 have hS1 := hS.keep0 A1.mod
 have hR1 := hR.keep0 A1.mod
 clear hS hR
 refine hR1.ixW (i := 0) (x := r0) rfl fun a1 ha1 => ya9 (ha1 _ (Mod.refl _)) ?_
 refine hS1.ixW (i := 1) (x := q1) rfl fun a2 ha2 => yaI (ha2 _ (Mod.refl _)) ?_
 refine hR1.ixW (i := 1) (x := r1) rfl fun a3 ha3 => ya9 (ha3 _ (Mod.refl _)) ?_
 have leaf : ∀ {w' : World} {b1 b2 : Nat}, Mod [] w1 w' → ylU s.a s.n s.c sr.a sr.n sr.c m0 eA.x.c eA.x.n eA.x.a eA.x.op.kind eA.x.op.part.t eA.x.op.part.n eA.x.op.n eA.x.op.off eA.x.op.b.prod eA.x.op.b.epoch eA.x.op.b.seq eA.rs.a eA.rs.n eA.rs.c eA.x.op.g eA.x.op.m eA.x.op.gen eA.x.op.robin eA.ts.a eA.ts.n eA.ts.c eA.x.r.e eA.x.r.off eA.x.r.n eA.x.r.gen eA.f.a eA.f.n eA.f.c eA.p.a eA.p.n eA.p.c m1 eB.x.c eB.x.n eB.x.a eB.x.op.kind eB.x.op.part.t eB.x.op.part.n eB.x.op.n eB.x.op.off eB.x.op.b.prod eB.x.op.b.epoch eB.x.op.b.seq eB.rs.a eB.rs.n eB.rs.c eB.x.op.g eB.x.op.m eB.x.op.gen eB.x.op.robin eB.ts.a eB.ts.n eB.ts.c eB.x.r.e eB.x.r.off eB.x.r.n eB.x.r.gen eB.f.a eB.f.n eB.f.c eB.p.a eB.p.n eB.p.c b1 (yaQ q0 r0).x.c (yaQ q0 r0).x.n (yaQ q0 r0).x.a (yaQ q0 r0).x.op.kind (yaQ q0 r0).x.op.part.t (yaQ q0 r0).x.op.part.n (yaQ q0 r0).x.op.n (yaQ q0 r0).x.op.off (yaQ q0 r0).x.op.b.prod (yaQ q0 r0).x.op.b.epoch (yaQ q0 r0).x.op.b.seq (yaQ q0 r0).rs.a (yaQ q0 r0).rs.n (yaQ q0 r0).rs.c (yaQ q0 r0).x.op.g (yaQ q0 r0).x.op.m (yaQ q0 r0).x.op.gen (yaQ q0 r0).x.op.robin (yaQ q0 r0).ts.a (yaQ q0 r0).ts.n (yaQ q0 r0).ts.c (yaQ q0 r0).x.r.e (yaQ q0 r0).x.r.off (yaQ q0 r0).x.r.n (yaQ q0 r0).x.r.gen (yaQ q0 r0).f.a (yaQ q0 r0).f.n (yaQ q0 r0).f.c (yaQ q0 r0).p.a (yaQ q0 r0).p.n (yaQ q0 r0).p.c b2 (yaQ q1 r1).x.c (yaQ q1 r1).x.n (yaQ q1 r1).x.a (yaQ q1 r1).x.op.kind (yaQ q1 r1).x.op.part.t (yaQ q1 r1).x.op.part.n (yaQ q1 r1).x.op.n (yaQ q1 r1).x.op.off (yaQ q1 r1).x.op.b.prod (yaQ q1 r1).x.op.b.epoch (yaQ q1 r1).x.op.b.seq (yaQ q1 r1).rs.a (yaQ q1 r1).rs.n (yaQ q1 r1).rs.c (yaQ q1 r1).x.op.g (yaQ q1 r1).x.op.m (yaQ q1 r1).x.op.gen (yaQ q1 r1).x.op.robin (yaQ q1 r1).ts.a (yaQ q1 r1).ts.n (yaQ q1 r1).ts.c (yaQ q1 r1).x.r.e (yaQ q1 r1).x.r.off (yaQ q1 r1).x.r.n (yaQ q1 r1).x.r.gen (yaQ q1 r1).f.a (yaQ q1 r1).f.n (yaQ q1 r1).f.c (yaQ q1 r1).p.a (yaQ q1 r1).p.n (yaQ q1 r1).p.c (fun v w' => v = .bool true ∧ Mod [] w0 w') w' := fun {w' b1 b2} M =>
  yxL hA hB (by rw [h0, hr0]; rfl) (by rw [h1, hr1]; rfl) h0 h1 (N.go0 M (by simp)) (hS1.keep0 M) (by have := hR1.keep0 M; rw [hr0, hr1] at this; exact this)
 have L : Mod [] w1 w1 := Mod.refl w1
 refine And.intro ?_ ?_
 ·refine (yaV q0 r0 _).mono ?_
  rintro _ w' ⟨rfl, M⟩
  have L := L.go0 M (by simp)
  refine ⟨_, _, _, _, _, _, _, _, _, _, _, _, _, _, _, _, _, _, _, _, _, _, _, _, _, _, _, _, _, _, _, rfl, yaJ.of0 M, And.intro (ya9 (ha3 _ L) rfl) (And.intro (yaI (ha2 _ L) rfl) ?_)⟩
  refine And.intro ?_ ?_
  ·refine (yaV q1 r1 _).mono ?_
   rintro _ w' ⟨rfl, M⟩
   have L := L.go0 M (by simp)
   refine ⟨_, _, _, _, _, _, _, _, _, _, _, _, _, _, _, _, _, _, _, _, _, _, _, _, _, _, _, _, _, _, _, rfl, yaJ.of0 M, ?_⟩
   refine And.intro ?_ ?_
   ·intro b f
    have f := Nat.le_trans L.size f
    intro b f
    have f := Nat.le_trans L.size f
    intro w' A
    have L := L.go0 A.mod (by first | (simp; done) | (simp; omega))
    exact ycE (leaf L)
   ·intro b f
    have f := Nat.le_trans L.size f
    intro b f
    have f := Nat.le_trans L.size f
    intro w' A
    have L := L.go0 A.mod (by first | (simp; done) | (simp; omega))
    exact ycE (leaf L)
  ·refine And.intro ?_ ?_
   ·intro b f
    have f := Nat.le_trans L.size f
    refine And.intro ?_ ?_
    ·intro w' A
     have L := L.go0 A.mod (by first | (simp; done) | (simp; omega))
     refine (yaV q1 r1 _).mono ?_
     rintro _ w' ⟨rfl, M⟩
     have L := L.go0 M (by simp)
     refine ⟨_, _, _, _, _, _, _, _, _, _, _, _, _, _, _, _, _, _, _, _, _, _, _, _, _, _, _, _, _, _, _, rfl, yaJ.of0 M, ?_⟩
     intro b f
     have f := Nat.le_trans L.size f
     intro w' A
     have L := L.go0 A.mod (by first | (simp; done) | (simp; omega))
     exact ycE (leaf L)
    ·intro b f
     have f := Nat.le_trans L.size f
     intro w' A
     have L := L.go0 A.mod (by first | (simp; done) | (simp; omega))
     refine (yaV q1 r1 _).mono ?_
     rintro _ w' ⟨rfl, M⟩
     have L := L.go0 M (by simp)
     refine ⟨_, _, _, _, _, _, _, _, _, _, _, _, _, _, _, _, _, _, _, _, _, _, _, _, _, _, _, _, _, _, _, rfl, yaJ.of0 M, ?_⟩
     intro w' A
     have L := L.go0 A.mod (by first | (simp; done) | (simp; omega))
     exact ycE (leaf L)
   ·intro b f
    have f := Nat.le_trans L.size f
    refine And.intro ?_ ?_
    ·intro w' A
     have L := L.go0 A.mod (by first | (simp; done) | (simp; omega))
     refine (yaV q1 r1 _).mono ?_
     rintro _ w' ⟨rfl, M⟩
     have L := L.go0 M (by simp)
     refine ⟨_, _, _, _, _, _, _, _, _, _, _, _, _, _, _, _, _, _, _, _, _, _, _, _, _, _, _, _, _, _, _, rfl, yaJ.of0 M, ?_⟩
     intro b f
     have f := Nat.le_trans L.size f
     intro w' A
     have L := L.go0 A.mod (by first | (simp; done) | (simp; omega))
     exact ycE (leaf L)
    ·intro b f
     have f := Nat.le_trans L.size f
     intro w' A
     have L := L.go0 A.mod (by first | (simp; done) | (simp; omega))
     refine (yaV q1 r1 _).mono ?_
     rintro _ w' ⟨rfl, M⟩
     have L := L.go0 M (by simp)
     refine ⟨_, _, _, _, _, _, _, _, _, _, _, _, _, _, _, _, _, _, _, _, _, _, _, _, _, _, _, _, _, _, _, rfl, yaJ.of0 M, ?_⟩
     intro w' A
     have L := L.go0 A.mod (by first | (simp; done) | (simp; omega))
     exact ycE (leaf L)
 ·refine And.intro ?_ ?_
  ·intro b f
   have f := Nat.le_trans L.size f
   refine And.intro ?_ ?_
   ·intro w' A
    have L := L.go0 A.mod (by first | (simp; done) | (simp; omega))
    refine (yaV q0 r0 _).mono ?_
    rintro _ w' ⟨rfl, M⟩
    have L := L.go0 M (by simp)
    refine ⟨_, _, _, _, _, _, _, _, _, _, _, _, _, _, _, _, _, _, _, _, _, _, _, _, _, _, _, _, _, _, _, rfl, yaJ.of0 M, And.intro (ya9 (ha3 _ L) rfl) (And.intro (yaI (ha2 _ L) rfl) ?_)⟩
    refine And.intro ?_ ?_
    ·refine (yaV q1 r1 _).mono ?_
     rintro _ w' ⟨rfl, M⟩
     have L := L.go0 M (by simp)
     refine ⟨_, _, _, _, _, _, _, _, _, _, _, _, _, _, _, _, _, _, _, _, _, _, _, _, _, _, _, _, _, _, _, rfl, yaJ.of0 M, ?_⟩
     intro b f
     have f := Nat.le_trans L.size f
     intro w' A
     have L := L.go0 A.mod (by first | (simp; done) | (simp; omega))
     exact ycE (leaf L)
    ·intro b f
     have f := Nat.le_trans L.size f
     intro w' A
     have L := L.go0 A.mod (by first | (simp; done) | (simp; omega))
     refine (yaV q1 r1 _).mono ?_
     rintro _ w' ⟨rfl, M⟩
     have L := L.go0 M (by simp)
     refine ⟨_, _, _, _, _, _, _, _, _, _, _, _, _, _, _, _, _, _, _, _, _, _, _, _, _, _, _, _, _, _, _, rfl, yaJ.of0 M, ?_⟩
     intro w' A
     have L := L.go0 A.mod (by first | (simp; done) | (simp; omega))
     exact ycE (leaf L)
   ·intro b f
    have f := Nat.le_trans L.size f
    intro w' A
    have L := L.go0 A.mod (by first | (simp; done) | (simp; omega))
    refine (yaV q0 r0 _).mono ?_
    rintro _ w' ⟨rfl, M⟩
    have L := L.go0 M (by simp)
    refine ⟨_, _, _, _, _, _, _, _, _, _, _, _, _, _, _, _, _, _, _, _, _, _, _, _, _, _, _, _, _, _, _, rfl, yaJ.of0 M, And.intro (ya9 (ha3 _ L) rfl) (And.intro (yaI (ha2 _ L) rfl) ?_)⟩
    refine (yaV q1 r1 _).mono ?_
    rintro _ w' ⟨rfl, M⟩
    have L := L.go0 M (by simp)
    refine ⟨_, _, _, _, _, _, _, _, _, _, _, _, _, _, _, _, _, _, _, _, _, _, _, _, _, _, _, _, _, _, _, rfl, yaJ.of0 M, ?_⟩
    intro w' A
    have L := L.go0 A.mod (by first | (simp; done) | (simp; omega))
    exact ycE (leaf L)
  ·intro b f
   have f := Nat.le_trans L.size f
   refine And.intro ?_ ?_
   ·intro w' A
    have L := L.go0 A.mod (by first | (simp; done) | (simp; omega))
    refine (yaV q0 r0 _).mono ?_
    rintro _ w' ⟨rfl, M⟩
    have L := L.go0 M (by simp)
    refine ⟨_, _, _, _, _, _, _, _, _, _, _, _, _, _, _, _, _, _, _, _, _, _, _, _, _, _, _, _, _, _, _, rfl, yaJ.of0 M, And.intro (ya9 (ha3 _ L) rfl) (And.intro (yaI (ha2 _ L) rfl) ?_)⟩
    refine And.intro ?_ ?_
    ·refine (yaV q1 r1 _).mono ?_
     rintro _ w' ⟨rfl, M⟩
     have L := L.go0 M (by simp)
     refine ⟨_, _, _, _, _, _, _, _, _, _, _, _, _, _, _, _, _, _, _, _, _, _, _, _, _, _, _, _, _, _, _, rfl, yaJ.of0 M, ?_⟩
     intro b f
     have f := Nat.le_trans L.size f
     intro w' A
     have L := L.go0 A.mod (by first | (simp; done) | (simp; omega))
     exact ycE (leaf L)
    ·intro b f
     have f := Nat.le_trans L.size f
     intro w' A
     have L := L.go0 A.mod (by first | (simp; done) | (simp; omega))
     refine (yaV q1 r1 _).mono ?_
     rintro _ w' ⟨rfl, M⟩
     have L := L.go0 M (by simp)
     refine ⟨_, _, _, _, _, _, _, _, _, _, _, _, _, _, _, _, _, _, _, _, _, _, _, _, _, _, _, _, _, _, _, rfl, yaJ.of0 M, ?_⟩
     intro w' A
     have L := L.go0 A.mod (by first | (simp; done) | (simp; omega))
     exact ycE (leaf L)
   ·intro b f
    have f := Nat.le_trans L.size f
    intro w' A
    have L := L.go0 A.mod (by first | (simp; done) | (simp; omega))
    refine (yaV q0 r0 _).mono ?_
    rintro _ w' ⟨rfl, M⟩
    have L := L.go0 M (by simp)
    refine ⟨_, _, _, _, _, _, _, _, _, _, _, _, _, _, _, _, _, _, _, _, _, _, _, _, _, _, _, _, _, _, _, rfl, yaJ.of0 M, And.intro (ya9 (ha3 _ L) rfl) (And.intro (yaI (ha2 _ L) rfl) ?_)⟩
    refine (yaV q1 r1 _).mono ?_
    rintro _ w' ⟨rfl, M⟩
    have L := L.go0 M (by simp)
    refine ⟨_, _, _, _, _, _, _, _, _, _, _, _, _, _, _, _, _, _, _, _, _, _, _, _, _, _, _, _, _, _, _, rfl, yaJ.of0 M, ?_⟩
    intro w' A
    have L := L.go0 A.mod (by first | (simp; done) | (simp; omega))
    exact ycE (leaf L)
set_option maxRecDepth 100000 in
set_option maxHeartbeats 600000 in
theorem ymP (w : World) : Calls pP 14 #[] w fun e w' => e = .returned (.bool true) ∧ Mod [] w w' := by
 obtain ⟨q0, h0⟩ : ∃ q, q = yaU 1 1 := ⟨_, rfl⟩
 obtain ⟨q1, h1⟩ : ∃ q, q = yaU 2 1 := ⟨_, rfl⟩
 refine ya7 (yvJ ?_)
 refine (yiL 1 1 w).mono ?_
 rw [← h0]
 rintro _ w1 ⟨rfl, M1⟩
 refine ⟨_, _, _, _, _, _, _, _, _, _, _, _, _, _, _, _, _, _, _, _, rfl, ?_⟩
 refine (yiL 2 1 w1).mono ?_
 rw [← h1]
 rintro _ w2 ⟨rfl, M2⟩
 refine ⟨_, _, _, _, _, _, _, _, _, _, _, _, _, _, _, _, _, _, _, _, rfl, ?_⟩
 have N := M1.go0 M2 (by simp)
 refine ybM fun b w3 c3 M3 f3 => ?_
 have N := N.go0 M3 (by simp)
 have hS : ybU w3 16 CV.cs (some ⟨b, 0, none⟩) 2 [q0, q1] := ybU.flatB (l := [q0, q1]) CV.cs_len c3
 have hC : ya8 w3 ⟨some ⟨b, 0, none⟩, 2, 2⟩ fxC := ⟨[q0, q1], hS, fun q hq => by simp at hq; rcases hq with rfl | rfl <;> simp only [h0, h1] <;> exact ycZ w3, by simp [h0, h1]; rfl⟩
 refine (ydU hC (by decide) yiM 4).mono ?_
 rintro _ w4 ⟨_, rfl, sr, rfl, M4, hr⟩
 have hr := (hr (by decide)).sl HV.cs_len
 have hn : sr.n = 2 := hr.1
 refine ⟨_, _, _, _, rfl, brF (by decide) (brF (by rw [hn]; decide) ?_)⟩
 have N := N.go0 M4 (by simp)
 have hS4 := hS.keep0 M4
 obtain ⟨r0, hr0⟩ : ∃ q, q = ybB 0 := ⟨_, rfl⟩
 obtain ⟨r1, hr1⟩ : ∃ q, q = ybB 1 := ⟨_, rfl⟩
 have hR : ybU w4 6 HV.cs sr.a sr.n [r0, r1] := by rw [hr0, hr1]; exact hr
 refine hS4.ixW (i := 0) (x := q0) rfl fun a0 ha0 => ?_
 intro w5 A5
 have N := N.go0 A5.mod (by simp)
 refine yaI (ha0 _ A5.mod) ?_
 have hS5 := hS4.keep0 A5.mod
 have hR5 := hR.keep0 A5.mod
 refine hS5.ixW (i := 1) (x := q1) rfl fun a1 ha1 => yaI (ha1 _ (Mod.refl _)) ?_
 have leaf : ∀ {w' : World} {b1 b2 : Nat}, Mod [] w5 w' → ylT (some ⟨b, 0, none⟩) 2 2 sr.a sr.n sr.c b1 (yaE q0).x.c (yaE q0).x.n (yaE q0).x.a (yaE q0).x.op.kind (yaE q0).x.op.part.t (yaE q0).x.op.part.n (yaE q0).x.op.n (yaE q0).x.op.off (yaE q0).x.op.b.prod (yaE q0).x.op.b.epoch (yaE q0).x.op.b.seq (yaE q0).rs.a (yaE q0).rs.n (yaE q0).rs.c (yaE q0).x.op.g (yaE q0).x.op.m (yaE q0).x.op.gen (yaE q0).x.op.robin (yaE q0).ts.a (yaE q0).ts.n (yaE q0).ts.c (yaE q0).x.r.e (yaE q0).x.r.off (yaE q0).x.r.n (yaE q0).x.r.gen (yaE q0).f.a (yaE q0).f.n (yaE q0).f.c (yaE q0).p.a (yaE q0).p.n (yaE q0).p.c b2 (yaE q1).x.c (yaE q1).x.n (yaE q1).x.a (yaE q1).x.op.kind (yaE q1).x.op.part.t (yaE q1).x.op.part.n (yaE q1).x.op.n (yaE q1).x.op.off (yaE q1).x.op.b.prod (yaE q1).x.op.b.epoch (yaE q1).x.op.b.seq (yaE q1).rs.a (yaE q1).rs.n (yaE q1).rs.c (yaE q1).x.op.g (yaE q1).x.op.m (yaE q1).x.op.gen (yaE q1).x.op.robin (yaE q1).ts.a (yaE q1).ts.n (yaE q1).ts.c (yaE q1).x.r.e (yaE q1).x.r.off (yaE q1).x.r.n (yaE q1).x.r.gen (yaE q1).f.a (yaE q1).f.n (yaE q1).f.c (yaE q1).p.a (yaE q1).p.n (yaE q1).p.c (fun v w' => v = .bool true ∧ Mod [] w w') w' := fun {w' b1 b2} M =>
  yxM (s := ⟨some ⟨b, 0, none⟩, 2, 2⟩) (by rw [h0]; rfl) (by rw [h1]; rfl) h0 h1 hr0 hr1 (N.go0 M (by simp)) (hS5.keep0 M) (hR5.keep0 M)
 have L : Mod [] w5 w5 := Mod.refl w5
 refine And.intro ?_ ?_
 ·refine (yaO q0 _).mono ?_
  rintro _ w' ⟨rfl, M⟩
  have L := L.go0 M (by simp)
  refine ⟨_, _, _, _, _, _, _, _, _, _, _, _, _, _, _, _, _, _, _, _, _, _, _, _, _, _, _, _, _, _, _, rfl, And.intro (yaI (ha1 _ L) rfl) ?_⟩
  refine And.intro ?_ ?_
  ·refine (yaO q1 _).mono ?_
   rintro _ w' ⟨rfl, M⟩
   have L := L.go0 M (by simp)
   refine ⟨_, _, _, _, _, _, _, _, _, _, _, _, _, _, _, _, _, _, _, _, _, _, _, _, _, _, _, _, _, _, _, rfl, ?_⟩
   refine And.intro ?_ ?_
   ·intro b f
    have f := Nat.le_trans L.size f
    intro b f
    have f := Nat.le_trans L.size f
    intro w' A
    have L := L.go0 A.mod (by first | (simp; done) | (simp; omega))
    exact ycD (leaf L)
   ·intro b f
    have f := Nat.le_trans L.size f
    intro b f
    have f := Nat.le_trans L.size f
    intro w' A
    have L := L.go0 A.mod (by first | (simp; done) | (simp; omega))
    exact ycD (leaf L)
  ·refine And.intro ?_ ?_
   ·intro b f
    have f := Nat.le_trans L.size f
    refine And.intro ?_ ?_
    ·intro w' A
     have L := L.go0 A.mod (by first | (simp; done) | (simp; omega))
     refine (yaO q1 _).mono ?_
     rintro _ w' ⟨rfl, M⟩
     have L := L.go0 M (by simp)
     refine ⟨_, _, _, _, _, _, _, _, _, _, _, _, _, _, _, _, _, _, _, _, _, _, _, _, _, _, _, _, _, _, _, rfl, yaJ.of0 M, ?_⟩
     intro b f
     have f := Nat.le_trans L.size f
     intro w' A
     have L := L.go0 A.mod (by first | (simp; done) | (simp; omega))
     exact ycD (leaf L)
    ·intro b f
     have f := Nat.le_trans L.size f
     intro w' A
     have L := L.go0 A.mod (by first | (simp; done) | (simp; omega))
     refine (yaO q1 _).mono ?_
     rintro _ w' ⟨rfl, M⟩
     have L := L.go0 M (by simp)
     refine ⟨_, _, _, _, _, _, _, _, _, _, _, _, _, _, _, _, _, _, _, _, _, _, _, _, _, _, _, _, _, _, _, rfl, yaJ.of0 M, ?_⟩
     intro w' A
     have L := L.go0 A.mod (by first | (simp; done) | (simp; omega))
     exact ycD (leaf L)
   ·intro b f
    have f := Nat.le_trans L.size f
    refine And.intro ?_ ?_
    ·intro w' A
     have L := L.go0 A.mod (by first | (simp; done) | (simp; omega))
     refine (yaO q1 _).mono ?_
     rintro _ w' ⟨rfl, M⟩
     have L := L.go0 M (by simp)
     refine ⟨_, _, _, _, _, _, _, _, _, _, _, _, _, _, _, _, _, _, _, _, _, _, _, _, _, _, _, _, _, _, _, rfl, yaJ.of0 M, ?_⟩
     intro b f
     have f := Nat.le_trans L.size f
     intro w' A
     have L := L.go0 A.mod (by first | (simp; done) | (simp; omega))
     exact ycD (leaf L)
    ·intro b f
     have f := Nat.le_trans L.size f
     intro w' A
     have L := L.go0 A.mod (by first | (simp; done) | (simp; omega))
     refine (yaO q1 _).mono ?_
     rintro _ w' ⟨rfl, M⟩
     have L := L.go0 M (by simp)
     refine ⟨_, _, _, _, _, _, _, _, _, _, _, _, _, _, _, _, _, _, _, _, _, _, _, _, _, _, _, _, _, _, _, rfl, yaJ.of0 M, ?_⟩
     intro w' A
     have L := L.go0 A.mod (by first | (simp; done) | (simp; omega))
     exact ycD (leaf L)
 ·refine And.intro ?_ ?_
  ·intro b f
   have f := Nat.le_trans L.size f
   refine And.intro ?_ ?_
   ·intro w' A
    have L := L.go0 A.mod (by first | (simp; done) | (simp; omega))
    refine (yaO q0 _).mono ?_
    rintro _ w' ⟨rfl, M⟩
    have L := L.go0 M (by simp)
    refine ⟨_, _, _, _, _, _, _, _, _, _, _, _, _, _, _, _, _, _, _, _, _, _, _, _, _, _, _, _, _, _, _, rfl, yaJ.of0 M, And.intro (yaI (ha1 _ L) rfl) ?_⟩
    refine And.intro ?_ ?_
    ·refine (yaO q1 _).mono ?_
     rintro _ w' ⟨rfl, M⟩
     have L := L.go0 M (by simp)
     refine ⟨_, _, _, _, _, _, _, _, _, _, _, _, _, _, _, _, _, _, _, _, _, _, _, _, _, _, _, _, _, _, _, rfl, yaJ.of0 M, ?_⟩
     intro b f
     have f := Nat.le_trans L.size f
     intro w' A
     have L := L.go0 A.mod (by first | (simp; done) | (simp; omega))
     exact ycD (leaf L)
    ·intro b f
     have f := Nat.le_trans L.size f
     intro w' A
     have L := L.go0 A.mod (by first | (simp; done) | (simp; omega))
     refine (yaO q1 _).mono ?_
     rintro _ w' ⟨rfl, M⟩
     have L := L.go0 M (by simp)
     refine ⟨_, _, _, _, _, _, _, _, _, _, _, _, _, _, _, _, _, _, _, _, _, _, _, _, _, _, _, _, _, _, _, rfl, yaJ.of0 M, ?_⟩
     intro w' A
     have L := L.go0 A.mod (by first | (simp; done) | (simp; omega))
     exact ycD (leaf L)
   ·intro b f
    have f := Nat.le_trans L.size f
    intro w' A
    have L := L.go0 A.mod (by first | (simp; done) | (simp; omega))
    refine (yaO q0 _).mono ?_
    rintro _ w' ⟨rfl, M⟩
    have L := L.go0 M (by simp)
    refine ⟨_, _, _, _, _, _, _, _, _, _, _, _, _, _, _, _, _, _, _, _, _, _, _, _, _, _, _, _, _, _, _, rfl, yaJ.of0 M, And.intro (yaI (ha1 _ L) rfl) ?_⟩
    refine (yaO q1 _).mono ?_
    rintro _ w' ⟨rfl, M⟩
    have L := L.go0 M (by simp)
    refine ⟨_, _, _, _, _, _, _, _, _, _, _, _, _, _, _, _, _, _, _, _, _, _, _, _, _, _, _, _, _, _, _, rfl, yaJ.of0 M, ?_⟩
    intro w' A
    have L := L.go0 A.mod (by first | (simp; done) | (simp; omega))
    exact ycD (leaf L)
  ·intro b f
   have f := Nat.le_trans L.size f
   refine And.intro ?_ ?_
   ·intro w' A
    have L := L.go0 A.mod (by first | (simp; done) | (simp; omega))
    refine (yaO q0 _).mono ?_
    rintro _ w' ⟨rfl, M⟩
    have L := L.go0 M (by simp)
    refine ⟨_, _, _, _, _, _, _, _, _, _, _, _, _, _, _, _, _, _, _, _, _, _, _, _, _, _, _, _, _, _, _, rfl, yaJ.of0 M, And.intro (yaI (ha1 _ L) rfl) ?_⟩
    refine And.intro ?_ ?_
    ·refine (yaO q1 _).mono ?_
     rintro _ w' ⟨rfl, M⟩
     have L := L.go0 M (by simp)
     refine ⟨_, _, _, _, _, _, _, _, _, _, _, _, _, _, _, _, _, _, _, _, _, _, _, _, _, _, _, _, _, _, _, rfl, yaJ.of0 M, ?_⟩
     intro b f
     have f := Nat.le_trans L.size f
     intro w' A
     have L := L.go0 A.mod (by first | (simp; done) | (simp; omega))
     exact ycD (leaf L)
    ·intro b f
     have f := Nat.le_trans L.size f
     intro w' A
     have L := L.go0 A.mod (by first | (simp; done) | (simp; omega))
     refine (yaO q1 _).mono ?_
     rintro _ w' ⟨rfl, M⟩
     have L := L.go0 M (by simp)
     refine ⟨_, _, _, _, _, _, _, _, _, _, _, _, _, _, _, _, _, _, _, _, _, _, _, _, _, _, _, _, _, _, _, rfl, yaJ.of0 M, ?_⟩
     intro w' A
     have L := L.go0 A.mod (by first | (simp; done) | (simp; omega))
     exact ycD (leaf L)
   ·intro b f
    have f := Nat.le_trans L.size f
    intro w' A
    have L := L.go0 A.mod (by first | (simp; done) | (simp; omega))
    refine (yaO q0 _).mono ?_
    rintro _ w' ⟨rfl, M⟩
    have L := L.go0 M (by simp)
    refine ⟨_, _, _, _, _, _, _, _, _, _, _, _, _, _, _, _, _, _, _, _, _, _, _, _, _, _, _, _, _, _, _, rfl, yaJ.of0 M, And.intro (yaI (ha1 _ L) rfl) ?_⟩
    refine (yaO q1 _).mono ?_
    rintro _ w' ⟨rfl, M⟩
    have L := L.go0 M (by simp)
    refine ⟨_, _, _, _, _, _, _, _, _, _, _, _, _, _, _, _, _, _, _, _, _, _, _, _, _, _, _, _, _, _, _, rfl, yaJ.of0 M, ?_⟩
    intro w' A
    have L := L.go0 A.mod (by first | (simp; done) | (simp; omega))
    exact ycD (leaf L)
theorem ylV {w0 w : World} (N : Mod [] w0 w) : Calls pP 14 #[] w fun e w' => ∃ t : Bool, e = .returned (.bool t) ∧ (Value.bool t = .bool true ∧ Mod [] w0 w') := by
 refine (ymP w).mono ?_
 rintro _ w1 ⟨rfl, M1⟩
 exact ⟨_, rfl, rfl, N.go0 M1 (by simp)⟩
end Go.Proofs.YtkepmmocldnnfaaGreat
namespace Go.Proofs.YtkepmmocldnnfaaGreat
open Go Go.RowKit Go.Maps Go.MapKept
set_option linter.unusedVariables false
set_option linter.unusedSimpArgs false
def hcv (i : Nat) (q : CV) : CV := ⟨⟨10 + (i : Int), 1, q.x.op⟩, q.rs, q.ts⟩
theorem ycB {α β : Type} {w : World} {B B' T T' sz sz' : Nat} {enc : α → List Value} {enc' : β → List Value} {a a' : Option Addr} {n n' c c' : Nat} {l : List α} {l' : List β} (h : Row w B T sz enc a n c l) (h' : Row w B' T' sz' enc' a' n' c' l') (hT : T ≠ T') : ∀ k ∈ ydS a, k ∉ ydS a' := fun k hk hk' => by
 obtain ⟨_, _, cur, hc⟩ := ybH h k hk
 obtain ⟨_, _, cur', hc'⟩ := ybH h' k hk'
 rw [hc] at hc'; cases hc'; exact hT rfl
theorem ymQ {α : Type} {P : Program} {w : World} {base T S sz bytes : Nat} {enc : α → List Value} {a : Option Addr} {n c : Nat} {l : List α} {i : TypeInfo} {z : Value} {ty : TypeId} {F : Option Addr → Nat → Nat → World → Prop}
  (h : Row w base T sz enc a n c l) (ht : P.underlying S = some (.slice T)) (hi : P.info? T = some i) (hz : i.zero = some z) (hsize : i.size = sz) (hby : i.bytes = bytes) (hzs : z.cells.size = sz) (hsz : 0 < sz)
  {b : Nat} {x : α} {T' : TypeId} (hb : w.heap[b]? = some (.cells (enc x).toArray T')) (hx : (enc x).length = sz) (hone : ∀ u ∈ enc x, u.oneCell' = true) (hlen : (l.length + 1) * bytes ≤ 140737488355328) (hl2 : l.length + 1 ≤ maxLen) (hbase : base ≤ w.heap.size)
  (hF : ∀ a' c' w', Row w' base T sz enc a' (n + 1) c' (l ++ [x]) → (∀ X, (∀ ad, a = some ad → ad.block ∈ X) → Mod X w w') → (∀ k ∈ ydS a', k ∈ ydS a ∨ w.heap.size ≤ k) → F a' (n + 1) c' w') :
  ydJ P (Builtin.append_ #[S, S] ty #[.slice a n c, .slice (some ⟨b, 0, none⟩) 1 1]) w F := by
 obtain ⟨hn, ho⟩ := h
 have hnews : ∀ j u, (enc x)[j]? = some u → w.cell? ((⟨b, 0, none⟩ : Addr).add j) = some u := fun j u hu => by
  have e : (⟨b, 0, none⟩ : Addr).add j = ⟨b, j, none⟩ := by
   simp only [Addr.add]; split
   ·rename_i h0; subst h0; rfl
   ·simp
  rw [e, yb5 hb]; simpa using hu
 have hl1 : (enc x).length = 1 * i.size := by rw [hx, hsize]; omega
 obtain ⟨v', w', h1, h2, h3, _⟩ := run_append_own w base S ty T i z sz bytes ht hi hz hsize hby hzs hsz (.slice a n c) n (l.flatMap enc) ho ⟨b, 0, none⟩ 1 1 (enc x) (by rw [hx]; omega) hnews hone (by rw [hn]; exact hl2) (by rw [hn]; exact hlen) hbase
 have hm : n + 1 ≤ 9223372036854775807 := by rw [hn]; unfold maxLen at hl2; omega
 have hbl : ∀ ad n' c', v' = .slice (some ad) n' c' → ad.block ∈ ydS a ∨ w.heap.size ≤ ad.block := fun ad n' c' e => by
  rcases ho.2 with ⟨e1, e2⟩ | ⟨g, cap, cur, e1, hbg, hg, hnc, hcm, hcs, htake⟩
  ·cases e1
   have hr := run_append_nil (P := P) w S ty T i z ht hi hz ⟨b, 0, none⟩ 1 1 (enc x) hl1 hnews (by omega) (by omega) (by rw [hby]; rw [show l.length = 0 by omega] at hlen; omega)
   rw [h1] at hr
   injection hr with hv _
   rw [hv] at e
   cases e
   exact .inr (Nat.le_refl _)
  ·cases e1
   by_cases hroom : n + 1 ≤ c
   ·have hfit : n * i.size + (enc x).length ≤ cur.size := by rw [hl1, hcs, hsize, ← Nat.add_mul]; exact Nat.mul_le_mul_right _ hroom
    have hr := run_append_room (P := P) w S ty T i ht hi g n c cur hg ⟨b, 0, none⟩ 1 1 (enc x) hl1 hnews hone hroom hfit
    rw [h1] at hr
    injection hr with hv _
    rw [hv] at e
    cases e
    exact .inl (by simp [ydS])
   ·have ho' : w.ownsRow base T i.size (.slice (some ⟨g, 0, none⟩) n c) n (l.flatMap enc) := by rw [hsize]; exact ho
    have holds : ∀ j u, (l.flatMap enc)[j]? = some u → w.cell? ((⟨g, 0, none⟩ : Addr).add j) = some u := ho'.cells (g := g) rfl
    have hr := run_append_grow (P := P) w S ty T i z ht hi hz ⟨g, 0, none⟩ n c (l.flatMap enc) ho'.1 holds ⟨b, 0, none⟩ 1 1 (enc x) hl1 hnews (by omega) (by omega) (growslice_fits (by omega) (by rw [hby, hn]; exact hlen))
    rw [h1] at hr
    injection hr with hv _
    rw [hv] at e
    cases e
    exact .inr (Nat.le_refl _)
 have hv : ∃ a' c', v' = .slice a' (n + 1) c' := by
  rcases h2.2 with ⟨e1, e2⟩ | ⟨g, cap, cur, e1, _⟩
  ·exact ⟨none, 0, by rw [e1]; omega⟩
  ·exact ⟨_, _, e1⟩
 obtain ⟨a', c', rfl⟩ := hv
 refine ⟨a', n + 1, c', w', h1, hF a' c' w' ⟨by simp [hn], by simpa using h2⟩ (fun X hX => ⟨h3.os, h3.tape, h3.output, h3.size, fun k hk hkX => h3.block k hk fun e => hkX ?_⟩) fun k hk => ?_⟩
 ·cases a with
  | none => simp [Value.ownBlock] at e
  | some ad => simp [Value.ownBlock] at e; subst e; exact hX ad rfl
 ·cases a' with
  | none => simp [ydS] at hk
  | some ad =>
   simp [ydS] at hk
   subst hk
   exact hbl ad _ _ rfl
theorem ylW {w : World} {B : Nat} {f : Sl} {l : List EV} {y : EV} {F : Option Addr → Nat → Nat → World → Prop} (hR : Row w B 46 23 EV.cs f.a f.n f.c l) (hl : l.length ≤ 1000000) (hB : B ≤ w.heap.size)
  (hF : ∀ a' c' w', Row w' B 46 23 EV.cs a' (f.n + 1) c' (l ++ [y]) → Mod (ydS f.a) w w' → (∀ k ∈ ydS a', k ∈ ydS f.a ∨ w.heap.size ≤ k) → F a' (f.n + 1) c' w') :
  al w (.cells (EV.cs y).toArray 46) fun b w1 => ydJ pP (Builtin.append_ #[40, 40] 40 #[.slice f.a f.n f.c, .slice (some ⟨b, 0, none⟩) 1 1]) w1 F := by
 refine ybM fun b w1 c1 M1 f1 => ?_
 have s1 := M1.size
 obtain ⟨i0, hi0, hz0, hz1, hz2⟩ := info_parts yvI
 refine ymQ (x := y) (hR.keep0 M1) Tryz.underlying40 hi0 hz0 hz1 hz2 rfl (by decide) c1 rfl (EV.cs_one _) (by omega) (by unfold maxLen; omega) (by omega) fun a' c' w8 hR8 hM8 hk8 => ?_
 have M8 := hM8 _ (yiD f.a)
 refine hF a' c' w8 hR8 ?_ fun k hk => ?_
 ·exact (M1.trans M8).less fun k hk _ => by simpa using hk
 ·rcases hk8 k hk with h | h
  ·exact .inl h
  ·exact .inr (by omega)
theorem yjL {n : Int} (h1 : 0 ≤ n) (h2 : n ≤ 1000000) : s64 n := by unfold s64; omega
end Go.Proofs.YtkepmmocldnnfaaGreat
namespace Go.Proofs.YtkepmmocldnnfaaGreat
open Go Go.RowKit Go.Maps Go.MapKept
set_option linter.unusedVariables false
set_option linter.unusedSimpArgs false
theorem yqK (w : World) (row : List Value) (h : OkT pP w 3 row) (_ : row.length = Tryz.prog.cellsOf 3) : ∃ x : Int, row = (fun x : Int => [Value.int .i64 x]) x ∧ True := by
 obtain ⟨x, e, _⟩ := h.int_inv Tryz.underlying3
 exact ⟨x, e, trivial⟩
theorem yd9 {x m : Int} (h0 : 0 ≤ m) (h1 : m ≤ 9223372036854775807) : 0 ≤ ydP .i64 x m ∧ ydP .i64 x m ≤ m := by
 unfold ydP
 have e : (BitVec.ofInt IntKind.i64.bits m).toNat = m.toNat := by
  show (BitVec.ofInt 64 m).toNat = _
  rw [BitVec.toNat_ofInt]
  have : m % ((2 ^ 64 : Nat) : Int) = m := Int.emod_eq_of_lt h0 (by omega)
  rw [this]
 have h : (BitVec.ofInt IntKind.i64.bits x &&& BitVec.ofInt IntKind.i64.bits m).toNat ≤ m.toNat := by
  rw [BitVec.toNat_and, ← e]; exact Nat.and_le_right
 rw [yaW (by omega) (by omega)]
 omega
def hcE (i : Nat) : EV := yaE (yaU (1 + (i : Int)) 1)
def haE (i : Nat) : EV := yaQ (yaU (1 + (i : Int)) 1) (ybB i)
def tkV (k : Nat) : List CV := (List.range k).map fun i : Nat => yaU (1 + (i : Int)) 1
def tkC (k : Nat) : List PCall := (tkV k).map (·.x)
def tkR (k : Nat) : List PRep := (ybV k).map (·.x)
theorem ysF (k : Nat) : (tkV k).length = k := by simp [tkV]
theorem ydG (k : Nat) : (tkC k).length = k := by simp [tkC, tkV]
theorem ylX (k : Nat) : tkV (k + 1) = tkV k ++ [yaU (1 + (k : Int)) 1] := by simp [tkV, List.range_succ]
theorem yc5 {k i : Nat} (h : i < k) : (tkV k)[i]? = some (yaU (1 + (i : Int)) 1) := by simp [tkV, h]
theorem ykU {k i : Nat} (h : i < k) : (tkC k)[i]? = some (yeS (1 + (i : Int)) 1) := by simp [tkC, tkV, h]; rfl
theorem ysG {k i : Nat} (h : i < k) : (tkR k)[i]? = some (ybB i).x := by simp [tkR, ybV, h]
theorem yeT (k : Nat) : ∀ q ∈ tkC k, q.op = yd7 := fun q hq => by
 simp only [tkC, tkV, List.map_map, List.mem_map] at hq
 obtain ⟨i, _, rfl⟩ := hq
 rfl
theorem yqL {k i : Nat} (h : i < k) : yb2 (tkC k) (1 + (i : Int)) 1 = i := by
 refine yjH (ykU h) (by simp [isC, yeS]) fun y hy => ?_
 obtain ⟨j, hj⟩ := List.mem_iff_getElem?.1 hy
 rw [List.getElem?_take] at hj
 split at hj
 ·rename_i hji
  rw [ykU (by omega)] at hj
  cases hj
  simp [isC, yeS]; omega
 ·cases hj
theorem yjM (i : Nat) (w : World) (h : i ≤ 6) : EvAt w (hcE i) ∧ s64 (hcE i).x.c := ⟨ye6 (ycZ w), yjL (show (0 : Int) ≤ 1 + (i : Int) by omega) (show 1 + (i : Int) ≤ 1000000 by omega)⟩
theorem yjN (i : Nat) (w : World) (h : i ≤ 6) : EvAt w (haE i) ∧ s64 (haE i).x.c := ⟨yfU (yfV w i), yjL (show (0 : Int) ≤ 1 + (i : Int) by omega) (show 1 + (i : Int) ≤ 1000000 by omega)⟩
def knW : Kn := ⟨true, 1, yd7, -1⟩
theorem yo3 (L : KL) (j : Nat) (h : lkp L (1 + (j : Int)) = none) : ymL L (-1) (hcE j).x = some (put L (1 + (j : Int)) knW) := by
 unfold ymL
 have e : (lkp L (hcE j).x.c).getD kn0 = kn0 := by
  show (lkp L (1 + (j : Int))).getD kn0 = kn0
  rw [h]; rfl
 rw [e, if_neg (by decide)]
 exact (if_neg (show ¬ (hcE j).x.n ≠ IntKind.wrap .i64 (kn0.last + 1) from (by decide : ¬ (1 : Int) ≠ IntKind.wrap .i64 (0 + 1)))).trans rfl
theorem ylY (C : List PCall) (R : List PRep) (rest : List PEv) : ∀ (m j i0 : Nat) (L : KL), (∀ i : Nat, j ≤ i → lkp L (1 + (i : Int)) = none) → ∃ L', (∀ i : Nat, j ≤ i → i < j + m → lkp L' (1 + (i : Int)) = some knW) ∧ (∀ i : Nat, i < j → lkp L' (1 + (i : Int)) = lkp L (1 + (i : Int))) ∧
  goF C R i0 L (-1) (((List.range' j m).map fun i => (hcE i).x) ++ rest) = goF C R (i0 + m) L' (-1) rest
 | 0, j, i0, L, h => ⟨L, fun i h1 h2 => by omega, fun i _ => rfl, rfl⟩
 | m + 1, j, i0, L, h => by
  obtain ⟨L', h1, h2, h3⟩ := ylY C R rest m (j + 1) (i0 + 1) (put L (1 + (j : Int)) knW) fun i hi => by
   rw [yfT, if_neg (by omega)]
   exact h i (by omega)
  refine ⟨L', fun i h4 h5 => ?_, fun i h4 => ?_, ?_⟩
  ·by_cases e : i = j
   ·subst e
    rw [h2 i (by omega), yfT, if_pos rfl]
   ·exact h1 i (by omega) (by omega)
  ·rw [h2 i (by omega), yfT, if_neg (by omega)]
  ·rw [List.range'_succ, List.map_cons, List.cons_append, goF, if_neg (show ¬ (hcE j).x.a = true from (by decide : ¬ (false = true))), yo3 L j (h j (by omega))]
   simp only
   rw [h3]
   congr 1
   omega
theorem yo4 {k i : Nat} (hi : i < k) (L : KL) (ans : Int) (h : lkp L (1 + (i : Int)) = some knW) : ymM (tkC k) (tkR k) L ans (haE i).x = some (put L (1 + (i : Int)) ⟨false, 1, yd7, -1⟩, if (i : Int) > ans then (i : Int) else ans) := by
 unfold ymM
 have e : (lkp L (haE i).x.c).getD kn0 = knW := by
  show (lkp L (1 + (i : Int))).getD kn0 = knW
  rw [h]; rfl
 have ep : yb2 (tkC k) (haE i).x.c (haE i).x.n = i := yqL hi
 rw [e, ep, if_neg (by decide), if_neg (show ¬ (haE i).x.n ≠ knW.last from (by decide : ¬ (1 : Int) ≠ 1)), if_neg (show ¬ (i : Int) ≤ knW.since by show ¬ (i : Int) ≤ -1; omega), Int.toNat_natCast, ykU hi, ysG hi]
 simp only
 rw [if_neg (show ¬ (yeS (1 + (i : Int)) 1).op ≠ knW.op from fun h => h rfl), if_neg (show ¬ (haE i).x.r ≠ (ybB i).x from fun h => h rfl)]
 rfl
theorem yo5 {k : Nat} : ∀ (P : List Nat) (i0 : Nat) (L : KL) (ans : Int), P.Nodup → (∀ i ∈ P, i < k) → (∀ i ∈ P, lkp L (1 + (i : Int)) = some knW) → goF (tkC k) (tkR k) i0 L ans (P.map fun i => (haE i).x) = -1
 | [], _, _, _, _, _, _ => rfl
 | i :: r, i0, L, ans, hn, hk, hL => by
  rw [List.nodup_cons] at hn
  rw [List.map_cons, goF, if_pos (show (haE i).x.a = true by rfl), yo4 (hk i (by simp)) L ans (hL i (by simp))]
  simp only
  refine yo5 r _ _ _ hn.2 (fun j hj => hk j (by simp [hj])) fun j hj => ?_
  have hne : j ≠ i := fun e => hn.1 (e ▸ hj)
  rw [yfT, if_neg (by omega)]
  exact hL j (by simp [hj])
theorem yqM {k : Nat} {P : List Nat} (hn : P.Nodup) (hk : ∀ i ∈ P, i < k) : ybZ 0 (tkC k) (tkR k) (((List.range k).map hcE ++ P.map haE).map (·.x)) = -1 := by
 rw [ybZ, if_pos rfl, List.map_append, List.map_map, List.map_map, List.range_eq_range']
 obtain ⟨L', h1, _, h3⟩ := ylY (tkC k) (tkR k) (P.map fun i => (haE i).x) k 0 0 [] fun i _ => rfl
 refine h3.trans ?_
 exact yo5 P _ _ _ hn hk fun i hi => h1 i (by omega) (by have := hk i hi; omega)
theorem yqN : ∀ k, k < 7 → ∀ a, a < k → ∀ b, b < k → a ≠ b → ybZ 0 (tkC k) (tkR k) [(hcE a).x, (haE a).x, (hcE b).x, (haE b).x] = if b < a then 3 else -1 := by decide +kernel
def yg0 (t : Bool) : List Value := [.bool t]
theorem yg1 (t : Bool) : (yg0 t).length = 1 := rfl
theorem yvK : (Tryz.prog.info? 4).map (fun i => (i.zero, i.size, i.bytes)) = some (some (.bool false), 1, 1) := by kernel_rfl
theorem yvL (k : Nat) (hk : k < 7) : (madeCells #[Value.bool false] (k * 1)).toList = (List.replicate k false).flatMap yg0 := by
 have h0 : (madeCells #[Value.bool false] (0 * 1)).toList = (List.replicate 0 false).flatMap yg0 := by kernel_rfl
 have h1 : (madeCells #[Value.bool false] (1 * 1)).toList = (List.replicate 1 false).flatMap yg0 := by kernel_rfl
 have h2 : (madeCells #[Value.bool false] (2 * 1)).toList = (List.replicate 2 false).flatMap yg0 := by kernel_rfl
 have h3 : (madeCells #[Value.bool false] (3 * 1)).toList = (List.replicate 3 false).flatMap yg0 := by kernel_rfl
 have h4 : (madeCells #[Value.bool false] (4 * 1)).toList = (List.replicate 4 false).flatMap yg0 := by kernel_rfl
 have h5 : (madeCells #[Value.bool false] (5 * 1)).toList = (List.replicate 5 false).flatMap yg0 := by kernel_rfl
 have h6 : (madeCells #[Value.bool false] (6 * 1)).toList = (List.replicate 6 false).flatMap yg0 := by kernel_rfl
 match k, hk with
 | 0, _ => exact h0
 | 1, _ => exact h1
 | 2, _ => exact h2
 | 3, _ => exact h3
 | 4, _ => exact h4
 | 5, _ => exact h5
 | 6, _ => exact h6
theorem yqO {w : World} {B : Nat} {f : Sl} {l : List CV} {y : CV} {F : Option Addr → Nat → Nat → World → Prop} (hR : Row w B 35 16 CV.cs f.a f.n f.c l) (hl : l.length ≤ 1000000) (hB : B ≤ w.heap.size)
  (hF : ∀ a' c' w', Row w' B 35 16 CV.cs a' (f.n + 1) c' (l ++ [y]) → Mod (ydS f.a) w w' → F a' (f.n + 1) c' w') :
  al w (.cells (CV.cs y).toArray 35) fun b w1 => ydJ pP (Builtin.append_ #[23, 23] 23 #[.slice f.a f.n f.c, .slice (some ⟨b, 0, none⟩) 1 1]) w1 F := by
 refine ybM fun b w1 c1 M1 f1 => ?_
 have s1 := M1.size
 obtain ⟨i0, hi0, hz0, hz1, hz2⟩ := info_parts ylC
 refine yf6 (x := y) (hR.keep0 M1) Tryz.underlying23 hi0 hz0 hz1 hz2 rfl (by decide) c1 rfl (CV.cs_one _) (by omega) (by unfold maxLen; omega) (by omega) fun a' c' w8 hR8 hM8 => ?_
 exact hF a' c' w8 hR8 ((M1.trans (hM8 _ (yiD f.a))).less fun k hk _ => by simpa using hk)
def yvM (w : World) (k : Nat) (a8 : Option Addr) (n8 c8 : Nat) (a11 : Option Addr) (n11 c11 : Nat) (a13 : Option Addr) (n13 c13 : Nat) : Nat → Option Addr → Nat → Nat → Int → World → Prop := fun mm a9 n9 c9 x w' => ∃ (i : Nat) (P : List Nat) (D : List Bool), x = i ∧ i ≤ 50 ∧ Row w' w.heap.size 46 23 EV.cs a9 n9 c9 ((List.range k).map hcE ++ P.map haE) ∧
 Row w' w.heap.size 4 1 yg0 a13 n13 c13 D ∧ Row w' w.heap.size 35 16 CV.cs a8 n8 c8 (tkV k) ∧ Row w' w.heap.size 44 6 HV.cs a11 n11 c11 (ybV (tkC k).length) ∧ D.length = k ∧ P.Nodup ∧ (∀ j ∈ P, j < k) ∧ (∀ j : Nat, D[j]? = some false → j ∉ P) ∧ P.length ≤ i ∧ Mod [] w w' ∧ mm = 50 - i
set_option maxHeartbeats 4000000 in
theorem yqP {n swap : Int} {w : World} {a : Option Addr} {m c : Nat} {os : List Int} (h : ybU w 1 (fun x : Int => [Value.int .i64 x]) a m os) (hm : m ≤ maxLen) :
  Calls pP 4 #[.int .i64 n, .slice a m c, .int .i64 swap] w fun e w' => e = .returned (.bool true) ∧ Mod [] w w' := by
 have hmn := h.1
 unfold maxLen at hm
 obtain ⟨k, hk, hk2, hk6⟩ : ∃ k : Nat, IntKind.wrap .i64 (2 + (Int.tmod (ydP .i64 n 65535) 5)) = (k : Int) ∧ 2 ≤ k ∧ k ≤ 6 := by
  have h1 := yd9 (x := n) (m := 65535) (by decide) (by decide)
  have h2 := Int.tmod_nonneg (5 : Int) h1.1
  have h3 := Int.tmod_lt_of_pos (ydP .i64 n 65535) (b := (5 : Int)) (by omega)
  exact ⟨(2 + Int.tmod (ydP .i64 n 65535) 5).toNat, by rw [yaW (by omega) (by omega)]; omega, by omega, by omega⟩
 have hk0 : ((k : Nat) : Int) ≠ 0 := by omega
 have hkl : (tkC k).length ≤ 1000 := by rw [ydG]; omega
 obtain ⟨sw, hsw, hsw2⟩ : ∃ sw : Nat, ydP .i64 swap 65535 = (sw : Int) ∧ sw ≤ 65535 := by
  have h1 := yd9 (x := swap) (m := 65535) (by decide) (by decide)
  exact ⟨(ydP .i64 swap 65535).toNat, by omega, by omega⟩
 obtain ⟨ai, hai', hai⟩ : ∃ ai : Nat, ai = sw % k ∧ ai < k := ⟨_, rfl, Nat.mod_lt _ (by omega)⟩
 obtain ⟨bi, hbi', hbi⟩ : ∃ bi : Nat, bi = (sw + 1) % k ∧ bi < k := ⟨_, rfl, Nat.mod_lt _ (by omega)⟩
 have hA : Int.tmod (ydP .i64 swap 65535) (k : Int) = (ai : Int) := by rw [hsw, Int.tmod_eq_emod_of_nonneg (by omega), hai']; exact (Int.natCast_emod sw k).symm
 have hB : Int.tmod (IntKind.wrap .i64 ((ydP .i64 swap 65535) + 1)) (k : Int) = (bi : Int) := by rw [hsw, yaW (by omega) (by omega), Int.tmod_eq_emod_of_nonneg (by omega), hbi']; exact (Int.natCast_emod (sw + 1) k).symm
 have hab : ai ≠ bi := by
  rw [hai', hbi', Nat.add_mod]
  intro e
  have h1 : sw % k < k := Nat.mod_lt _ (by omega)
  have h2 : 1 % k = 1 := Nat.mod_eq_of_lt (by omega)
  rw [h2] at e
  by_cases h3 : sw % k + 1 < k
  ·rw [Nat.mod_eq_of_lt h3] at e; omega
  ·have h4 : sw % k + 1 = k := by omega
   rw [h4, Nat.mod_self] at e; omega
 have hLate : ybZ (if 1 ≤ (4 : Int) ∧ (4 : Int) ≤ 64 then 0 else 1) (tkC k) ((ybV (tkC k).length).map (·.x)) ([hcE ai, haE ai, hcE bi, haE bi].map (·.x)) = if bi < ai then 3 else -1 := by
  rw [if_pos (by decide), ydG]
  exact yqN k (by omega) ai hai bi hbi hab
 refine ya7 (yvH ?_)
 rw [hk]
 refine ⟨by decide, ybM fun b5 w6 c5 M5 f5 => ybM fun b7 w8 c7 M7 f7 => ?_⟩
 have s5 := M5.size
 have N8 := M5.go0 M7 (by simp)
 refine yo1 (fun mm a8 n8 c8 a9 n9 c9 x w' => ∃ i : Nat, x = i ∧ i ≤ k ∧ Row w' w.heap.size 35 16 CV.cs a8 n8 c8 (tkV i) ∧ Row w' w.heap.size 46 23 EV.cs a9 n9 c9 ((List.range i).map hcE) ∧ Mod [] w w' ∧ mm = k - i) k
  ⟨0, rfl, by omega, Row.fresh (M7.keep0 c5) f5, Row.fresh c7 (by omega), N8, rfl⟩ ?_
 rintro mm a8 n8 c8 a9 n9 c9 x w1 ⟨i, rfl, hi, hC, hE, N, rfl⟩
 have s1 := N.size
 refine yaP (fun hlt => ?_) fun hge => ?_
 ·have e1 : IntKind.wrap .i64 (1 + (i : Int)) = 1 + (i : Int) := yaW (by omega) (by omega)
  rw [e1]
  refine (yiL (1 + (i : Int)) 1 w1).mono ?_
  rintro _ w2 ⟨rfl, M2⟩
  have s2 := M2.size
  refine ⟨_, _, _, _, _, _, _, _, _, _, _, _, _, _, _, _, _, _, _, _, rfl, ?_⟩
  have hC2 := hC.keep0 M2
  have hE2 := hE.keep0 M2
  have lC := yc4 hC2
  refine yqO (y := yaU (1 + (i : Int)) 1) (f := ⟨a8, n8, c8⟩) hC2 (by rw [ysF]; omega) (by omega) fun a3 c3 w3 hC3 M3 => ?_
  have s3 := M3.size
  have N3 := (N.go0 M2 (by simp)).go0 M3 fun j hj => (lC j hj).1
  have hE3 := ybF hE2 M3 (ycB hC2 hE2 (by decide))
  refine (hC3.sl CV.cs_len).ix (i := i) (x := yaU (1 + (i : Int)) 1) (by rw [← ylX]; exact yc5 (by omega)) fun ad had => yaI had ?_
  refine (yaO (yaU (1 + (i : Int)) 1) w3).mono ?_
  rintro _ w4 ⟨rfl, M4⟩
  have s4 := M4.size
  refine ⟨_, _, _, _, _, _, _, _, _, _, _, _, _, _, _, _, _, _, _, _, _, _, _, _, _, _, _, _, _, _, _, rfl, ?_⟩
  have hC4 := hC3.keep0 M4
  have hE4 := hE3.keep0 M4
  have lE := yc4 hE4
  refine ylW (y := hcE i) (f := ⟨a9, n9, c9⟩) hE4 (by simp; omega) (by omega) fun a5 c5 w5 hE5 M5 _ => ?_
  have hC5 := ybF hC4 M5 (ycB hE4 hC4 (by decide))
  exact yo0 (k - (i + 1)) (by omega) ⟨i + 1, by rw [yaW (by omega) (by omega)]; omega, by omega, by rw [ylX]; exact hC5, by rw [List.range_succ, List.map_append]; exact hE5, (N3.go0 M4 (by simp)).go0 M5 fun j hj => (lE j hj).1, rfl⟩
 ·have hik : i = k := by omega
  subst hik
  have hCA : ∀ {w' : World}, Row w' w.heap.size 35 16 CV.cs a8 n8 c8 (tkV i) → ya8 w' ⟨a8, n8, c8⟩ (tkC i) := fun {w'} hr => ⟨tkV i, hr.sl CV.cs_len, fun q hq => by
   simp only [tkV, List.mem_map] at hq
   obtain ⟨j, _, rfl⟩ := hq
   exact ycZ w', rfl⟩
  refine (ydU (s := ⟨a8, n8, c8⟩) (hCA hC) hkl (yeT i) 4).mono ?_
  rintro _ w2 ⟨_, rfl, sr, rfl, M2, hr⟩
  have hr := hr (by decide)
  have hrn : sr.n = i := by rw [hr.1, ye5, ydG]
  refine ⟨_, _, _, _, rfl, brF (by decide) (brF (by rw [hrn]; simp) ?_)⟩
  have N2 := N.go0 M2 (by simp)
  have s2 := M2.size
  obtain ⟨i0, hi0, hz0, hz1, hz2⟩ := info_parts yvK
  obtain ⟨w3, hw3, ho3, hg3⟩ := run_makeSlice_full (P := pP) (w := w2) w.heap.size 55 4 i0 (.bool false) 1 Tryz.underlying55 hi0 hz0 hz1 .i64 .i64 i (by omega) (by rw [hz2]; omega) (by unfold maxLen; omega) (by omega)
  refine ⟨_, _, _, w3, hw3, ?_⟩
  have M3 : Mod [] w2 w3 := ⟨hg3.os, hg3.tape, hg3.output, hg3.size, fun j hj _ => hg3.block j hj (by simp)⟩
  have hD : Row w3 w.heap.size 4 1 yg0 (some ⟨w2.heap.size, 0, none⟩) i i (List.replicate i false) := ⟨by simp, by rw [← yvL i (by omega)]; exact ho3⟩
  have K3 := M2.go0 M3 (by simp)
  generalize ha13 : (some ⟨w2.heap.size, 0, none⟩ : Option Addr) = a13 at hD ⊢
  have hr0 : Row w3 w.heap.size 44 6 HV.cs sr.a sr.n sr.c (ybV (tkC i).length) := (hr.keep0 M3).rebase (by omega)
  clear hr
  obtain ⟨sra, srn, src⟩ := sr
  refine yo2 (yvM w i a8 n8 c8 sra srn src a13 i i) 50 ⟨0, [], List.replicate i false, rfl, by omega, by simpa using hE.keep0 K3, hD, hC.keep0 K3, hr0, by simp, List.nodup_nil, by simp, by simp, by simp, N2.go0 M3 (by simp), rfl⟩ ?_
  clear hE hC N hr0 hD
  rintro mm a9 n9 c9 x w4 ⟨j, P, D, rfl, hj, hE, hD, hC, hPr, hDl, hPn, hPk, hPD, hPj, N, rfl⟩
  have s4 := N.size
  have hEO : ∀ q ∈ (List.range i).map hcE ++ P.map haE, EvAt w4 q ∧ s64 q.x.c := fun q hq => by
   rcases List.mem_append.1 hq with hq | hq
   ·obtain ⟨y, hy, rfl⟩ := List.mem_map.1 hq
    exact yjM y w4 (by have := List.mem_range.1 hy; omega)
   ·obtain ⟨y, hy, rfl⟩ := List.mem_map.1 hq
    exact yjN y w4 (by have := hPk y hy; omega)
  have hFirst : ybZ (if 1 ≤ (4 : Int) ∧ (4 : Int) ≤ 64 then 0 else 1) (tkC i) ((ybV (tkC i).length).map (·.x)) (((List.range i).map hcE ++ P.map haE).map (·.x)) = -1 := by
   rw [if_pos (by decide), ydG]
   exact yqM hPn hPk
  have ex : IntKind.wrap .i64 ((j : Int) + 1) = ((j + 1 : Nat) : Int) := by
   by_cases hjm : j ≤ 1000
   ·rw [yaW (by omega) (by omega)]; omega
   ·omega
  refine yaP (fun hlt => ?_) fun hge => ?_
  ·refine yaP (fun hl50 => ?_) fun hg50 => ?_
   ·have c3 : ∀ (at_ : Nat) (t : Bool), (t = true → at_ < i ∧ D[at_]? = some false) → ylR a m c swap (i : Int) a8 n8 c8 a9 n9 c9 sra srn src a13 i i ((j : Nat) : Int) ((at_ : Nat) : Int) t (yhY a m c swap (i : Int) a8 n8 c8 sra srn src a13 i i (yvM w i a8 n8 c8 sra srn src a13 i i) (50 - j)) (fun v w' => v = .bool true ∧ Mod [] w w') w4 := fun at_ t ht => by
     unfold ylR
     refine yaH (fun g => ?_) fun g => ?_
     ·obtain ⟨hat, hDa⟩ := ht g
      refine hD.store yg1 (y := true) rfl hDa fun ad w5 had hD5 M5 => ?_
      have lD := yc4 hD
      have hsb : ∀ z ∈ [ad.block], z ∈ ydS a13 := fun z hz => by rw [had]; simpa [ydS] using hz
      have hC5 := ybF hC M5 fun z hz => ycB hD hC (by decide) z (hsb z hz)
      have hP5 := ybF hPr M5 fun z hz => ycB hD hPr (by decide) z (hsb z hz)
      have hE5 := ybF hE M5 fun z hz => ycB hD hE (by decide) z (hsb z hz)
      have N5 := N.go0 M5 fun z hz => (lD z (hsb z hz)).1
      refine (hC5.sl CV.cs_len).ixW (i := at_) (x := yaU (1 + (at_ : Int)) 1) (yc5 hat) fun q1 g1 => ?_
      intro w6 A6
      refine yaI (g1 _ A6.mod) ?_
      have hC6 := hC5.keep0 A6.mod
      have hP6 := hP5.keep0 A6.mod
      have hE6 := hE5.keep0 A6.mod
      have hD6 := hD5.keep0 A6.mod
      have N6 := N5.go0 A6.mod (by simp)
      refine (hP6.sl HV.cs_len).ix (i := at_) (x := ybB at_) (ydB (by rw [ydG]; exact hat)) fun q2 g2 => ya9 g2 ?_
      refine (yaV (yaU (1 + (at_ : Int)) 1) (ybB at_) w6).mono ?_
      rintro _ w7 ⟨rfl, M7⟩
      refine ⟨_, _, _, _, _, _, _, _, _, _, _, _, _, _, _, _, _, _, _, _, _, _, _, _, _, _, _, _, _, _, _, rfl, ?_⟩
      have hE7 := hE6.keep0 M7
      have hD7 := hD6.keep0 M7
      have hC7 := hC6.keep0 M7
      have hP7 := hP6.keep0 M7
      have N7 := N6.go0 M7 (by simp)
      have lE := yc4 hE7
      have s7 := N7.size
      refine ylW (y := haE at_) (f := ⟨a9, n9, c9⟩) hE7 (by simp; omega) (by omega) fun a10 c10 w8 hE8 M8 _ => ?_
      have hatP : at_ ∉ P := hPD at_ hDa
      refine yjK (50 - (j + 1)) (by omega) ⟨j + 1, P ++ [at_], D.set at_ true, ex, by omega, ?_, ybF hD7 M8 (ycB hE7 hD7 (by decide)), ybF hC7 M8 (ycB hE7 hC7 (by decide)), ybF hP7 M8 (ycB hE7 hP7 (by decide)), by simp [hDl], ?_, fun z hz => ?_, fun z hz => ?_, by simp; omega, N7.go0 M8 fun z hz => (lE z hz).1, rfl⟩
      ·rw [List.map_append, ← List.append_assoc]; exact hE8
      ·refine List.nodup_append.2 ⟨hPn, by simp, fun x hx y hy e => ?_⟩
       simp at hy; subst hy
       exact hatP (e ▸ hx)
      ·rcases List.mem_append.1 hz with hz | hz
       ·exact hPk z hz
       ·simp at hz; omega
      ·rw [List.getElem?_set] at hz
       split at hz
       ·split at hz <;> cases hz
       ·rename_i hne
        intro hzP
        rcases List.mem_append.1 hzP with hzP | hzP
        ·exact hPD z hz hzP
        ·simp at hzP; exact hne hzP.symm
     ·exact yjK (50 - (j + 1)) (by omega) ⟨j + 1, P, D, ex, by omega, hE, hD, hC, hPr, hDl, hPn, hPk, hPD, by omega, N, rfl⟩
    have getD : ∀ z : Nat, z < i → ∃ t, D[z]? = some t := fun z hz => ⟨_, List.getElem?_eq_getElem (by omega)⟩
    have e2 : IntKind.wrap .i64 ((j : Int) - (m : Int)) = (j : Int) - (m : Int) := yaW (by omega) (by omega)
    rw [e2]
    refine yaP (fun hneg => ?_) fun hpos => ?_
    ·obtain ⟨o, ho⟩ : ∃ o, os[j]? = some o := ⟨_, List.getElem?_eq_getElem (by omega)⟩
     refine (h.keep0 N).ix ho fun q hq => yaF (x := o) (by simpa [add_zero] using hq 0 _ rfl) ⟨hk0, ?_⟩
     obtain ⟨z, hz, hzk⟩ : ∃ z : Nat, Int.tmod (ydP .i64 o 65535) (i : Int) = (z : Int) ∧ z < i := by
      have h1 := yd9 (x := o) (m := 65535) (by decide) (by decide)
      have h2 := Int.tmod_nonneg (i : Int) h1.1
      have h3 := Int.tmod_lt_of_pos (ydP .i64 o 65535) (b := (i : Int)) (by omega)
      exact ⟨(Int.tmod (ydP .i64 o 65535) (i : Int)).toNat, by omega, by omega⟩
     rw [hz]
     refine yaP (fun _ => ?_) fun g => by omega
     obtain ⟨t, ht⟩ := getD z hzk
     refine (hD.sl yg1).ix ht fun q2 g2 => yaR (x := t) (by simpa [add_zero] using g2 0 _ rfl) ?_
     refine ykT (c3 z (!t) fun g => ⟨hzk, ?_⟩)
     rw [ht]; cases t
     ·rfl
     ·cases g
    ·obtain ⟨z, hz⟩ : ∃ z : Nat, (j : Int) - (m : Int) = (z : Int) := ⟨((j : Int) - (m : Int)).toNat, by omega⟩
     rw [hz]
     refine yaP (fun hzk => ?_) fun g => ykT (c3 z false fun e => by cases e)
     have hzk : z < i := by omega
     obtain ⟨t, ht⟩ := getD z hzk
     refine (hD.sl yg1).ix ht fun q2 g2 => yaR (x := t) (by simpa [add_zero] using g2 0 _ rfl) ?_
     refine ykT (c3 z (!t) fun g => ⟨hzk, ?_⟩)
     rw [ht]; cases t
     ·rfl
     ·cases g
   ·refine (ydV (s := ⟨a8, n8, c8⟩) (t := ⟨a9, n9, c9⟩) 4 (hCA hC) hkl (yeT i) (hE.sl EV.cs_len) hEO (by rw [List.length_append, List.length_map, List.length_map, List.length_range]; omega)).mono ?_
    rw [hFirst]
    rintro _ w6 ⟨rfl, M6⟩
    refine ⟨_, rfl, brF rfl ⟨hk0, hk0, ?_⟩⟩
    rw [hA, hB]
    have hC6 := hC.keep0 M6
    have hP6 := hPr.keep0 M6
    refine (hC6.sl CV.cs_len).ixW (i := ai) (x := yaU (1 + (ai : Int)) 1) (yc5 hai) fun q1 g1 => ?_
    intro w7 A7
    refine yaI (g1 _ A7.mod) ?_
    have hC7 := (hC6.keep0 A7.mod).sl CV.cs_len
    have hP7 := (hP6.keep0 A7.mod).sl HV.cs_len
    have N7 := (N.go0 M6 (by simp)).go0 A7.mod (by simp)
    have L : Mod [] w7 w7 := Mod.refl w7
    refine hC7.ixW (i := ai) (x := yaU (1 + (ai : Int)) 1) (yc5 hai) fun q2 g2 => yaI (g2 _ L) ?_
    refine hP7.ixW (i := ai) (x := ybB ai) (ydB (by rw [ydG]; exact hai)) fun q3 g3 => ya9 (g3 _ L) ?_
    refine hC7.ixW (i := bi) (x := yaU (1 + (bi : Int)) 1) (yc5 hbi) fun q4 g4 => yaI (g4 _ L) ?_
    refine hC7.ixW (i := bi) (x := yaU (1 + (bi : Int)) 1) (yc5 hbi) fun q5 g5 => yaI (g5 _ L) ?_
    refine hP7.ixW (i := bi) (x := ybB bi) (ydB (by rw [ydG]; exact hbi)) fun q6 g6 => ya9 (g6 _ L) ?_
    refine (yaO (yaU (1 + (ai : Int)) 1) w7).mono ?_
    rintro _ w8 ⟨rfl, M8⟩
    have L := L.go0 M8 (by simp)
    refine ⟨_, _, _, _, _, _, _, _, _, _, _, _, _, _, _, _, _, _, _, _, _, _, _, _, _, _, _, _, _, _, _, rfl, And.intro (ya9 (g6 _ L) rfl) (And.intro (yaI (g5 _ L) rfl) (And.intro (yaI (g4 _ L) rfl) (And.intro (ya9 (g3 _ L) rfl) (And.intro (yaI (g2 _ L) rfl) ?_))))⟩
    refine (yaV (yaU (1 + (ai : Int)) 1) (ybB ai) w8).mono ?_
    rintro _ w9 ⟨rfl, M9⟩
    have L := L.go0 M9 (by simp)
    refine ⟨_, _, _, _, _, _, _, _, _, _, _, _, _, _, _, _, _, _, _, _, _, _, _, _, _, _, _, _, _, _, _, rfl, And.intro (ya9 (g6 _ L) rfl) (And.intro (yaI (g5 _ L) rfl) (And.intro (yaI (g4 _ L) rfl) ?_))⟩
    refine (yaO (yaU (1 + (bi : Int)) 1) w9).mono ?_
    rintro _ w10 ⟨rfl, M10⟩
    have L := L.go0 M10 (by simp)
    refine ⟨_, _, _, _, _, _, _, _, _, _, _, _, _, _, _, _, _, _, _, _, _, _, _, _, _, _, _, _, _, _, _, rfl, And.intro (ya9 (g6 _ L) rfl) (And.intro (yaI (g5 _ L) rfl) ?_)⟩
    refine (yaV (yaU (1 + (bi : Int)) 1) (ybB bi) w10).mono ?_
    rintro _ w11 ⟨rfl, M11⟩
    have L := L.go0 M11 (by simp)
    refine ⟨_, _, _, _, _, _, _, _, _, _, _, _, _, _, _, _, _, _, _, _, _, _, _, _, _, _, _, _, _, _, _, rfl, ybM fun bl w12 c12 M12 f12 => ?_⟩
    have L := L.go0 M12 (by simp)
    have hl12 : ybU w12 23 EV.cs (some ⟨bl, 0, none⟩) 4 [hcE ai, haE ai, hcE bi, haE bi] := ybU.flatB (l := [hcE ai, haE ai, hcE bi, haE bi]) EV.cs_len c12
    have hCA12 : ya8 w12 ⟨a8, n8, c8⟩ (tkC i) := (hCA (hC6.keep0 A7.mod)).keep0 L
    have F := (ydV (s := ⟨a8, n8, c8⟩) (t := ⟨some ⟨bl, 0, none⟩, 4, 4⟩) 4 hCA12 hkl (yeT i) hl12 (fun q hq => by
     simp only [List.mem_cons, List.not_mem_nil, or_false] at hq
     rcases hq with rfl | rfl | rfl | rfl
     ·exact yjM _ _ (by omega)
     ·exact yjN _ _ (by omega)
     ·exact yjM _ _ (by omega)
     ·exact yjN _ _ (by omega)) (by simp))
    rw [hLate] at F
    by_cases hba : (bi : Int) < (ai : Int)
    ·refine brT (decide_eq_true hba) ?_
     rw [if_pos (by omega)] at F
     refine F.mono ?_
     rintro _ w13 ⟨rfl, M13⟩
     exact ⟨_, rfl, brT rfl (ylV ((N7.go0 L (by simp)).go0 M13 (by simp)))⟩
    ·refine brF (decide_eq_false hba) ?_
     rw [if_neg (by omega)] at F
     refine F.mono ?_
     rintro _ w13 ⟨rfl, M13⟩
     exact ⟨_, rfl, brT rfl (ylV ((N7.go0 L (by simp)).go0 M13 (by simp)))⟩
  ·refine (ydV (s := ⟨a8, n8, c8⟩) (t := ⟨a9, n9, c9⟩) 4 (hCA hC) hkl (yeT i) (hE.sl EV.cs_len) hEO (by rw [List.length_append, List.length_map, List.length_map, List.length_range]; omega)).mono ?_
   rw [hFirst]
   rintro _ w6 ⟨rfl, M6⟩
   refine ⟨_, rfl, brF rfl ⟨hk0, hk0, ?_⟩⟩
   rw [hA, hB]
   have hC6 := hC.keep0 M6
   have hP6 := hPr.keep0 M6
   refine (hC6.sl CV.cs_len).ixW (i := ai) (x := yaU (1 + (ai : Int)) 1) (yc5 hai) fun q1 g1 => ?_
   intro w7 A7
   refine yaI (g1 _ A7.mod) ?_
   have hC7 := (hC6.keep0 A7.mod).sl CV.cs_len
   have hP7 := (hP6.keep0 A7.mod).sl HV.cs_len
   have N7 := (N.go0 M6 (by simp)).go0 A7.mod (by simp)
   have L : Mod [] w7 w7 := Mod.refl w7
   refine hC7.ixW (i := ai) (x := yaU (1 + (ai : Int)) 1) (yc5 hai) fun q2 g2 => yaI (g2 _ L) ?_
   refine hP7.ixW (i := ai) (x := ybB ai) (ydB (by rw [ydG]; exact hai)) fun q3 g3 => ya9 (g3 _ L) ?_
   refine hC7.ixW (i := bi) (x := yaU (1 + (bi : Int)) 1) (yc5 hbi) fun q4 g4 => yaI (g4 _ L) ?_
   refine hC7.ixW (i := bi) (x := yaU (1 + (bi : Int)) 1) (yc5 hbi) fun q5 g5 => yaI (g5 _ L) ?_
   refine hP7.ixW (i := bi) (x := ybB bi) (ydB (by rw [ydG]; exact hbi)) fun q6 g6 => ya9 (g6 _ L) ?_
   refine (yaO (yaU (1 + (ai : Int)) 1) w7).mono ?_
   rintro _ w8 ⟨rfl, M8⟩
   have L := L.go0 M8 (by simp)
   refine ⟨_, _, _, _, _, _, _, _, _, _, _, _, _, _, _, _, _, _, _, _, _, _, _, _, _, _, _, _, _, _, _, rfl, And.intro (ya9 (g6 _ L) rfl) (And.intro (yaI (g5 _ L) rfl) (And.intro (yaI (g4 _ L) rfl) (And.intro (ya9 (g3 _ L) rfl) (And.intro (yaI (g2 _ L) rfl) ?_))))⟩
   refine (yaV (yaU (1 + (ai : Int)) 1) (ybB ai) w8).mono ?_
   rintro _ w9 ⟨rfl, M9⟩
   have L := L.go0 M9 (by simp)
   refine ⟨_, _, _, _, _, _, _, _, _, _, _, _, _, _, _, _, _, _, _, _, _, _, _, _, _, _, _, _, _, _, _, rfl, And.intro (ya9 (g6 _ L) rfl) (And.intro (yaI (g5 _ L) rfl) (And.intro (yaI (g4 _ L) rfl) ?_))⟩
   refine (yaO (yaU (1 + (bi : Int)) 1) w9).mono ?_
   rintro _ w10 ⟨rfl, M10⟩
   have L := L.go0 M10 (by simp)
   refine ⟨_, _, _, _, _, _, _, _, _, _, _, _, _, _, _, _, _, _, _, _, _, _, _, _, _, _, _, _, _, _, _, rfl, And.intro (ya9 (g6 _ L) rfl) (And.intro (yaI (g5 _ L) rfl) ?_)⟩
   refine (yaV (yaU (1 + (bi : Int)) 1) (ybB bi) w10).mono ?_
   rintro _ w11 ⟨rfl, M11⟩
   have L := L.go0 M11 (by simp)
   refine ⟨_, _, _, _, _, _, _, _, _, _, _, _, _, _, _, _, _, _, _, _, _, _, _, _, _, _, _, _, _, _, _, rfl, ybM fun bl w12 c12 M12 f12 => ?_⟩
   have L := L.go0 M12 (by simp)
   have hl12 : ybU w12 23 EV.cs (some ⟨bl, 0, none⟩) 4 [hcE ai, haE ai, hcE bi, haE bi] := ybU.flatB (l := [hcE ai, haE ai, hcE bi, haE bi]) EV.cs_len c12
   have hCA12 : ya8 w12 ⟨a8, n8, c8⟩ (tkC i) := (hCA (hC6.keep0 A7.mod)).keep0 L
   have F := (ydV (s := ⟨a8, n8, c8⟩) (t := ⟨some ⟨bl, 0, none⟩, 4, 4⟩) 4 hCA12 hkl (yeT i) hl12 (fun q hq => by
    simp only [List.mem_cons, List.not_mem_nil, or_false] at hq
    rcases hq with rfl | rfl | rfl | rfl
    ·exact yjM _ _ (by omega)
    ·exact yjN _ _ (by omega)
    ·exact yjM _ _ (by omega)
    ·exact yjN _ _ (by omega)) (by simp))
   rw [hLate] at F
   by_cases hba : (bi : Int) < (ai : Int)
   ·refine brT (decide_eq_true hba) ?_
    rw [if_pos (by omega)] at F
    refine F.mono ?_
    rintro _ w13 ⟨rfl, M13⟩
    exact ⟨_, rfl, brT rfl (ylV ((N7.go0 L (by simp)).go0 M13 (by simp)))⟩
   ·refine brF (decide_eq_false hba) ?_
    rw [if_neg (by omega)] at F
    refine F.mono ?_
    rintro _ w13 ⟨rfl, M13⟩
    exact ⟨_, rfl, brT rfl (ylV ((N7.go0 L (by simp)).go0 M13 (by simp)))⟩
end Go.Proofs.YtkepmmocldnnfaaGreat
namespace Go.Proofs.YtkepmmocldnnfaaGreat.historyLate
open Go.ChangeShapes Go.WideShapes Go.ChangeAt Go.RowKit
open Go.ChangeMaps (open_string shut_string)
set_option linter.unusedVariables false
theorem own : ownKnob Tryz.prog.godebug = none := by kernel_rfl
theorem laidOut : laidOutB Tryz.prog = true := by kernel_rfl
set_option maxRecDepth 100000 in
theorem lifted (os : Os) (started : os.Started) (H : Type) (enc : TypeId × Value → H) :
    ReturnsInHanded {} Tryz.checked os 4 .any (Rows.historyLateSpec.pre6 enc Tryz.prog Tryz.f4 Rows.historyLateRow.domain false) (Rows.historyLateSpec.post enc Tryz.prog Tryz.f4 false true false false) := by
  refine returnsInHanded_of_change (C := Tryz.checked) own started (by kernel_rfl) Tryz.func4
    (ChangeSpec.witness6 (enc := enc) (C := Tryz.checked) false ⟨#[], #[.int .i64 0, .slice none 0 0, .int .i64 0], []⟩ 8 (by kernel_rfl) (by kernel_rfl) (by kernel_rfl) (by kernel_rfl)) ?_
  intro W base args ds gs before hval0 hW hcnd _
  have hval : ∀ (j : Nat) t v, Tryz.f4.params[j]? = some t → args[j]? = some v → Value.okWide Tryz.prog W .any base t v := hval0
  have hW' := hW
  obtain ⟨p, q, hA0, hV, rfl, hfz, hnd⟩ := hW
  have hA : DataW.TrodAll enc Tryz.prog W 0 (fun _ => true) true Tryz.f4.params.toList args.toList ds p := hA0
  rw [Tryz.params4] at hA hval
  obtain ⟨v0, vs0, d0, ds0, p0, q0, hargs, rfl, rfl, h0, r0⟩ := trodAll_cons hA
  obtain ⟨v1, vs1, d1, ds1, p1, q1, rfl, rfl, rfl, h1, r1⟩ := trodAll_cons r0
  obtain ⟨v2, vs2, d2, ds2, p2, q2, rfl, rfl, rfl, h2, r2⟩ := trodAll_cons r1
  obtain ⟨rfl, rfl, rfl⟩ := trodAll_nil r2
  obtain rfl : args = #[v0, v1, v2] := by cases args; simp_all
  obtain ⟨rfl, rfl⟩ := trodVars_none hV
  have k0 := h0
  have lt0 : ∀ x ∈ p0, x.block < W.heap.size := by obtain ⟨m, hm⟩ := k0; exact DataW.trod_lt m _ _ _ hm
  have k1 := h1
  have lt1 : ∀ x ∈ p1, x.block < W.heap.size := by obtain ⟨m, hm⟩ := k1; exact DataW.trod_lt m _ _ _ hm
  have k2 := h2
  have lt2 : ∀ x ∈ p2, x.block < W.heap.size := by obtain ⟨m, hm⟩ := k2; exact DataW.trod_lt m _ _ _ hm
  obtain ⟨a0, rfl, _, _, w0⟩ := open_int Tryz.underlying3 (hval 0 3 v0 rfl rfl) h0
  obtain ⟨b1, len1, cap1, rfl⟩ := okWide_slice Tryz.underlying24 (hval 1 24 v1 rfl rfl)
  obtain ⟨fuel1, hf1⟩ := h1
  obtain ⟨b1', len1', cap1', l1, e1, s1, g1, u1, c1⟩ := (yrW hf1).slice_inv Tryz.underlying24 (yqK W)
  simp [Value.cells] at e1
  obtain ⟨rfl, rfl, rfl⟩ := e1
  rw [show Tryz.prog.cellsOf 3 = 1 by kernel_rfl] at s1
  obtain ⟨a2, rfl, _, _, w2⟩ := open_int Tryz.underlying3 (hval 2 3 v2 rfl rfl) h2
  clear hA0 hval0
  refine (yqP s1 (by omega)).mono fun e W' ⟨he, hM⟩ => ?_
  have bel : Below W.heap.size W W' := hM.below (by simp)
  subst he
  exact ⟨_, rfl, _, _, _, [], _, [], hW', trodAll_mk1 (shut_bool Tryz.underlying4 _), (trodAll_cons_mk (Below.trod laidOut (by kernel_rfl) (of_decide_eq_true (by kernel_rfl)) k0 bel lt0) (trodAll_cons_mk (Below.trod laidOut (by kernel_rfl) (of_decide_eq_true (by kernel_rfl)) k1 bel lt1) (trodAll_cons_mk (Below.trod laidOut (by kernel_rfl) (of_decide_eq_true (by kernel_rfl)) k2 bel lt2) trodAll_mk0))), rfl, bel.frame _, fun h => by cases h⟩
theorem j0 : (Rows.historyLateRow.wf (OpenSpec.ofChange Rows.historyLateSpec)) = true := by kernel_rfl
theorem j1 : (laidOutB Tryz.prog) = true := by kernel_rfl
theorem j2 : (mapsRowed Tryz.prog) = true := by kernel_rfl
theorem j3 : (Tryz.f4.params.all (Tryz.prog.readableRec ·)) = true := by kernel_rfl
theorem j4 : (namedTie Tryz.prog Rows.historyLateRow.named Rows.historyLateSpec.vars) = true := by kernel_rfl
theorem j5 : ((Rows.historyLateRow.stops == [])) = true := by kernel_rfl
theorem j6 : ((Tryz.prog.stops == [])) = true := by kernel_rfl
theorem j7 : ((Rows.historyLateRow.knobs == [])) = true := by kernel_rfl
theorem j8 : ((Tryz.prog.stopKnobs == [])) = true := by kernel_rfl
theorem j9 : ((Rows.historyLateRow.inPlace == Tryz.prog.inPlace 4)) = true := by kernel_rfl
theorem j10 : ((Rows.historyLateRow.unfollowed == Tryz.prog.unfollowed 4)) = true := by kernel_rfl
theorem j11 : ((Rows.historyLateRow.recurses == Tryz.prog.recurses 4)) = true := by kernel_rfl
theorem j12 : ((Rows.historyLateRow.named == Tryz.prog.varsNamed 4)) = true := by kernel_rfl
theorem j13 : ((Rows.historyLateRow.maps == (Tryz.f4.params.toList ++ Rows.historyLateSpec.plain.varTypes Tryz.prog).any (Tryz.prog.mapsRec ·))) = true := by kernel_rfl
theorem j14 : ((Rows.historyLateRow.ifaces == (Tryz.f4.params.toList ++ Rows.historyLateSpec.plain.varTypes Tryz.prog).any (Tryz.prog.ifacesRec ·))) = true := by kernel_rfl
theorem j15 : ((Rows.historyLateRow.mapsOut == Tryz.prog.mapsAmong Tryz.f4.resultTypes.toList)) = true := by kernel_rfl
theorem j16 : ((Rows.historyLateRow.loops == (Tryz.f4.params.toList ++ Rows.historyLateSpec.plain.varTypes Tryz.prog).any (Tryz.prog.loopsFrom ·))) = true := by kernel_rfl
theorem j17 : ((Rows.historyLateRow.wideKeys == (Tryz.f4.params.toList ++ Rows.historyLateSpec.plain.varTypes Tryz.prog ++ Tryz.f4.resultTypes.toList).any (Tryz.prog.wideKeysFrom ·))) = true := by kernel_rfl
theorem j18 : (Rows.historyLateSpec.vars.all (Tryz.prog.varReadable ·)) = true := by kernel_rfl
theorem j19 : (Tryz.f4.resultTypes.all (fun t => Tryz.prog.readableRec t && decide (t < Tryz.prog.types.size))) = true := by kernel_rfl
theorem j20 : ((Rows.historyLateRow.ifacesOut == Tryz.f4.resultTypes.toList.any (Tryz.prog.ifacesRec ·))) = true := by kernel_rfl
theorem j21 : ((Rows.historyLateRow.loopsOut == Tryz.f4.resultTypes.toList.any (Tryz.prog.loopsFrom ·))) = true := by kernel_rfl
theorem j22 : ((Rows.historyLateRow.plainKeys == Tryz.prog.plainKeys)) = true := by kernel_rfl
theorem j23 : (Rows.historyLateRow.shortTexts.isNone) = true := by kernel_rfl
theorem j24 : (Tryz.prog.stopsHeard) = true := by kernel_rfl
theorem j25 : (Tryz.prog.mayEnter) = true := by kernel_rfl
theorem j26 : ((Rows.historyLateRow.lifted == Tryz.prog.liftsFinal)) = true := by kernel_rfl
theorem j27 : ((Tryz.prog.make == some Rows.historyLateRow.make)) = true := by kernel_rfl
theorem j28 : ((Rows.historyLateRow.kinds == (if Rows.historyLateRow.domain.isEmpty then [] else Tryz.f4.params.toList.map fun t => match Tryz.prog.underlying t with | some (.int k) => some k | _ => none))) = true := by kernel_rfl
theorem j29 : ((Rows.historyLateRow.pinned == Rows.historyLateRow.pinnedBy)) = true := by kernel_rfl
theorem j30 : ((Rows.historyLateRow.veiled == (Tryz.f4.params.toList ++ Rows.historyLateSpec.plain.varTypes Tryz.prog ++ Tryz.f4.resultTypes.toList).any (Tryz.prog.veiledRec ·))) = true := by kernel_rfl
theorem j31 : (Rows.historyLateRow.veiledFits Tryz.prog Tryz.f4.params.toList (Tryz.f4.params.toList ++ Rows.historyLateSpec.plain.varTypes Tryz.prog ++ Tryz.f4.resultTypes.toList)) = true := by kernel_rfl
theorem yeA {a b : Bool} (h : a = true) (k : b = true) : (a && b) = true := by rw [h, k]; rfl
set_option maxRecDepth 100000 in
theorem over : Rows.historyLateRow.holds Tryz.pinned (OpenSpec.ofChange Rows.historyLateSpec) :=
  OpenClaim.holds_of_wide 4 Tryz.f4 rfl rfl rfl rfl rfl rfl rfl ⟨rfl, rfl, rfl, rfl, rfl⟩ rfl rfl rfl rfl rfl (by kernel_rfl) Tryz.func4 (by unfold joinedFacts; exact yeA (yeA (yeA (yeA (yeA (yeA (yeA (yeA (yeA (yeA (yeA (yeA (yeA (yeA (yeA (yeA (yeA (yeA (yeA (yeA (yeA (yeA (yeA (yeA (yeA (yeA (yeA (yeA (yeA (yeA (yeA j0 j1) j2) j3) j4) j5) j6) j7) j8) j9) j10) j11) j12) j13) j14) j15) j16) j17) j18) j19) j20) j21) j22) j23) j24) j25) j26) j27) j28) j29) j30) j31)
    (of_decide_eq_true (by kernel_rfl)) (by unfold Func.isWrapper; first | (rw [if_pos (by decide +kernel)]; kernel_rfl) | (rw [if_neg (by decide +kernel)]; exact ⟨rfl, rfl⟩))
    (fun os started H enc _ => lifted os started H enc)
theorem proved : Rows.HistoryLateSaid := over
#print axioms proved
end Go.Proofs.YtkepmmocldnnfaaGreat.historyLate
