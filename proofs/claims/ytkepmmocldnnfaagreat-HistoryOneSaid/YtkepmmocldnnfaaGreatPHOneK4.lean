/- Part 4 of the proof of PHOne. -/
import Derived.Test.YtkepmmocldnnfaaGreatPHOneK3
namespace Go.Proofs.YtkepmmocldnnfaaGreat
open Go Go.RowKit
set_option linter.all false
section
set_option maxRecDepth 100000
set_option maxHeartbeats 4000000
variable {R:VWP} {w w0:World} {m:Nat} {i0 i1 i2 i3 i4 i5 i6 i7 i8 i9 j0 j1 j2 j3 j4 j5 j6 j7 j8 j9 k0 k1 k2 k3 k4 k5 k6 k7 k8 k9 l0 l1 l2 l3 l4 l5 l6 l7 l8 l9:Int} {s0 s1 s2 s3 s4 s5 s6 s7 s8 s9 t0 t1 t2 t3 t4 t5 t6 t7 t8 t9:BA} {n0 n1 n2 n3 n4 n5 n6 n7 n8 n9 o0 o1 o2 o3 o4 o5 o6 o7 o8 o9 p0 p1 p2 p3 p4 p5 p6 p7 p8 p9:Nat} {q0 q1 q2 q3 q4 q5 q6 q7 q8 q9 r0 r1 r2 r3 r4 r5 r6 r7 r8 r9:OA} {B0 B1 B2 B3 B4 B5 B6 B7 B8 B9:Bool} {M0 M1 M2 M3:Option Nat} {V0 V1 V2 V3 V4 V5:Value} {A0 A1 A2:Addr}
def yc5:LA:=⟨[1,1,1,1,1],[1,2,4,5],[(4,0,0),(5,1,0)],2,[]⟩
def yc6:LA:=⟨[1,1,1,1,1,1],[1,2,4,5,6,7],[(4,0,0),(5,1,0),(6,2,0),(7,3,0)],4,[]⟩
def yxF:List LA:=[yc5,yc6,⟨9 :: [0,1,1,1,1],[],[(4,0,0)],6,[0,1,2,4,5,6,3,7,8,9,10,11]⟩,⟨9 :: [0,1,1,1,1,1],[],[(4,0,0)],12,[0,1,2,3,4,5,7,8,9,10,11,12,6,13,14,15,16,17]⟩,⟨9 :: [0,1,1,1,1,1,1,1],[0,1,2,3,4,5,6,7,8,9,10,11,12,13,14,15,16,17,18,19,20,21,22,23,24,25,26,27,28,29,30,31,32,33,34,35,36,37,38,39,40,41,42,43,44,45,46,47,48,49,50,51,52,53,54,55,56,57,58,59,60,61,62,63,64,65,66,67,68,69,70,71,72,73,74,75,76,77,78,79,80,81],[(3,0,0)],6,[82,83,84,87,88,89,85,86,90,91,92,93,94,95,96,97,98,99,100,101,102,103,104,105,106,107,108]⟩]
abbrev ydI:=dnF pP yxF (code Tryz.f14)
abbrev yMJ:=ya0 pP yxF (code Tryz.f14)
abbrev ydJ (p:List Nat) (K:List Kh) (R:VWP):=ya0 pP yxF (code Tryz.f14) p K (ybO pP Tryz.f14 [] R)
def yeT:(Option Addr) × Nat × Nat × (Option Addr) × Nat × Nat × Nat × Int × Int × Bool × Int × ByteArray × Int × Int × Int × Int × Int × Int × (Option Addr) × Nat × Nat × ByteArray × ByteArray × Int × Bool × (Option Addr) × Nat × Nat × Int × Int × Int × Int × (Option Addr) × Nat × Nat × (Option Addr) × Nat × Nat × Nat × Int × Int × Bool × Int × ByteArray × Int × Int × Int × Int × Int × Int × (Option Addr) × Nat × Nat × ByteArray × ByteArray × Int × Bool × (Option Addr) × Nat × Nat × Int × Int × Int × Int × (Option Addr) × Nat × Nat × (Option Addr) × Nat × Nat → List Value × List TB:=fun (g2,g6,g4,g3,g7,g5,bm0,e6,e7,e4,e8,e2,e9,f0,f1,f2,f3,d0,a0,b6,a8,c4,c5,d1,c8,a1,b7,a9,d2,d3,d4,d5,a2,b8,b0,a3,b9,b1,bm1,f4,f5,e5,f6,e3,f7,f8,f9,g0,g1,d6,a4,c0,b2,c6,c7,d7,c9,a5,c1,b3,d8,d9,e0,e1,a6,c2,b4,a7,c3,b5) => ([.slice g2 g6 g4,.slice g3 g7 g5,(.pointer (some ⟨bm0,0,none⟩)),(.pointer (some ⟨bm1,0,none⟩))],[⟨bm0,46,[.int .i64 e6,.int .i64 e7,.bool e4,.int .i64 e8,.string e2,.int .i64 e9,.int .i64 f0,.int .i64 f1,.int .i64 f2,.int .i64 f3,.int .i64 d0,.slice a0 b6 a8,.string c4,.string c5,.int .i64 d1,.bool c8,.slice a1 b7 a9,.int .i64 d2,.int .i64 d3,.int .i64 d4,.int .i64 d5,.slice a2 b8 b0,.slice a3 b9 b1],false⟩,⟨bm1,46,[.int .i64 f4,.int .i64 f5,.bool e5,.int .i64 f6,.string e3,.int .i64 f7,.int .i64 f8,.int .i64 f9,.int .i64 g0,.int .i64 g1,.int .i64 d6,.slice a4 c0 b2,.string c6,.string c7,.int .i64 d7,.bool c9,.slice a5 c1 b3,.int .i64 d8,.int .i64 d9,.int .i64 e0,.int .i64 e1,.slice a6 c2 b4,.slice a7 c3 b5],false⟩])
def yeU:(Option Addr) × Nat × Nat × (Option Addr) × Nat × Nat × Nat × Int × Int × Bool × Int × ByteArray × Int × Int × Int × Int × Int × Int × (Option Addr) × Nat × Nat × ByteArray × ByteArray × Int × Bool × (Option Addr) × Nat × Nat × Int × Int × Int × Int × (Option Addr) × Nat × Nat × (Option Addr) × Nat × Nat × Nat × Int × Int × Bool × Int × ByteArray × Int × Int × Int × Int × Int × Int × (Option Addr) × Nat × Nat × ByteArray × ByteArray × Int × Bool × (Option Addr) × Nat × Nat × Int × Int × Int × Int × (Option Addr) × Nat × Nat × (Option Addr) × Nat × Nat × Nat × Int × Int × Bool × Int × ByteArray × Int × Int × Int × Int × Int × Int × (Option Addr) × Nat × Nat × ByteArray × ByteArray × Int × Bool × (Option Addr) × Nat × Nat × Int × Int × Int × Int × (Option Addr) × Nat × Nat × (Option Addr) × Nat × Nat × Nat × Int × Int × Bool × Int × ByteArray × Int × Int × Int × Int × Int × Int × (Option Addr) × Nat × Nat × ByteArray × ByteArray × Int × Bool × (Option Addr) × Nat × Nat × Int × Int × Int × Int × (Option Addr) × Nat × Nat × (Option Addr) × Nat × Nat → List Value × List TB:=fun (y5,y9,y7,y6,z0,y8,bm0,v3,v4,u9,v5,u4,v6,v7,v8,v9,w0,g0,a0,d2,b6,e8,e9,g1,f6,a1,d3,b7,g2,g3,g4,g5,a2,d4,b8,a3,d5,b9,bm1,w1,w2,v0,w3,u5,w4,w5,w6,w7,w8,g6,a4,d6,c0,f0,f1,g7,f7,a5,d7,c1,g8,g9,h0,h1,a6,d8,c2,a7,d9,c3,bm2,w9,x0,v1,x1,u6,x2,x3,x4,x5,x6,h2,a8,e0,c4,f2,f3,h3,f8,a9,e1,c5,h4,h5,h6,h7,b0,e2,c6,b1,e3,c7,bm3,x7,x8,v2,x9,u7,y0,y1,y2,y3,y4,h8,b2,e4,c8,f4,f5,h9,f9,b3,e5,c9,u0,u1,u2,u3,b4,e6,d0,b5,e7,d1) => ([.slice y5 y9 y7,.slice y6 z0 y8,(.pointer (some ⟨bm0,0,none⟩)),(.pointer (some ⟨bm1,0,none⟩)),(.pointer (some ⟨bm2,0,none⟩)),(.pointer (some ⟨bm3,0,none⟩))],[⟨bm0,46,[.int .i64 v3,.int .i64 v4,.bool u9,.int .i64 v5,.string u4,.int .i64 v6,.int .i64 v7,.int .i64 v8,.int .i64 v9,.int .i64 w0,.int .i64 g0,.slice a0 d2 b6,.string e8,.string e9,.int .i64 g1,.bool f6,.slice a1 d3 b7,.int .i64 g2,.int .i64 g3,.int .i64 g4,.int .i64 g5,.slice a2 d4 b8,.slice a3 d5 b9],false⟩,⟨bm1,46,[.int .i64 w1,.int .i64 w2,.bool v0,.int .i64 w3,.string u5,.int .i64 w4,.int .i64 w5,.int .i64 w6,.int .i64 w7,.int .i64 w8,.int .i64 g6,.slice a4 d6 c0,.string f0,.string f1,.int .i64 g7,.bool f7,.slice a5 d7 c1,.int .i64 g8,.int .i64 g9,.int .i64 h0,.int .i64 h1,.slice a6 d8 c2,.slice a7 d9 c3],false⟩,⟨bm2,46,[.int .i64 w9,.int .i64 x0,.bool v1,.int .i64 x1,.string u6,.int .i64 x2,.int .i64 x3,.int .i64 x4,.int .i64 x5,.int .i64 x6,.int .i64 h2,.slice a8 e0 c4,.string f2,.string f3,.int .i64 h3,.bool f8,.slice a9 e1 c5,.int .i64 h4,.int .i64 h5,.int .i64 h6,.int .i64 h7,.slice b0 e2 c6,.slice b1 e3 c7],false⟩,⟨bm3,46,[.int .i64 x7,.int .i64 x8,.bool v2,.int .i64 x9,.string u7,.int .i64 y0,.int .i64 y1,.int .i64 y2,.int .i64 y3,.int .i64 y4,.int .i64 h8,.slice b2 e4 c8,.string f4,.string f5,.int .i64 h9,.bool f9,.slice b3 e5 c9,.int .i64 u0,.int .i64 u1,.int .i64 u2,.int .i64 u3,.slice b4 e6 d0,.slice b5 e7 d1],false⟩])
def ymO {A0 A1 A2 A3 A4 A5 A6 A7 A8 A9 A10 A11 A12 A13 A14 A15 A16 A17 A18 A19 A20 A21 A22 A23 A24 A25 A26 A27 A28 A29 A30 A31 A32 A33 A34 A35 A36 A37 A38 A39 A40 A41 A42 A43 A44 A45 A46 A47 A48 A49 A50 A51 A52 A53 A54 A55 A56 A57 A58 A59 A60 A61 A62 A63 A64 A65 A66 A67 A68 A69:Type} (J:A0 → A1 → A2 → A3 → A4 → A5 → A6 → A7 → A8 → A9 → A10 → A11 → A12 → A13 → A14 → A15 → A16 → A17 → A18 → A19 → A20 → A21 → A22 → A23 → A24 → A25 → A26 → A27 → A28 → A29 → A30 → A31 → A32 → A33 → A34 → A35 → A36 → A37 → A38 → A39 → A40 → A41 → A42 → A43 → A44 → A45 → A46 → A47 → A48 → A49 → A50 → A51 → A52 → A53 → A54 → A55 → A56 → A57 → A58 → A59 → A60 → A61 → A62 → A63 → A64 → A65 → A66 → A67 → A68 → A69 → World → Prop):A0 × A1 × A2 × A3 × A4 × A5 × A6 × A7 × A8 × A9 × A10 × A11 × A12 × A13 × A14 × A15 × A16 × A17 × A18 × A19 × A20 × A21 × A22 × A23 × A24 × A25 × A26 × A27 × A28 × A29 × A30 × A31 × A32 × A33 × A34 × A35 × A36 × A37 × A38 × A39 × A40 × A41 × A42 × A43 × A44 × A45 × A46 × A47 × A48 × A49 × A50 × A51 × A52 × A53 × A54 × A55 × A56 × A57 × A58 × A59 × A60 × A61 × A62 × A63 × A64 × A65 × A66 × A67 × A68 × A69 → World → Prop:=fun (a0,a1,a2,a3,a4,a5,a6,a7,a8,a9,b0,b1,b2,b3,b4,b5,b6,b7,b8,b9,c0,c1,c2,c3,c4,c5,c6,c7,c8,c9,d0,d1,d2,d3,d4,d5,d6,d7,d8,d9,e0,e1,e2,e3,e4,e5,e6,e7,e8,e9,f0,f1,f2,f3,f4,f5,f6,f7,f8,f9,g0,g1,g2,g3,g4,g5,g6,g7,g8,g9) w_ => J a0 a1 a2 a3 a4 a5 a6 a7 a8 a9 b0 b1 b2 b3 b4 b5 b6 b7 b8 b9 c0 c1 c2 c3 c4 c5 c6 c7 c8 c9 d0 d1 d2 d3 d4 d5 d6 d7 d8 d9 e0 e1 e2 e3 e4 e5 e6 e7 e8 e9 f0 f1 f2 f3 f4 f5 f6 f7 f8 f9 g0 g1 g2 g3 g4 g5 g6 g7 g8 g9 w_
def yk3 {A0 A1 A2 A3 A4 A5 A6 A7 A8 A9 A10 A11 A12 A13 A14 A15 A16 A17 A18 A19 A20 A21 A22 A23 A24 A25 A26 A27 A28 A29 A30 A31 A32 A33 A34 A35 A36 A37 A38 A39 A40 A41 A42 A43 A44 A45 A46 A47 A48 A49 A50 A51 A52 A53 A54 A55 A56 A57 A58 A59 A60 A61 A62 A63 A64 A65 A66 A67 A68 A69 A70 A71 A72 A73 A74 A75 A76 A77 A78 A79 A80 A81 A82 A83 A84 A85 A86 A87 A88 A89 A90 A91 A92 A93 A94 A95 A96 A97 A98 A99 A100 A101 A102 A103 A104 A105 A106 A107 A108 A109 A110 A111 A112 A113 A114 A115 A116 A117 A118 A119 A120 A121 A122 A123 A124 A125 A126 A127 A128 A129 A130 A131 A132 A133:Type} (J:A0 → A1 → A2 → A3 → A4 → A5 → A6 → A7 → A8 → A9 → A10 → A11 → A12 → A13 → A14 → A15 → A16 → A17 → A18 → A19 → A20 → A21 → A22 → A23 → A24 → A25 → A26 → A27 → A28 → A29 → A30 → A31 → A32 → A33 → A34 → A35 → A36 → A37 → A38 → A39 → A40 → A41 → A42 → A43 → A44 → A45 → A46 → A47 → A48 → A49 → A50 → A51 → A52 → A53 → A54 → A55 → A56 → A57 → A58 → A59 → A60 → A61 → A62 → A63 → A64 → A65 → A66 → A67 → A68 → A69 → A70 → A71 → A72 → A73 → A74 → A75 → A76 → A77 → A78 → A79 → A80 → A81 → A82 → A83 → A84 → A85 → A86 → A87 → A88 → A89 → A90 → A91 → A92 → A93 → A94 → A95 → A96 → A97 → A98 → A99 → A100 → A101 → A102 → A103 → A104 → A105 → A106 → A107 → A108 → A109 → A110 → A111 → A112 → A113 → A114 → A115 → A116 → A117 → A118 → A119 → A120 → A121 → A122 → A123 → A124 → A125 → A126 → A127 → A128 → A129 → A130 → A131 → A132 → A133 → World → Prop):A0 × A1 × A2 × A3 × A4 × A5 × A6 × A7 × A8 × A9 × A10 × A11 × A12 × A13 × A14 × A15 × A16 × A17 × A18 × A19 × A20 × A21 × A22 × A23 × A24 × A25 × A26 × A27 × A28 × A29 × A30 × A31 × A32 × A33 × A34 × A35 × A36 × A37 × A38 × A39 × A40 × A41 × A42 × A43 × A44 × A45 × A46 × A47 × A48 × A49 × A50 × A51 × A52 × A53 × A54 × A55 × A56 × A57 × A58 × A59 × A60 × A61 × A62 × A63 × A64 × A65 × A66 × A67 × A68 × A69 × A70 × A71 × A72 × A73 × A74 × A75 × A76 × A77 × A78 × A79 × A80 × A81 × A82 × A83 × A84 × A85 × A86 × A87 × A88 × A89 × A90 × A91 × A92 × A93 × A94 × A95 × A96 × A97 × A98 × A99 × A100 × A101 × A102 × A103 × A104 × A105 × A106 × A107 × A108 × A109 × A110 × A111 × A112 × A113 × A114 × A115 × A116 × A117 × A118 × A119 × A120 × A121 × A122 × A123 × A124 × A125 × A126 × A127 × A128 × A129 × A130 × A131 × A132 × A133 → World → Prop:=fun (a0,a1,a2,a3,a4,a5,a6,a7,a8,a9,e4,e5,e6,e7,e8,e9,f0,f1,f2,f3,f4,f5,f6,f7,f8,f9,g0,g1,g2,g3,g4,g5,g6,g7,g8,g9,h0,h1,h2,h3,h4,h5,h6,h7,h8,h9,u0,u1,u2,u3,u4,u5,u6,u7,u9,v0,v1,v2,v3,v4,v5,v6,v7,v8,v9,w0,w1,w2,w3,w4,w5,w6,w7,w8,w9,x0,x1,x2,x3,x4,x5,x6,x7,x8,x9,y0,y1,y2,y3,y4,y5,y6,y7,y8,y9,z0,z1,z2,z3,z4,b0,b1,b2,b3,b4,b5,b6,b7,b8,b9,c0,c1,c2,c3,c4,c5,c6,c7,c8,c9,d0,d1,d2,d3,d4,d5,d6,d7,d8,d9,e0,e1,e2,e3) w_ => J a0 a1 a2 a3 a4 a5 a6 a7 a8 a9 e4 e5 e6 e7 e8 e9 f0 f1 f2 f3 f4 f5 f6 f7 f8 f9 g0 g1 g2 g3 g4 g5 g6 g7 g8 g9 h0 h1 h2 h3 h4 h5 h6 h7 h8 h9 u0 u1 u2 u3 u4 u5 u6 u7 u9 v0 v1 v2 v3 v4 v5 v6 v7 v8 v9 w0 w1 w2 w3 w4 w5 w6 w7 w8 w9 x0 x1 x2 x3 x4 x5 x6 x7 x8 x9 y0 y1 y2 y3 y4 y5 y6 y7 y8 y9 z0 z1 z2 z3 z4 b0 b1 b2 b3 b4 b5 b6 b7 b8 b9 c0 c1 c2 c3 c4 c5 c6 c7 c8 c9 d0 d1 d2 d3 d4 d5 d6 d7 d8 d9 e0 e1 e2 e3 w_
def yxG (w4:OA) (w6 x0:Nat) (w5:OA) (w7 x1 bm0:Nat) (f4 f5:Int) (f2:Bool) (f6:Int) (f0:BA) (f7 f8 f9 g0 g1 d8:Int) (a8:OA) (c4 b6:Nat) (d2 d3:BA) (d9:Int) (d6:Bool) (a9:OA) (c5 b7:Nat) (e0 e1 e2 e3:Int) (b0:OA) (c6 b8:Nat) (b1:OA) (c7 b9 bm1:Nat) (g2 g3:Int) (f3:Bool) (g4:Int) (f1:BA) (g5 g6 g7 g8 g9 e4:Int) (b2:OA) (c8 c0:Nat) (d4 d5:BA) (e5:Int) (d7:Bool) (b3:OA) (c9 c1:Nat) (e6 e7 e8 e9:Int) (b4:OA) (d0 c2:Nat) (b5:OA) (d1 c3:Nat) (R:VWP) (w:World):Prop :=
 ixA w4 w6 0 16 fun u3 =>
 ∀ a1,Adv [] [] w a1 →
 yaA .i64 a1 u3 fun be => yaA .i64 a1 (Addr.add u3 1) fun bf => yaA .i64 a1 (Addr.add u3 2) fun bg => yaK a1 (Addr.add u3 3) fun ba => yaA .i64 a1 (Addr.add u3 4) fun bh => yaA .i64 a1 (Addr.add u3 5) fun bi => yaA .i64 a1 (Addr.add u3 6) fun bj => yaA .i64 a1 (Addr.add u3 7) fun bk => yaA .i64 a1 (Addr.add u3 8) fun bl => yaA .i64 a1 (Addr.add u3 9) fun bm => yaC a1 (Addr.add u3 10) fun ai aw aq => yaK a1 (Addr.add u3 11) fun bb => yaK a1 (Addr.add u3 12) fun bc => yaA .i64 a1 (Addr.add u3 13) fun bn => yaR a1 (Addr.add u3 14) fun bd => yaC a1 (Addr.add u3 15) fun aj ax ar =>
 ixA w5 w7 0 6 fun ah =>
 yaA .i64 a1 ah fun bo => yaA .i64 a1 (Addr.add ah 1) fun bp => yaA .i64 a1 (Addr.add ah 2) fun bq => yaA .i64 a1 (Addr.add ah 3) fun br => yaC a1 (Addr.add ah 4) fun ak ay au => yaC a1 (Addr.add ah 5) fun am az av =>
 ixA w4 w6 1 16 fun a0 =>
 yaA .i64 a1 a0 fun u9 => yaA .i64 a1 (Addr.add a0 1) fun v0 => yaA .i64 a1 (Addr.add a0 2) fun v1 => yaK a1 (Addr.add a0 3) fun u4 => yaA .i64 a1 (Addr.add a0 4) fun v2 => yaA .i64 a1 (Addr.add a0 5) fun v3 => yaA .i64 a1 (Addr.add a0 6) fun v4 => yaA .i64 a1 (Addr.add a0 7) fun v5 => yaA .i64 a1 (Addr.add a0 8) fun v6 => yaA .i64 a1 (Addr.add a0 9) fun v7 => yaC a1 (Addr.add a0 10) fun h1 h9 h5 => yaK a1 (Addr.add a0 11) fun u5 => yaK a1 (Addr.add a0 12) fun u6 => yaA .i64 a1 (Addr.add a0 13) fun v8 => yaR a1 (Addr.add a0 14) fun u7 => yaC a1 (Addr.add a0 15) fun h2 u0 h6 =>
 ixA w5 w7 1 6 fun a2 =>
 yaA .i64 a1 a2 fun v9 => yaA .i64 a1 (Addr.add a2 1) fun w0 => yaA .i64 a1 (Addr.add a2 2) fun w1 => yaA .i64 a1 (Addr.add a2 3) fun w2 => yaC a1 (Addr.add a2 4) fun h3 u1 h7 => yaC a1 (Addr.add a2 5) fun h4 u2 h8 =>
 ((
 Calls pP 10 #[(.agg (Z0 be bf bg ba bh bi bj bk bl bm ai aw aq bb bc bn bd aj ax ar)),(.agg (Z3 bo bp bq br ak ay au am az av))] a1 fun e a4 => ∃ z2 z3 y9 z4 y6 z5 z6 z7 z8 z9 aa x4 y2 x8 y7 y8 ab z0 x5 y3 x9 ac ad ae af x6 y4 y0 x7 y5 y1,e = .returned (.agg (Z1 z2 z3 y9 z4 y6 z5 z6 z7 z8 z9 aa x4 y2 x8 y7 y8 ab z0 x5 y3 x9 ac ad ae af x6 y4 y0 x7 y5 y1)) ∧ yaG [bm0,bm1] a1 a4 ∧ (yaA .i64 a4 a2 fun ab8 => yaA .i64 a4 (Addr.add a2 1) fun ab9 => yaA .i64 a4 (Addr.add a2 2) fun ac0 => yaA .i64 a4 (Addr.add a2 3) fun ac1 => yaC a4 (Addr.add a2 4) fun zm aa2 zu => yaC a4 (Addr.add a2 5) fun zn aa3 zv => ((.agg (Z3 ab8 ab9 ac0 ac1 zm aa2 zu zn aa3 zv)):Value) = (.agg (Z3 v9 w0 w1 w2 h3 u1 h7 h4 u2 h8))) ∧ (yaA .i64 a4 a0 fun ac2 => yaA .i64 a4 (Addr.add a0 1) fun ac3 => yaA .i64 a4 (Addr.add a0 2) fun ac4 => yaK a4 (Addr.add a0 3) fun ab0 => yaA .i64 a4 (Addr.add a0 4) fun ac5 => yaA .i64 a4 (Addr.add a0 5) fun ac6 => yaA .i64 a4 (Addr.add a0 6) fun ac7 => yaA .i64 a4 (Addr.add a0 7) fun ac8 => yaA .i64 a4 (Addr.add a0 8) fun ac9 => yaA .i64 a4 (Addr.add a0 9) fun ad0 => yaC a4 (Addr.add a0 10) fun zo aa4 zw => yaK a4 (Addr.add a0 11) fun ab1 => yaK a4 (Addr.add a0 12) fun ab2 => yaA .i64 a4 (Addr.add a0 13) fun ad1 => yaR a4 (Addr.add a0 14) fun ab6 => yaC a4 (Addr.add a0 15) fun zp aa5 zx => ((.agg (Z0 ac2 ac3 ac4 ab0 ac5 ac6 ac7 ac8 ac9 ad0 zo aa4 zw ab1 ab2 ad1 ab6 zp aa5 zx)):Value) = (.agg (Z0 u9 v0 v1 u4 v2 v3 v4 v5 v6 v7 h1 h9 h5 u5 u6 v8 u7 h2 u0 h6))) ∧
 ((
 Calls pP 10 #[(.agg (Z0 u9 v0 v1 u4 v2 v3 v4 v5 v6 v7 h1 h9 h5 u5 u6 v8 u7 h2 u0 h6)),(.agg (Z3 v9 w0 w1 w2 h3 u1 h7 h4 u2 h8))] a4 fun e z1 => ∃ fi fj et fk em fl fm fn fo fp fq dg ee dw en eo fr eu dh ef dx fs ft fu fv di eg dy dj eh dz,e = .returned (.agg (Z1 fi fj et fk em fl fm fn fo fp fq dg ee dw en eo fr eu dh ef dx fs ft fu fv di eg dy dj eh dz)) ∧ yaG [bm0,bm1] a4 z1 ∧
 ((
 ∀ dp,z1.heap.size ≤ dp →
 ∀ dq,z1.heap.size ≤ dq →
 ∀ ss,Adv [] [dq,dp] z1 ss →
 ybI yc6 ((ydI 394 [1,1,1,1,1,1]) (ydJ [1,1,1,1,1] [] R)) (yeU (w4,w6,x0,w5,w7,x1,bm0,f4,f5,f2,f6,f0,f7,f8,f9,g0,g1,d8,a8,c4,b6,d2,d3,d9,d6,a9,c5,b7,e0,e1,e2,e3,b0,c6,b8,b1,c7,b9,bm1,g2,g3,f3,g4,f1,g5,g6,g7,g8,g9,e4,b2,c8,c0,d4,d5,e5,d7,b3,c9,c1,e6,e7,e8,e9,b4,d0,c2,b5,d1,c3,dp,z2,z3,y9,z4,y6,z5,z6,z7,z8,z9,aa,x4,y2,x8,y7,y8,ab,z0,x5,y3,x9,ac,ad,ae,af,x6,y4,y0,x7,y5,y1,dq,fi,fj,et,fk,em,fl,fm,fn,fo,fp,fq,dg,ee,dw,en,eo,fr,eu,dh,ef,dx,fs,ft,fu,fv,di,eg,dy,dj,eh,dz)) ss) ∧
 (
 ∀ dr,z1.heap.size ≤ dr →
 ∀ ds,z1.heap.size ≤ ds →
 ∀ su,Adv [] [ds,dr] z1 su →
 ybI yc6 ((ydI 394 [1,1,1,1,1,1]) (ydJ [1,1,1,1,1] [] R)) (yeU (w4,w6,x0,w5,w7,x1,bm0,f4,f5,f2,f6,f0,f7,f8,f9,g0,g1,d8,a8,c4,b6,d2,d3,d9,d6,a9,c5,b7,e0,e1,e2,e3,b0,c6,b8,b1,c7,b9,bm1,g2,g3,f3,g4,f1,g5,g6,g7,g8,g9,e4,b2,c8,c0,d4,d5,e5,d7,b3,c9,c1,e6,e7,e8,e9,b4,d0,c2,b5,d1,c3,ds,z2,z3,y9,z4,y6,z5,z6,z7,z8,z9,aa,x4,y2,x8,y7,y8,ab,z0,x5,y3,x9,ac,ad,ae,af,x6,y4,y0,x7,y5,y1,dr,fi,fj,et,fk,em,fl,fm,fn,fo,fp,fq,dg,ee,dw,en,eo,fr,eu,dh,ef,dx,fs,ft,fu,fv,di,eg,dy,dj,eh,dz)) su))) ∧
 (
 ((
 ∀ w8,a4.heap.size ≤ w8 →
 ((
 ∀ ey,Adv [] [w8] a4 ey →
 Calls pP 10 #[(.agg (Z0 u9 v0 v1 u4 v2 v3 v4 v5 v6 v7 h1 h9 h5 u5 u6 v8 u7 h2 u0 h6)),(.agg (Z3 v9 w0 w1 w2 h3 u1 h7 h4 u2 h8))] ey fun e ez => ∃ td te sh tf rr th ti tj tk tl tm pi qx qd rs rt tn si pj qy qe to tp tq tr pk qz qf pl ra qg,e = .returned (.agg (Z1 td te sh tf rr th ti tj tk tl tm pi qx qd rs rt tn si pj qy qe to tp tq tr pk qz qf pl ra qg)) ∧ yaG [bm0,bm1,w8] ey ez ∧
 ∀ dt,ez.heap.size ≤ dt →
 ∀ sv,Adv [w8] [dt] ez sv →
 ybI yc6 ((ydI 394 [1,1,1,1,1,1]) (ydJ [1,1,1,1,1] [] R)) (yeU (w4,w6,x0,w5,w7,x1,bm0,f4,f5,f2,f6,f0,f7,f8,f9,g0,g1,d8,a8,c4,b6,d2,d3,d9,d6,a9,c5,b7,e0,e1,e2,e3,b0,c6,b8,b1,c7,b9,bm1,g2,g3,f3,g4,f1,g5,g6,g7,g8,g9,e4,b2,c8,c0,d4,d5,e5,d7,b3,c9,c1,e6,e7,e8,e9,b4,d0,c2,b5,d1,c3,w8,z2,z3,y9,z4,y6,z5,z6,z7,z8,z9,aa,x4,y2,x8,y7,y8,ab,z0,x5,y3,x9,ac,ad,ae,af,x6,y4,y0,x7,y5,y1,dt,td,te,sh,tf,rr,th,ti,tj,tk,tl,tm,pi,qx,qd,rs,rt,tn,si,pj,qy,qe,to,tp,tq,tr,pk,qz,qf,pl,ra,qg)) sv) ∧
 (
 ∀ an,a4.heap.size ≤ an →
 ∀ fa,Adv [] [an,w8] a4 fa →
 Calls pP 10 #[(.agg (Z0 u9 v0 v1 u4 v2 v3 v4 v5 v6 v7 h1 h9 h5 u5 u6 v8 u7 h2 u0 h6)),(.agg (Z3 v9 w0 w1 w2 h3 u1 h7 h4 u2 h8))] fa fun e sw => ∃ ts tt sj tu ru tv tw tx ty tz ua pm rb qh rv rx ub sk pn rc qi uc ud ue uf po rd qj pp re qk,e = .returned (.agg (Z1 ts tt sj tu ru tv tw tx ty tz ua pm rb qh rv rx ub sk pn rc qi uc ud ue uf po rd qj pp re qk)) ∧ yaG [bm0,bm1,w8,an] fa sw ∧
 ∀ sx,Adv [an,w8] [] sw sx →
 ybI yc6 ((ydI 394 [1,1,1,1,1,1]) (ydJ [1,1,1,1,1] [] R)) (yeU (w4,w6,x0,w5,w7,x1,bm0,f4,f5,f2,f6,f0,f7,f8,f9,g0,g1,d8,a8,c4,b6,d2,d3,d9,d6,a9,c5,b7,e0,e1,e2,e3,b0,c6,b8,b1,c7,b9,bm1,g2,g3,f3,g4,f1,g5,g6,g7,g8,g9,e4,b2,c8,c0,d4,d5,e5,d7,b3,c9,c1,e6,e7,e8,e9,b4,d0,c2,b5,d1,c3,w8,z2,z3,y9,z4,y6,z5,z6,z7,z8,z9,aa,x4,y2,x8,y7,y8,ab,z0,x5,y3,x9,ac,ad,ae,af,x6,y4,y0,x7,y5,y1,an,ts,tt,sj,tu,ru,tv,tw,tx,ty,tz,ua,pm,rb,qh,rv,rx,ub,sk,pn,rc,qi,uc,ud,ue,uf,po,rd,qj,pp,re,qk)) sx))) ∧
 (
 ∀ w9,a4.heap.size ≤ w9 →
 ((
 ∀ fc,Adv [] [w9] a4 fc →
 Calls pP 10 #[(.agg (Z0 u9 v0 v1 u4 v2 v3 v4 v5 v6 v7 h1 h9 h5 u5 u6 v8 u7 h2 u0 h6)),(.agg (Z3 v9 w0 w1 w2 h3 u1 h7 h4 u2 h8))] fc fun e fd => ∃ ug uh sl ui ry uj uk ul um un uo pq rf ql rz sa up sm pr rg qm uq ur us ut ps rh qn pu ri qo,e = .returned (.agg (Z1 ug uh sl ui ry uj uk ul um un uo pq rf ql rz sa up sm pr rg qm uq ur us ut ps rh qn pu ri qo)) ∧ yaG [bm0,bm1,w9] fc fd ∧
 ∀ du,fd.heap.size ≤ du →
 ∀ sy,Adv [w9] [du] fd sy →
 ybI yc6 ((ydI 394 [1,1,1,1,1,1]) (ydJ [1,1,1,1,1] [] R)) (yeU (w4,w6,x0,w5,w7,x1,bm0,f4,f5,f2,f6,f0,f7,f8,f9,g0,g1,d8,a8,c4,b6,d2,d3,d9,d6,a9,c5,b7,e0,e1,e2,e3,b0,c6,b8,b1,c7,b9,bm1,g2,g3,f3,g4,f1,g5,g6,g7,g8,g9,e4,b2,c8,c0,d4,d5,e5,d7,b3,c9,c1,e6,e7,e8,e9,b4,d0,c2,b5,d1,c3,du,z2,z3,y9,z4,y6,z5,z6,z7,z8,z9,aa,x4,y2,x8,y7,y8,ab,z0,x5,y3,x9,ac,ad,ae,af,x6,y4,y0,x7,y5,y1,w9,ug,uh,sl,ui,ry,uj,uk,ul,um,un,uo,pq,rf,ql,rz,sa,up,sm,pr,rg,qm,uq,ur,us,ut,ps,rh,qn,pu,ri,qo)) sy) ∧
 (
 ∀ ao,a4.heap.size ≤ ao →
 ∀ fe,Adv [] [ao,w9] a4 fe →
 Calls pP 10 #[(.agg (Z0 u9 v0 v1 u4 v2 v3 v4 v5 v6 v7 h1 h9 h5 u5 u6 v8 u7 h2 u0 h6)),(.agg (Z3 v9 w0 w1 w2 h3 u1 h7 h4 u2 h8))] fe fun e sz => ∃ uu uv sn uw sb ux uy uz va vb vc pv rj qp sc sd vd so pw rk qq ve vf vh vi px rl qr py rm qs,e = .returned (.agg (Z1 uu uv sn uw sb ux uy uz va vb vc pv rj qp sc sd vd so pw rk qq ve vf vh vi px rl qr py rm qs)) ∧ yaG [bm0,bm1,w9,ao] fe sz ∧
 ∀ ta,Adv [w9,ao] [] sz ta →
 ybI yc6 ((ydI 394 [1,1,1,1,1,1]) (ydJ [1,1,1,1,1] [] R)) (yeU (w4,w6,x0,w5,w7,x1,bm0,f4,f5,f2,f6,f0,f7,f8,f9,g0,g1,d8,a8,c4,b6,d2,d3,d9,d6,a9,c5,b7,e0,e1,e2,e3,b0,c6,b8,b1,c7,b9,bm1,g2,g3,f3,g4,f1,g5,g6,g7,g8,g9,e4,b2,c8,c0,d4,d5,e5,d7,b3,c9,c1,e6,e7,e8,e9,b4,d0,c2,b5,d1,c3,ao,z2,z3,y9,z4,y6,z5,z6,z7,z8,z9,aa,x4,y2,x8,y7,y8,ab,z0,x5,y3,x9,ac,ad,ae,af,x6,y4,y0,x7,y5,y1,w9,uu,uv,sn,uw,sb,ux,uy,uz,va,vb,vc,pv,rj,qp,sc,sd,vd,so,pw,rk,qq,ve,vf,vh,vi,px,rl,qr,py,rm,qs)) ta))))))) ∧
 (
 ((
 ∀ w3,a1.heap.size ≤ w3 →
 ((
 ∀ ff,Adv [] [w3] a1 ff →
 Calls pP 10 #[(.agg (Z0 be bf bg ba bh bi bj bk bl bm ai aw aq bb bc bn bd aj ax ar)),(.agg (Z3 bo bp bq br ak ay au am az av))] ff fun e a7 => ∃ fw fx ew fy ep fz ga gb gc gd ge dk ei ea eq er gf ex dl ej eb gg gh gi gj dm ek ec dn el ed,e = .returned (.agg (Z1 fw fx ew fy ep fz ga gb gc gd ge dk ei ea eq er gf ex dl ej eb gg gh gi gj dm ek ec dn el ed)) ∧ yaG [bm0,bm1,w3] ff a7 ∧ (yaA .i64 a7 a2 fun ad2 => yaA .i64 a7 (Addr.add a2 1) fun ad3 => yaA .i64 a7 (Addr.add a2 2) fun ad4 => yaA .i64 a7 (Addr.add a2 3) fun ad5 => yaC a7 (Addr.add a2 4) fun zq aa6 zy => yaC a7 (Addr.add a2 5) fun zr aa7 zz => ((.agg (Z3 ad2 ad3 ad4 ad5 zq aa6 zy zr aa7 zz)):Value) = (.agg (Z3 v9 w0 w1 w2 h3 u1 h7 h4 u2 h8))) ∧ (yaA .i64 a7 a0 fun ad6 => yaA .i64 a7 (Addr.add a0 1) fun ad7 => yaA .i64 a7 (Addr.add a0 2) fun ad8 => yaK a7 (Addr.add a0 3) fun ab3 => yaA .i64 a7 (Addr.add a0 4) fun ad9 => yaA .i64 a7 (Addr.add a0 5) fun ae0 => yaA .i64 a7 (Addr.add a0 6) fun ae1 => yaA .i64 a7 (Addr.add a0 7) fun ae2 => yaA .i64 a7 (Addr.add a0 8) fun ae3 => yaA .i64 a7 (Addr.add a0 9) fun ae4 => yaC a7 (Addr.add a0 10) fun zs aa8 aa0 => yaK a7 (Addr.add a0 11) fun ab4 => yaK a7 (Addr.add a0 12) fun ab5 => yaA .i64 a7 (Addr.add a0 13) fun ae5 => yaR a7 (Addr.add a0 14) fun ab7 => yaC a7 (Addr.add a0 15) fun zt aa9 aa1 => ((.agg (Z0 ad6 ad7 ad8 ab3 ad9 ae0 ae1 ae2 ae3 ae4 zs aa8 aa0 ab4 ab5 ae5 ab7 zt aa9 aa1)):Value) = (.agg (Z0 u9 v0 v1 u4 v2 v3 v4 v5 v6 v7 h1 h9 h5 u5 u6 v8 u7 h2 u0 h6))) ∧
 ((
 Calls pP 10 #[(.agg (Z0 u9 v0 v1 u4 v2 v3 v4 v5 v6 v7 h1 h9 h5 u5 u6 v8 u7 h2 u0 h6)),(.agg (Z3 v9 w0 w1 w2 h3 u1 h7 h4 u2 h8))] a7 fun e fg => ∃ vj vk sp vl se vm vn vo vp vq vr pz rn qt sf sg vs sq qa ro qu vt vu vv vw qb rp qv qc rq qw,e = .returned (.agg (Z1 vj vk sp vl se vm vn vo vp vq vr pz rn qt sf sg vs sq qa ro qu vt vu vv vw qb rp qv qc rq qw)) ∧ yaG [bm0,bm1,w3] a7 fg ∧
 ∀ dv,fg.heap.size ≤ dv →
 ∀ tb,Adv [w3] [dv] fg tb →
 ybI yc6 ((ydI 394 [1,1,1,1,1,1]) (ydJ [1,1,1,1,1] [] R)) (yeU (w4,w6,x0,w5,w7,x1,bm0,f4,f5,f2,f6,f0,f7,f8,f9,g0,g1,d8,a8,c4,b6,d2,d3,d9,d6,a9,c5,b7,e0,e1,e2,e3,b0,c6,b8,b1,c7,b9,bm1,g2,g3,f3,g4,f1,g5,g6,g7,g8,g9,e4,b2,c8,c0,d4,d5,e5,d7,b3,c9,c1,e6,e7,e8,e9,b4,d0,c2,b5,d1,c3,w3,fw,fx,ew,fy,ep,fz,ga,gb,gc,gd,ge,dk,ei,ea,eq,er,gf,ex,dl,ej,eb,gg,gh,gi,gj,dm,ek,ec,dn,el,ed,dv,vj,vk,sp,vl,se,vm,vn,vo,vp,vq,vr,pz,rn,qt,sf,sg,vs,sq,qa,ro,qu,vt,vu,vv,vw,qb,rp,qv,qc,rq,qw)) tb) ∧
 (
 ∀ ap,a7.heap.size ≤ ap →
 ∀ fh,Adv [] [ap] a7 fh →
 Calls pP 10 #[(.agg (Z0 u9 v0 v1 u4 v2 v3 v4 v5 v6 v7 h1 h9 h5 u5 u6 v8 u7 h2 u0 h6)),(.agg (Z3 v9 w0 w1 w2 h3 u1 h7 h4 u2 h8))] fh fun e tc => ∃ vx vy sr vz jv lo lp lq lr ls lt gk ir hn jw jx lu kr gl it ho lv lw lx ly gm iu hp gn iv hq,e = .returned (.agg (Z1 vx vy sr vz jv lo lp lq lr ls lt gk ir hn jw jx lu kr gl it ho lv lw lx ly gm iu hp gn iv hq)) ∧ yaG [bm0,bm1,w3,ap] fh tc ∧
 ∀ lg,Adv [ap,w3] [] tc lg →
 ybI yc6 ((ydI 394 [1,1,1,1,1,1]) (ydJ [1,1,1,1,1] [] R)) (yeU (w4,w6,x0,w5,w7,x1,bm0,f4,f5,f2,f6,f0,f7,f8,f9,g0,g1,d8,a8,c4,b6,d2,d3,d9,d6,a9,c5,b7,e0,e1,e2,e3,b0,c6,b8,b1,c7,b9,bm1,g2,g3,f3,g4,f1,g5,g6,g7,g8,g9,e4,b2,c8,c0,d4,d5,e5,d7,b3,c9,c1,e6,e7,e8,e9,b4,d0,c2,b5,d1,c3,w3,fw,fx,ew,fy,ep,fz,ga,gb,gc,gd,ge,dk,ei,ea,eq,er,gf,ex,dl,ej,eb,gg,gh,gi,gj,dm,ek,ec,dn,el,ed,ap,vx,vy,sr,vz,jv,lo,lp,lq,lr,ls,lt,gk,ir,hn,jw,jx,lu,kr,gl,it,ho,lv,lw,lx,ly,gm,iu,hp,gn,iv,hq)) lg))) ∧
 (
 ∀ x2,a1.heap.size ≤ x2 →
 ∀ cn,Adv [] [x2,w3] a1 cn →
 Calls pP 10 #[(.agg (Z0 be bf bg ba bh bi bj bk bl bm ai aw aq bb bc bn bd aj ax ar)),(.agg (Z3 bo bp bq br ak ay au am az av))] cn fun e a5 => ∃ lz ma ks mb jy mc md me mf mg mh go iw hr jz ka mi kt gp ix hs mj mk ml mm gq iy ht gr iz hu,e = .returned (.agg (Z1 lz ma ks mb jy mc md me mf mg mh go iw hr jz ka mi kt gp ix hs mj mk ml mm gq iy ht gr iz hu)) ∧ yaG [bm0,bm1,w3,x2] cn a5 ∧ (yaA .i64 a5 a2 fun xw => yaA .i64 a5 (Addr.add a2 1) fun xx => yaA .i64 a5 (Addr.add a2 2) fun xy => yaA .i64 a5 (Addr.add a2 3) fun xz => yaC a5 (Addr.add a2 4) fun wa wy wm => yaC a5 (Addr.add a2 5) fun wb wz wn => ((.agg (Z3 xw xx xy xz wa wy wm wb wz wn)):Value) = (.agg (Z3 v9 w0 w1 w2 h3 u1 h7 h4 u2 h8))) ∧ (yaA .i64 a5 a0 fun ya => yaA .i64 a5 (Addr.add a0 1) fun yb => yaA .i64 a5 (Addr.add a0 2) fun yc => yaK a5 (Addr.add a0 3) fun xk => yaA .i64 a5 (Addr.add a0 4) fun yd => yaA .i64 a5 (Addr.add a0 5) fun ye => yaA .i64 a5 (Addr.add a0 6) fun yf => yaA .i64 a5 (Addr.add a0 7) fun yg => yaA .i64 a5 (Addr.add a0 8) fun yh => yaA .i64 a5 (Addr.add a0 9) fun yi => yaC a5 (Addr.add a0 10) fun wc xa wo => yaK a5 (Addr.add a0 11) fun xl => yaK a5 (Addr.add a0 12) fun xm => yaA .i64 a5 (Addr.add a0 13) fun yj => yaR a5 (Addr.add a0 14) fun xt => yaC a5 (Addr.add a0 15) fun wd xb wp => ((.agg (Z0 ya yb yc xk yd ye yf yg yh yi wc xa wo xl xm yj xt wd xb wp)):Value) = (.agg (Z0 u9 v0 v1 u4 v2 v3 v4 v5 v6 v7 h1 h9 h5 u5 u6 v8 u7 h2 u0 h6))) ∧
 Calls pP 10 #[(.agg (Z0 u9 v0 v1 u4 v2 v3 v4 v5 v6 v7 h1 h9 h5 u5 u6 v8 u7 h2 u0 h6)),(.agg (Z3 v9 w0 w1 w2 h3 u1 h7 h4 u2 h8))] a5 fun e lh => ∃ mn mo ku mp kc mq mr ms mt mu mv gs ja hv kd ke mw kv gt jb hw mx my mz na gu jc hx gv jd hy,e = .returned (.agg (Z1 mn mo ku mp kc mq mr ms mt mu mv gs ja hv kd ke mw kv gt jb hw mx my mz na gu jc hx gv jd hy)) ∧ yaG [bm0,bm1,w3,x2] a5 lh ∧
 ∀ li,Adv [x2,w3] [] lh li →
 ybI yc6 ((ydI 394 [1,1,1,1,1,1]) (ydJ [1,1,1,1,1] [] R)) (yeU (w4,w6,x0,w5,w7,x1,bm0,f4,f5,f2,f6,f0,f7,f8,f9,g0,g1,d8,a8,c4,b6,d2,d3,d9,d6,a9,c5,b7,e0,e1,e2,e3,b0,c6,b8,b1,c7,b9,bm1,g2,g3,f3,g4,f1,g5,g6,g7,g8,g9,e4,b2,c8,c0,d4,d5,e5,d7,b3,c9,c1,e6,e7,e8,e9,b4,d0,c2,b5,d1,c3,w3,lz,ma,ks,mb,jy,mc,md,me,mf,mg,mh,go,iw,hr,jz,ka,mi,kt,gp,ix,hs,mj,mk,ml,mm,gq,iy,ht,gr,iz,hu,x2,mn,mo,ku,mp,kc,mq,mr,ms,mt,mu,mv,gs,ja,hv,kd,ke,mw,kv,gt,jb,hw,mx,my,mz,na,gu,jc,hx,gv,jd,hy)) li))) ∧
 (
 ∀ h0,a1.heap.size ≤ h0 →
 ((
 ∀ co,Adv [] [h0] a1 co →
 Calls pP 10 #[(.agg (Z0 be bf bg ba bh bi bj bk bl bm ai aw aq bb bc bn bd aj ax ar)),(.agg (Z3 bo bp bq br ak ay au am az av))] co fun e a3 => ∃ cs ct cl cu ci cv cw cx cy cz da bt cd bz cj ck db cm bu ce ca dc dd de df bv cf cb bw ch cc,e = .returned (.agg (Z1 cs ct cl cu ci cv cw cx cy cz da bt cd bz cj ck db cm bu ce ca dc dd de df bv cf cb bw ch cc)) ∧ yaG [bm0,bm1,h0] co a3 ∧ (yaA .i64 a3 a2 fun yk => yaA .i64 a3 (Addr.add a2 1) fun yl => yaA .i64 a3 (Addr.add a2 2) fun ym => yaA .i64 a3 (Addr.add a2 3) fun yn => yaC a3 (Addr.add a2 4) fun we xc wq => yaC a3 (Addr.add a2 5) fun wf xd wr => ((.agg (Z3 yk yl ym yn we xc wq wf xd wr)):Value) = (.agg (Z3 v9 w0 w1 w2 h3 u1 h7 h4 u2 h8))) ∧ (yaA .i64 a3 a0 fun yo => yaA .i64 a3 (Addr.add a0 1) fun yp => yaA .i64 a3 (Addr.add a0 2) fun yq => yaK a3 (Addr.add a0 3) fun xn => yaA .i64 a3 (Addr.add a0 4) fun yr => yaA .i64 a3 (Addr.add a0 5) fun ys => yaA .i64 a3 (Addr.add a0 6) fun yt => yaA .i64 a3 (Addr.add a0 7) fun yu => yaA .i64 a3 (Addr.add a0 8) fun yv => yaA .i64 a3 (Addr.add a0 9) fun yw => yaC a3 (Addr.add a0 10) fun wg xe ws => yaK a3 (Addr.add a0 11) fun xo => yaK a3 (Addr.add a0 12) fun xp => yaA .i64 a3 (Addr.add a0 13) fun yx => yaR a3 (Addr.add a0 14) fun xu => yaC a3 (Addr.add a0 15) fun wh xf wt => ((.agg (Z0 yo yp yq xn yr ys yt yu yv yw wg xe ws xo xp yx xu wh xf wt)):Value) = (.agg (Z0 u9 v0 v1 u4 v2 v3 v4 v5 v6 v7 h1 h9 h5 u5 u6 v8 u7 h2 u0 h6))) ∧
 ((
 Calls pP 10 #[(.agg (Z0 u9 v0 v1 u4 v2 v3 v4 v5 v6 v7 h1 h9 h5 u5 u6 v8 u7 h2 u0 h6)),(.agg (Z3 v9 w0 w1 w2 h3 u1 h7 h4 u2 h8))] a3 fun e cp => ∃ nb nc kw nd kf ne nf ng nh ni nj gw je hz kg kh nk kx gx jf ia nl nm no np gy jg ib gz jh ic,e = .returned (.agg (Z1 nb nc kw nd kf ne nf ng nh ni nj gw je hz kg kh nk kx gx jf ia nl nm no np gy jg ib gz jh ic)) ∧ yaG [bm0,bm1,h0] a3 cp ∧
 ∀ bx,cp.heap.size ≤ bx →
 ∀ lj,Adv [h0] [bx] cp lj →
 ybI yc6 ((ydI 394 [1,1,1,1,1,1]) (ydJ [1,1,1,1,1] [] R)) (yeU (w4,w6,x0,w5,w7,x1,bm0,f4,f5,f2,f6,f0,f7,f8,f9,g0,g1,d8,a8,c4,b6,d2,d3,d9,d6,a9,c5,b7,e0,e1,e2,e3,b0,c6,b8,b1,c7,b9,bm1,g2,g3,f3,g4,f1,g5,g6,g7,g8,g9,e4,b2,c8,c0,d4,d5,e5,d7,b3,c9,c1,e6,e7,e8,e9,b4,d0,c2,b5,d1,c3,bx,cs,ct,cl,cu,ci,cv,cw,cx,cy,cz,da,bt,cd,bz,cj,ck,db,cm,bu,ce,ca,dc,dd,de,df,bv,cf,cb,bw,ch,cc,h0,nb,nc,kw,nd,kf,ne,nf,ng,nh,ni,nj,gw,je,hz,kg,kh,nk,kx,gx,jf,ia,nl,nm,no,np,gy,jg,ib,gz,jh,ic)) lj) ∧
 (
 ∀ ag,a3.heap.size ≤ ag →
 ∀ cq,Adv [] [ag] a3 cq →
 Calls pP 10 #[(.agg (Z0 u9 v0 v1 u4 v2 v3 v4 v5 v6 v7 h1 h9 h5 u5 u6 v8 u7 h2 u0 h6)),(.agg (Z3 v9 w0 w1 w2 h3 u1 h7 h4 u2 h8))] cq fun e lk => ∃ nq nr ky ns ki nt nu nv nw nx ny hb ji id kj kk oa kz hc jj ie ob oc od oe hd jl ig he jm ih,e = .returned (.agg (Z1 nq nr ky ns ki nt nu nv nw nx ny hb ji id kj kk oa kz hc jj ie ob oc od oe hd jl ig he jm ih)) ∧ yaG [bm0,bm1,h0,ag] cq lk ∧
 ∀ ll,Adv [h0,ag] [] lk ll →
 ybI yc6 ((ydI 394 [1,1,1,1,1,1]) (ydJ [1,1,1,1,1] [] R)) (yeU (w4,w6,x0,w5,w7,x1,bm0,f4,f5,f2,f6,f0,f7,f8,f9,g0,g1,d8,a8,c4,b6,d2,d3,d9,d6,a9,c5,b7,e0,e1,e2,e3,b0,c6,b8,b1,c7,b9,bm1,g2,g3,f3,g4,f1,g5,g6,g7,g8,g9,e4,b2,c8,c0,d4,d5,e5,d7,b3,c9,c1,e6,e7,e8,e9,b4,d0,c2,b5,d1,c3,ag,cs,ct,cl,cu,ci,cv,cw,cx,cy,cz,da,bt,cd,bz,cj,ck,db,cm,bu,ce,ca,dc,dd,de,df,bv,cf,cb,bw,ch,cc,h0,nq,nr,ky,ns,ki,nt,nu,nv,nw,nx,ny,hb,ji,id,kj,kk,oa,kz,hc,jj,ie,ob,oc,od,oe,hd,jl,ig,he,jm,ih)) ll))) ∧
 (
 ∀ x3,a1.heap.size ≤ x3 →
 ∀ cr,Adv [] [x3,h0] a1 cr →
 Calls pP 10 #[(.agg (Z0 be bf bg ba bh bi bj bk bl bm ai aw aq bb bc bn bd aj ax ar)),(.agg (Z3 bo bp bq br ak ay au am az av))] cr fun e a6 => ∃ of og la oh kl oi oj ok ol om on hf jn ii km kn oo lc hg jo ij op oq os ot hh jp ik hi jq il,e = .returned (.agg (Z1 of og la oh kl oi oj ok ol om on hf jn ii km kn oo lc hg jo ij op oq os ot hh jp ik hi jq il)) ∧ yaG [bm0,bm1,h0,x3] cr a6 ∧ (yaA .i64 a6 a2 fun yy => yaA .i64 a6 (Addr.add a2 1) fun yz => yaA .i64 a6 (Addr.add a2 2) fun za => yaA .i64 a6 (Addr.add a2 3) fun zb => yaC a6 (Addr.add a2 4) fun wi xg wu => yaC a6 (Addr.add a2 5) fun wj xh wv => ((.agg (Z3 yy yz za zb wi xg wu wj xh wv)):Value) = (.agg (Z3 v9 w0 w1 w2 h3 u1 h7 h4 u2 h8))) ∧ (yaA .i64 a6 a0 fun zc => yaA .i64 a6 (Addr.add a0 1) fun zd => yaA .i64 a6 (Addr.add a0 2) fun ze => yaK a6 (Addr.add a0 3) fun xq => yaA .i64 a6 (Addr.add a0 4) fun zf => yaA .i64 a6 (Addr.add a0 5) fun zg => yaA .i64 a6 (Addr.add a0 6) fun zh => yaA .i64 a6 (Addr.add a0 7) fun zi => yaA .i64 a6 (Addr.add a0 8) fun zj => yaA .i64 a6 (Addr.add a0 9) fun zk => yaC a6 (Addr.add a0 10) fun wk xi ww => yaK a6 (Addr.add a0 11) fun xr => yaK a6 (Addr.add a0 12) fun xs => yaA .i64 a6 (Addr.add a0 13) fun zl => yaR a6 (Addr.add a0 14) fun xv => yaC a6 (Addr.add a0 15) fun wl xj wx => ((.agg (Z0 zc zd ze xq zf zg zh zi zj zk wk xi ww xr xs zl xv wl xj wx)):Value) = (.agg (Z0 u9 v0 v1 u4 v2 v3 v4 v5 v6 v7 h1 h9 h5 u5 u6 v8 u7 h2 u0 h6))) ∧
 Calls pP 10 #[(.agg (Z0 u9 v0 v1 u4 v2 v3 v4 v5 v6 v7 h1 h9 h5 u5 u6 v8 u7 h2 u0 h6)),(.agg (Z3 v9 w0 w1 w2 h3 u1 h7 h4 u2 h8))] a6 fun e lm => ∃ ou ov le ow ko ox oy oz pa pb pc hj jr im kp kq pd lf hk js io pe pf pg ph hl jt ip hm ju iq,e = .returned (.agg (Z1 ou ov le ow ko ox oy oz pa pb pc hj jr im kp kq pd lf hk js io pe pf pg ph hl jt ip hm ju iq)) ∧ yaG [bm0,bm1,h0,x3] a6 lm ∧
 ∀ ln,Adv [h0,x3] [] lm ln →
 ybI yc6 ((ydI 394 [1,1,1,1,1,1]) (ydJ [1,1,1,1,1] [] R)) (yeU (w4,w6,x0,w5,w7,x1,bm0,f4,f5,f2,f6,f0,f7,f8,f9,g0,g1,d8,a8,c4,b6,d2,d3,d9,d6,a9,c5,b7,e0,e1,e2,e3,b0,c6,b8,b1,c7,b9,bm1,g2,g3,f3,g4,f1,g5,g6,g7,g8,g9,e4,b2,c8,c0,d4,d5,e5,d7,b3,c9,c1,e6,e7,e8,e9,b4,d0,c2,b5,d1,c3,x3,of,og,la,oh,kl,oi,oj,ok,ol,om,on,hf,jn,ii,km,kn,oo,lc,hg,jo,ij,op,oq,os,ot,hh,jp,ik,hi,jq,il,h0,ou,ov,le,ow,ko,ox,oy,oz,pa,pb,pc,hj,jr,im,kp,kq,pd,lf,hk,js,io,pe,pf,pg,ph,hl,jt,ip,hm,ju,iq)) ln))))))
theorem yEA (J:Option Addr → Nat → Nat → Option Addr → Nat → Nat → Nat → Int → Int → Bool → Int → ByteArray → Int → Int → Int → Int → Int → Int → Option Addr → Nat → Nat → ByteArray → ByteArray → Int → Bool → Option Addr → Nat → Nat → Int → Int → Int → Int → Option Addr → Nat → Nat → Option Addr → Nat → Nat → Nat → Int → Int → Bool → Int → ByteArray → Int → Int → Int → Int → Int → Int → Option Addr → Nat → Nat → ByteArray → ByteArray → Int → Bool → Option Addr → Nat → Nat → Int → Int → Int → Int → Option Addr → Nat → Nat → Option Addr → Nat → Nat → World → Prop) (h0:J q0 n0 n1 q1 n2 n3 n4 i0 i1 B0 i2 s0 i3 i4 i5 i6 i7 i8 q2 n5 n6 s1 s2 i9 B1 q3 n7 n8 j0 j1 j2 j3 q4 n9 o0 q5 o1 o2 o3 j4 j5 B2 j6 s3 j7 j8 j9 k0 k1 k2 q6 o4 o5 s4 s5 k3 B3 q7 o6 o7 k4 k5 k6 k7 q8 o8 o9 q9 p0 p1 w0)
 (hr:∀ y5 y9 y7 y6 z0 y8 bm0 e6 e7 e4 e8 e2 e9 f0 f1 f2 f3 i1 a2 b8 b0 c6 c7 d2 d0 a3 b9 b1 d3 d4 d5 d6 a4 c0 b2 a5 c1 b3 bm1 f4 f5 e5 f6 e3 f7 f8 f9 g0 g1 j5 a6 c2 b4 c8 c9 d7 d1 a7 c3 b5 d8 d9 e0 e1 a8 c4 b6 a9 c5 b7 w,J y5 y9 y7 y6 z0 y8 bm0 e6 e7 e4 e8 e2 e9 f0 f1 f2 f3 i1 a2 b8 b0 c6 c7 d2 d0 a3 b9 b1 d3 d4 d5 d6 a4 c0 b2 a5 c1 b3 bm1 f4 f5 e5 f6 e3 f7 f8 f9 g0 g1 j5 a6 c2 b4 c8 c9 d7 d1 a7 c3 b5 d8 d9 e0 e1 a8 c4 b6 a9 c5 b7 w → yxG y5 y9 y7 y6 z0 y8 bm0 e6 e7 e4 e8 e2 e9 f0 f1 f2 f3 i1 a2 b8 b0 c6 c7 d2 d0 a3 b9 b1 d3 d4 d5 d6 a4 c0 b2 a5 c1 b3 bm1 f4 f5 e5 f6 e3 f7 f8 f9 g0 g1 j5 a6 c2 b4 c8 c9 d7 d1 a7 c3 b5 d8 d9 e0 e1 a8 c4 b6 a9 c5 b7 R w) :
 ybI yc5 ((ydI 395 [1,1,1,1,1]) (ydJ [1,1,1,1] [] R)) (yeT (q0,n0,n1,q1,n2,n3,n4,i0,i1,B0,i2,s0,i3,i4,i5,i6,i7,i8,q2,n5,n6,s1,s2,i9,B1,q3,n7,n8,j0,j1,j2,j3,q4,n9,o0,q5,o1,o2,o3,j4,j5,B2,j6,s3,j7,j8,j9,k0,k1,k2,q6,o4,o5,s4,s5,k3,B3,q7,o6,o7,k4,k5,k6,k7,q8,o8,o9,q9,p0,p1)) w0 :=
 crule (yeT) (ymO J) h0 (by rintro ⟨y5,y9,y7,y6,z0,y8,bm0,e6,e7,e4,e8,e2,e9,f0,f1,f2,f3,i1,a2,b8,b0,c6,c7,d2,d0,a3,b9,b1,d3,d4,d5,d6,a4,c0,b2,a5,c1,b3,bm1,f4,f5,e5,f6,e3,f7,f8,f9,g0,g1,j5,a6,c2,b4,c8,c9,d7,d1,a7,c3,b5,d8,d9,e0,e1,a8,c4,b6,a9,c5,b7⟩ w h; exact ⟨by kernel_rfl,by kernel_rfl,fun js => Eq.mpr (by kernel_rfl) (hr y5 y9 y7 y6 z0 y8 bm0 e6 e7 e4 e8 e2 e9 f0 f1 f2 f3 i1 a2 b8 b0 c6 c7 d2 d0 a3 b9 b1 d3 d4 d5 d6 a4 c0 b2 a5 c1 b3 bm1 f4 f5 e5 f6 e3 f7 f8 f9 g0 g1 j5 a6 c2 b4 c8 c9 d7 d1 a7 c3 b5 d8 d9 e0 e1 a8 c4 b6 a9 c5 b7 w h)⟩)
theorem yeA {w0 w1 w2 w3 w4 d6:Int} (h:yxG q0 n0 n1 q1 n2 n3 n4 i0 i1 B0 i2 s0 i3 i4 i5 i6 i7 i8 q2 n5 n6 s1 s2 i9 B1 q3 n7 n8 j0 j1 j2 j3 q4 n9 o0 q5 o1 o2 o3 j4 j5 B2 j6 s3 w0 w1 w2 w3 w4 d6 q6 o4 o5 s4 s5 j7 B3 q7 o6 o7 j8 j9 k0 k1 q8 o8 o9 q9 p0 p1 R w) :
 ybI yc5 ((ydI 395 [1,1,1,1,1]) (ydJ [1,1,1,1] [] R)) (yeT (q0,n0,n1,q1,n2,n3,n4,i0,i1,B0,i2,s0,i3,i4,i5,i6,i7,i8,q2,n5,n6,s1,s2,i9,B1,q3,n7,n8,j0,j1,j2,j3,q4,n9,o0,q5,o1,o2,o3,j4,j5,B2,j6,s3,w0,w1,w2,w3,w4,d6,q6,o4,o5,s4,s5,j7,B3,q7,o6,o7,j8,j9,k0,k1,q8,o8,o9,q9,p0,p1)) w :=
 yEA (fun y6 z4 z0 y8 z6 z2 bm0' w9 x0 w7 x1 w5 x2 x3 x4 x5 x6 h8 e2 f8 f0 g6 g7 h9 h2 e3 f9 f1 u0 u1 u2 u3 e4 g0 f2 e5 g1 f3 bm1' x7 x8 w8 x9 w6 y0 y1 y2 y3 y4 v3 e6 g2 f4 g9 h0 v4 h4 e7 g3 f5 v5 v6 v7 v8 e8 g4 f6 e9 g5 f7 w' => y6 = q0 ∧ z4 = n0 ∧ z0 = n1 ∧ y8 = q1 ∧ z6 = n2 ∧ z2 = n3 ∧ bm0' = n4 ∧ w9 = i0 ∧ x0 = i1 ∧ w7 = B0 ∧ x1 = i2 ∧ w5 = s0 ∧ x2 = i3 ∧ x3 = i4 ∧ x4 = i5 ∧ x5 = i6 ∧ x6 = i7 ∧ h8 = i8 ∧ e2 = q2 ∧ f8 = n5 ∧ f0 = n6 ∧ g6 = s1 ∧ g7 = s2 ∧ h9 = i9 ∧ h2 = B1 ∧ e3 = q3 ∧ f9 = n7 ∧ f1 = n8 ∧ u0 = j0 ∧ u1 = j1 ∧ u2 = j2 ∧ u3 = j3 ∧ e4 = q4 ∧ g0 = n9 ∧ f2 = o0 ∧ e5 = q5 ∧ g1 = o1 ∧ f3 = o2 ∧ bm1' = o3 ∧ x7 = j4 ∧ x8 = j5 ∧ w8 = B2 ∧ x9 = j6 ∧ w6 = s3 ∧ y0 = w0 ∧ y1 = w1 ∧ y2 = w2 ∧ y3 = w3 ∧ y4 = w4 ∧ v3 = d6 ∧ e6 = q6 ∧ g2 = o4 ∧ f4 = o5 ∧ g9 = s4 ∧ h0 = s5 ∧ v4 = j7 ∧ h4 = B3 ∧ e7 = q7 ∧ g3 = o6 ∧ f5 = o7 ∧ v5 = j8 ∧ v6 = j9 ∧ v7 = k0 ∧ v8 = k1 ∧ e8 = q8 ∧ g4 = o8 ∧ f6 = o9 ∧ e9 = q9 ∧ g5 = p0 ∧ f7 = p1 ∧ w' = w) ⟨rfl,rfl,rfl,rfl,rfl,rfl,rfl,rfl,rfl,rfl,rfl,rfl,rfl,rfl,rfl,rfl,rfl,rfl,rfl,rfl,rfl,rfl,rfl,rfl,rfl,rfl,rfl,rfl,rfl,rfl,rfl,rfl,rfl,rfl,rfl,rfl,rfl,rfl,rfl,rfl,rfl,rfl,rfl,rfl,rfl,rfl,rfl,rfl,rfl,rfl,rfl,rfl,rfl,rfl,rfl,rfl,rfl,rfl,rfl,rfl,rfl,rfl,rfl,rfl,rfl,rfl,rfl,rfl,rfl,rfl,rfl⟩ (by rintro y6 z4 z0 y8 z6 z2 bm0' w9 x0 w7 x1 w5 x2 x3 x4 x5 x6 h8 e2 f8 f0 g6 g7 h9 h2 e3 f9 f1 u0 u1 u2 u3 e4 g0 f2 e5 g1 f3 bm1' x7 x8 w8 x9 w6 y0 y1 y2 y3 y4 v3 e6 g2 f4 g9 h0 v4 h4 e7 g3 f5 v5 v6 v7 v8 e8 g4 f6 e9 g5 f7 w' ⟨rfl,rfl,rfl,rfl,rfl,rfl,rfl,rfl,rfl,rfl,rfl,rfl,rfl,rfl,rfl,rfl,rfl,rfl,rfl,rfl,rfl,rfl,rfl,rfl,rfl,rfl,rfl,rfl,rfl,rfl,rfl,rfl,rfl,rfl,rfl,rfl,rfl,rfl,rfl,rfl,rfl,rfl,rfl,rfl,rfl,rfl,rfl,rfl,rfl,rfl,rfl,rfl,rfl,rfl,rfl,rfl,rfl,rfl,rfl,rfl,rfl,rfl,rfl,rfl,rfl,rfl,rfl,rfl,rfl,rfl,rfl⟩; exact h)
def yxH (d7:OA) (d8 w3:Nat) (er:OA) (et ob bm0:Nat) (e1 e2:Int) (e0:Bool) (e3:Int) (d9:BA) (e4 e5 e6 e7 e8 c4:Int) (a9:OA) (b7 b3:Nat) (c1 c2:BA) (c5:Int) (c3:Bool) (b0:OA) (b8 b4:Nat) (c6 c7 c8 c9:Int) (b1:OA) (b9 b5:Nat) (b2:OA) (c0 b6 bm1:Nat) (w6 w7:Int) (w5:Bool) (w8:Int) (w4:BA) (w9 x0 x1 x2 x3 u7:Int) (h0:OA) (h8 h4:Nat) (u2 u3:BA) (u9:Int) (u5:Bool) (h1:OA) (h9 h5:Nat) (v0 v1 v2 v3:Int) (h2:OA) (u0 h6:Nat) (h3:OA) (u1 h7 bm2:Nat) (v4 v5:Int) (u6:Bool) (v6:Int) (u4:BA) (v7 v8 v9 w0 w1 g4:Int) (e9:OA) (f7 f3:Nat) (g1 g2:BA) (g5:Int) (g3:Bool) (f0:OA) (f8 f4:Nat) (g6 g7 g8 g9:Int) (f1:OA) (f9 f5:Nat) (f2:OA) (g0 f6 bm3:Nat) (bc bd:Int) (ax:Bool) (be:Int) (aw:BA) (bf bg bh bi bj ao:Int) (x6:OA) (y8 y2:Nat) (z6 z7:BA) (ap:Int) (z9:Bool) (x7:OA) (y9 y3:Nat) (aq ar au av:Int) (x8:OA) (z0 y4:Nat) (x9:OA) (z1 y5:Nat) (R:VWP) (w:World):Prop :=
 Calls pP 8 #[.int .i64 0,.slice d7 d8 w3] w fun e db => ∃ eu he gg dt,e = .returned (.tuple #[.slice eu he gg,.int .i64 dt]) ∧ yaG [bm0,bm1,bm2,bm3] w db ∧
 ixA er et 1 6 fun ib =>
 ∀ aa,Adv [] [] db aa →
 yaA .i64 aa (Addr.add ib 1) fun jv =>
 brB (jv == 2) (
 al aa (.cells (Z4 e1 e2 e0 e3 d9 e4 e5 e6 e7 e8 c4 a9 b7 b3 c1 c2 c5 c3 b0 b8 b4 c6 c7 c8 c9 b1 b9 b5 b2 c0 b6 v4 v5 u6 v6 u4 v7 v8 v9 w0 w1 g4 e9 f7 f3 g1 g2 g5 g3 f0 f8 f4 g6 g7 g8 g9 f1 f9 f5 f2 g0 f6 w6 w7 w5 w8 w4 w9 x0 x1 x2 x3 u7 h0 h8 h4 u2 u3 u9 u5 h1 h9 h5 v0 v1 v2 v3 h2 u0 h6 h3 u1 h7 bc bd ax be aw bf bg bh bi bj ao x6 y8 y2 z6 z7 ap z9 x7 y9 y3 aq ar au av x8 z0 y4 x9 z1 y5) 46) fun ft dc =>
 Calls pP 11 (Z17 4 d7 d8 w3 (some ⟨ft,0,none⟩) 4 4) dc fun e ay => ∃ du,e = .returned (.int .i64 du) ∧ yaG [bm0,bm1,bm2,bm3] dc ay ∧
 brB (du == (-1)) (
 al ay (.cells (Z1 v4 v5 u6 v6 u4 v7 v8 v9 w0 w1 g4 e9 f7 f3 g1 g2 g5 g3 f0 f8 f4 g6 g7 g8 g9 f1 f9 f5 f2 g0 f6) 46) fun fu dd =>
 Calls pP 11 (Z17 4 d7 d8 w3 (some ⟨fu,0,none⟩) 1 1) dd fun e az => ∃ dv,e = .returned (.int .i64 dv) ∧ yaG [bm0,bm1,bm2,bm3] dd az ∧
 brB (dv == 0) (
 al az (.cells (Z4 w6 w7 w5 w8 w4 w9 x0 x1 x2 x3 u7 h0 h8 h4 u2 u3 u9 u5 h1 h9 h5 v0 v1 v2 v3 h2 u0 h6 h3 u1 h7 bc bd ax be aw bf bg bh bi bj ao x6 y8 y2 z6 z7 ap z9 x7 y9 y3 aq ar au av x8 z0 y4 x9 z1 y5 e1 e2 e0 e3 d9 e4 e5 e6 e7 e8 c4 a9 b7 b3 c1 c2 c5 c3 b0 b8 b4 c6 c7 c8 c9 b1 b9 b5 b2 c0 b6 v4 v5 u6 v6 u4 v7 v8 v9 w0 w1 g4 e9 f7 f3 g1 g2 g5 g3 f0 f8 f4 g6 g7 g8 g9 f1 f9 f5 f2 g0 f6) 46) fun fv de =>
 Calls pP 11 (Z17 4 d7 d8 w3 (some ⟨fv,0,none⟩) 4 4) de fun e ba => ∃ dw,e = .returned (.int .i64 dw) ∧ yaG [bm0,bm1,bm2,bm3] de ba ∧
 brB (dw == 3) (
 al ba (.cells (Z4 e1 e2 e0 e3 d9 e4 e5 e6 e7 e8 c4 a9 b7 b3 c1 c2 c5 c3 b0 b8 b4 c6 c7 c8 c9 b1 b9 b5 b2 c0 b6 w6 w7 w5 w8 w4 w9 x0 x1 x2 x3 u7 h0 h8 h4 u2 u3 u9 u5 h1 h9 h5 v0 v1 v2 v3 h2 u0 h6 h3 u1 h7 bc bd ax be aw bf bg bh bi bj ao x6 y8 y2 z6 z7 ap z9 x7 y9 y3 aq ar au av x8 z0 y4 x9 z1 y5 v4 v5 u6 v6 u4 v7 v8 v9 w0 w1 g4 e9 f7 f3 g1 g2 g5 g3 f0 f8 f4 g6 g7 g8 g9 f1 f9 f5 f2 g0 f6) 46) fun fw df =>
 Calls pP 11 (Z17 4 d7 d8 w3 (some ⟨fw,0,none⟩) 4 4) df fun e a4 => ∃ dx,e = .returned (.int .i64 dx) ∧ yaG [bm0,bm1,bm2,bm3] df a4 ∧
 brB (dx == (-1)) (
 ixA d7 d8 0 16 fun d0 =>
 yaA .i64 a4 d0 fun jw => yaA .i64 a4 (Addr.add d0 1) fun jx => yaA .i64 a4 (Addr.add d0 2) fun jy => yaK a4 (Addr.add d0 3) fun ic => yaA .i64 a4 (Addr.add d0 4) fun jz => yaA .i64 a4 (Addr.add d0 5) fun ka => yaA .i64 a4 (Addr.add d0 6) fun kc => yaA .i64 a4 (Addr.add d0 7) fun kd => yaA .i64 a4 (Addr.add d0 8) fun ke => yaA .i64 a4 (Addr.add d0 9) fun kf => yaC a4 (Addr.add d0 10) fun ew hf gh => yaK a4 (Addr.add d0 11) fun id => yaK a4 (Addr.add d0 12) fun ie => yaA .i64 a4 (Addr.add d0 13) fun kg => yaR a4 (Addr.add d0 14) fun jj => yaC a4 (Addr.add d0 15) fun ex hg gi =>
 ixA er et 1 6 fun z2 =>
 yaA .i64 a4 z2 fun kh => yaA .i64 a4 (Addr.add z2 1) fun ki => yaA .i64 a4 (Addr.add z2 2) fun kj => yaA .i64 a4 (Addr.add z2 3) fun kk => yaC a4 (Addr.add z2 4) fun ey hh gj => yaC a4 (Addr.add z2 5) fun ez hi gk =>
 Calls pP 10 #[(.agg (Z0 jw jx jy ic jz ka kc kd ke kf ew hf gh id ie kg jj ex hg gi)),(.agg (Z3 kh ki kj kk ey hh gj ez hi gk))] a4 fun e dg => ∃ dy dz cq ea cn eb ec ed ee ef eg bo cf bx co cp eh cr bp ch bz ei ej ek el bq ci ca br cj cb,e = .returned (.agg (Z1 dy dz cq ea cn eb ec ed ee ef eg bo cf bx co cp eh cr bp ch bz ei ej ek el bq ci ca br cj cb)) ∧ yaG [bm0,bm1,bm2,bm3] a4 dg ∧ (((.agg (Z1 e1 e2 e0 e3 d9 e4 e5 e6 e7 e8 c4 a9 b7 b3 c1 c2 c5 c3 b0 b8 b4 c6 c7 c8 c9 b1 b9 b5 b2 c0 b6)):Value) = (.agg (Z1 e1 e2 e0 e3 d9 e4 e5 e6 e7 e8 c4 a9 b7 b3 c1 c2 c5 c3 b0 b8 b4 c6 c7 c8 c9 b1 b9 b5 b2 c0 b6))) ∧
 al dg (.cells #[.int .i64 e1,.int .i64 e2,.bool e0,.int .i64 e3,.string d9,.int .i64 e4,.int .i64 e5,.int .i64 e6,.int .i64 e7,.int .i64 e8,.int .i64 c4,.slice a9 b7 b3,.string c1,.string c2,.int .i64 c5,.bool c3,.slice b0 b8 b4,.int .i64 c6,.int .i64 c7,.int .i64 c8,.int .i64 c9,.slice b1 b9 b5,.slice b2 c0 b6,.int .i64 dy,.int .i64 dz,.bool cq,.int .i64 ea,.string cn,.int .i64 eb,.int .i64 ec,.int .i64 ed,.int .i64 ee,.int .i64 ef,.int .i64 eg,.slice bo cf bx,.string co,.string cp,.int .i64 eh,.bool cr,.slice bp ch bz,.int .i64 ei,.int .i64 ej,.int .i64 ek,.int .i64 el,.slice bq ci ca,.slice br cj cb] 46) fun fx dh =>
 Calls pP 11 (Z17 4 d7 d8 w3 (some ⟨fx,0,none⟩) 2 2) dh fun e bb => ∃ em,e = .returned (.int .i64 em) ∧ yaG [bm0,bm1,bm2,bm3] dh bb ∧
 brB (em == 1) (
 al bb (.cells (Z1 e1 e2 e0 e3 d9 e4 e5 e6 e7 e8 c4 a9 b7 b3 c1 c2 c5 c3 b0 b8 b4 c6 c7 c8 c9 b1 b9 b5 b2 c0 b6) 46) fun fy di =>
 Calls pP 11 (Z17 0 d7 d8 w3 (some ⟨fy,0,none⟩) 1 1) di fun e ab => ∃ en,e = .returned (.int .i64 en) ∧ yaG [bm0,bm1,bm2,bm3] di ab ∧
 brB (en == 0) (
 Calls pP 11 (Z17 4 none 0 0 none 0 0) ab fun e w2 => ∃ eo,e = .returned (.int .i64 eo) ∧ yaG [bm0,bm1,bm2,bm3] ab w2 ∧
 brB (eo == (-1)) (
 brB (dt == 1) (
 Calls pP 17 #[.slice d7 d8 w3,.int .i64 2,.int .i64 1] w2 fun e ac => ∃ ep,e = .returned (.int .i64 ep) ∧ yaG [bm0,bm1,bm2,bm3] w2 ac ∧
 brB (ep == 1) (
 Calls pP 17 #[.slice d7 d8 w3,.int .i64 2,.int .i64 2] ac fun e a5 => ∃ eq,e = .returned (.int .i64 eq) ∧ yaG [bm0,bm1,bm2,bm3] ac a5 ∧
 brB (eq == (-1)) (
 ixA d7 d8 1 16 fun a0 =>
 yaA .i64 a5 a0 fun ad => yaA .i64 a5 (Addr.add a0 1) fun ae => yaA .i64 a5 (Addr.add a0 2) fun af => yaK a5 (Addr.add a0 3) fun z3 => yaA .i64 a5 (Addr.add a0 4) fun ag => yaA .i64 a5 (Addr.add a0 5) fun ah => yaA .i64 a5 (Addr.add a0 6) fun ai => yaA .i64 a5 (Addr.add a0 7) fun aj => yaA .i64 a5 (Addr.add a0 8) fun ak => yaA .i64 a5 (Addr.add a0 9) fun am => yaC a5 (Addr.add a0 10) fun x4 y6 y0 => yaK a5 (Addr.add a0 11) fun z4 => yaK a5 (Addr.add a0 12) fun z5 => yaA .i64 a5 (Addr.add a0 13) fun an => yaR a5 (Addr.add a0 14) fun z8 => yaC a5 (Addr.add a0 15) fun x5 y7 y1 =>
 ((
 al a5 (.cells #[.int .i64 e1,.int .i64 e2,.bool e0,.int .i64 e3,.string d9,.int .i64 e4,.int .i64 e5,.int .i64 e6,.int .i64 e7,.int .i64 e8,.int .i64 c4,.slice a9 b7 b3,.string c1,.string c2,.int .i64 c5,.bool c3,.slice b0 b8 b4,.int .i64 c6,.int .i64 c7,.int .i64 c8,.int .i64 c9,.slice b1 b9 b5,.slice b2 c0 b6,.int .i64 w6,.int .i64 w7,.bool w5,.int .i64 w8,.string w4,.int .i64 w9,.int .i64 x0,.int .i64 x1,.int .i64 x2,.int .i64 x3,.int .i64 u7,.slice h0 h8 h4,.string u2,.string u3,.int .i64 u9,.bool u5,.slice h1 h9 h5,.int .i64 v0,.int .i64 v1,.int .i64 v2,.int .i64 v3,.slice h2 u0 h6,.slice h3 u1 h7,.int .i64 v4,.int .i64 v5,.bool u6,.int .i64 v6,.string u4,.int .i64 v7,.int .i64 v8,.int .i64 v9,.int .i64 w0,.int .i64 w1,.int .i64 g4,.slice e9 f7 f3,.string g1,.string g2,.int .i64 g5,.bool g3,.slice f0 f8 f4,.int .i64 g6,.int .i64 g7,.int .i64 g8,.int .i64 g9,.slice f1 f9 f5,.slice f2 g0 f6] 46) fun bw bn =>
 ((
 Calls pP 12 #[(.slice (some ⟨bw,0,none⟩) 3 3)] bn fun e a8 => ∃ bt ck cc,e = .returned (.slice bt ck cc) ∧ yaG [bm0,bm1,bm2,bm3] bn a8 ∧ (yaA .i64 a8 a0 fun kl => yaA .i64 a8 (Addr.add a0 1) fun km => yaA .i64 a8 (Addr.add a0 2) fun kn => yaK a8 (Addr.add a0 3) fun ig => yaA .i64 a8 (Addr.add a0 4) fun ko => yaA .i64 a8 (Addr.add a0 5) fun kp => yaA .i64 a8 (Addr.add a0 6) fun kq => yaA .i64 a8 (Addr.add a0 7) fun kr => yaA .i64 a8 (Addr.add a0 8) fun ks => yaA .i64 a8 (Addr.add a0 9) fun kt => yaC a8 (Addr.add a0 10) fun fa hj gl => yaK a8 (Addr.add a0 11) fun ih => yaK a8 (Addr.add a0 12) fun ii => yaA .i64 a8 (Addr.add a0 13) fun ku => yaR a8 (Addr.add a0 14) fun jl => yaC a8 (Addr.add a0 15) fun fc hk gm => ((.agg (Z0 kl km kn ig ko kp kq kr ks kt fa hj gl ih ii ku jl fc hk gm)):Value) = (.agg (Z0 ad ae af z3 ag ah ai aj ak am x4 y6 y0 z4 z5 an z8 x5 y7 y1))) ∧
 al a8 (.cells (Z0 ad ae af z3 ag ah ai aj ak am x4 y6 y0 z4 z5 an z8 x5 y7 y1) 35) fun fz dj =>
 Calls pP 18 #[.slice bt ck cc,(.slice (some ⟨fz,0,none⟩) 1 1)] dj fun e bk => ∃ cs,e = .returned (.bool cs) ∧ yaG [bm0,bm1,bm2,bm3] dj bk ∧
 brB cs (
 Calls pP 13 #[.slice d7 d8 w3] bk fun e a1 => ∃ ct,e = .returned (.bool ct) ∧ yaG [bm0,bm1,bm2,bm3] bk a1 ∧
 brB ct (
 ixA d7 d8 0 16 fun d1 =>
 yaA .i64 a1 d1 fun kv => yaA .i64 a1 (Addr.add d1 1) fun kw => yaA .i64 a1 (Addr.add d1 2) fun kx => yaK a1 (Addr.add d1 3) fun ij => yaA .i64 a1 (Addr.add d1 4) fun ky => yaA .i64 a1 (Addr.add d1 5) fun kz => yaA .i64 a1 (Addr.add d1 6) fun la => yaA .i64 a1 (Addr.add d1 7) fun lc => yaA .i64 a1 (Addr.add d1 8) fun le => yaA .i64 a1 (Addr.add d1 9) fun lf => yaC a1 (Addr.add d1 10) fun fd hl gn => yaK a1 (Addr.add d1 11) fun ik => yaK a1 (Addr.add d1 12) fun il => yaA .i64 a1 (Addr.add d1 13) fun lg => yaR a1 (Addr.add d1 14) fun jm => yaC a1 (Addr.add d1 15) fun fe hm go =>
 ixA d7 d8 0 16 fun d2 =>
 yaA .i64 a1 d2 fun lh => yaA .i64 a1 (Addr.add d2 1) fun li => yaA .i64 a1 (Addr.add d2 2) fun lj => yaK a1 (Addr.add d2 3) fun im => yaA .i64 a1 (Addr.add d2 4) fun lk => yaA .i64 a1 (Addr.add d2 5) fun ll => yaA .i64 a1 (Addr.add d2 6) fun lm => yaA .i64 a1 (Addr.add d2 7) fun ln => yaA .i64 a1 (Addr.add d2 8) fun lo => yaA .i64 a1 (Addr.add d2 9) fun lp => yaC a1 (Addr.add d2 10) fun ff hn gp => yaK a1 (Addr.add d2 11) fun io => yaK a1 (Addr.add d2 12) fun ip => yaA .i64 a1 (Addr.add d2 13) fun lq => yaR a1 (Addr.add d2 14) fun jn => yaC a1 (Addr.add d2 15) fun fg ho gq =>
 al a1 (.cells (Z6 kv kw kx ij ky kz la lc le lf fd hl gn ik il lg jm fe hm go lh li lj im lk ll lm ln lo lp ff hn gp io ip lq jn fg ho gq) 35) fun ga dk =>
 Calls pP 13 #[(.slice (some ⟨ga,0,none⟩) 2 2)] dk fun e dl => ∃ cu,e = .returned (.bool cu) ∧ yaG [bm0,bm1,bm2,bm3] dk dl ∧
 R (.bool (!cu)) dl)
 (
 R (.bool false) a1))
 (
 R (.bool false) bk)) ∧
 (
 al bn (.cells (Z0 ad ae af z3 ag ah ai aj ak am x4 y6 y0 z4 z5 an z8 x5 y7 y1) 35) fun gb dm =>
 Calls pP 12 #[(.slice (some ⟨bw,0,none⟩) 3 3)] dm fun e a6 => ∃ bu cl cd,e = .returned (.slice bu cl cd) ∧ yaG [bm0,bm1,bm2,bm3] dm a6 ∧ (yaA .i64 a6 a0 fun lr => yaA .i64 a6 (Addr.add a0 1) fun ls => yaA .i64 a6 (Addr.add a0 2) fun lt => yaK a6 (Addr.add a0 3) fun iq => yaA .i64 a6 (Addr.add a0 4) fun lu => yaA .i64 a6 (Addr.add a0 5) fun lv => yaA .i64 a6 (Addr.add a0 6) fun lw => yaA .i64 a6 (Addr.add a0 7) fun lx => yaA .i64 a6 (Addr.add a0 8) fun ly => yaA .i64 a6 (Addr.add a0 9) fun lz => yaC a6 (Addr.add a0 10) fun fh hp gr => yaK a6 (Addr.add a0 11) fun ir => yaK a6 (Addr.add a0 12) fun it => yaA .i64 a6 (Addr.add a0 13) fun ma => yaR a6 (Addr.add a0 14) fun jo => yaC a6 (Addr.add a0 15) fun fi hq gs => ((.agg (Z0 lr ls lt iq lu lv lw lx ly lz fh hp gr ir it ma jo fi hq gs)):Value) = (.agg (Z0 ad ae af z3 ag ah ai aj ak am x4 y6 y0 z4 z5 an z8 x5 y7 y1))) ∧
 Calls pP 18 #[.slice bu cl cd,(.slice (some ⟨gb,0,none⟩) 1 1)] a6 fun e bl => ∃ cv,e = .returned (.bool cv) ∧ yaG [bm0,bm1,bm2,bm3] a6 bl ∧
 brB cv (
 Calls pP 13 #[.slice d7 d8 w3] bl fun e a2 => ∃ cw,e = .returned (.bool cw) ∧ yaG [bm0,bm1,bm2,bm3] bl a2 ∧
 brB cw (
 ixA d7 d8 0 16 fun d3 =>
 yaA .i64 a2 d3 fun mb => yaA .i64 a2 (Addr.add d3 1) fun mc => yaA .i64 a2 (Addr.add d3 2) fun md => yaK a2 (Addr.add d3 3) fun iu => yaA .i64 a2 (Addr.add d3 4) fun me => yaA .i64 a2 (Addr.add d3 5) fun mf => yaA .i64 a2 (Addr.add d3 6) fun mg => yaA .i64 a2 (Addr.add d3 7) fun mh => yaA .i64 a2 (Addr.add d3 8) fun mi => yaA .i64 a2 (Addr.add d3 9) fun mj => yaC a2 (Addr.add d3 10) fun fj hr gt => yaK a2 (Addr.add d3 11) fun iv => yaK a2 (Addr.add d3 12) fun iw => yaA .i64 a2 (Addr.add d3 13) fun mk => yaR a2 (Addr.add d3 14) fun jp => yaC a2 (Addr.add d3 15) fun fk hs gu =>
 ixA d7 d8 0 16 fun d4 =>
 yaA .i64 a2 d4 fun ml => yaA .i64 a2 (Addr.add d4 1) fun mm => yaA .i64 a2 (Addr.add d4 2) fun mn => yaK a2 (Addr.add d4 3) fun ix => yaA .i64 a2 (Addr.add d4 4) fun mo => yaA .i64 a2 (Addr.add d4 5) fun mp => yaA .i64 a2 (Addr.add d4 6) fun mq => yaA .i64 a2 (Addr.add d4 7) fun mr => yaA .i64 a2 (Addr.add d4 8) fun ms => yaA .i64 a2 (Addr.add d4 9) fun mt => yaC a2 (Addr.add d4 10) fun fl ht gv => yaK a2 (Addr.add d4 11) fun iy => yaK a2 (Addr.add d4 12) fun iz => yaA .i64 a2 (Addr.add d4 13) fun mu => yaR a2 (Addr.add d4 14) fun jq => yaC a2 (Addr.add d4 15) fun fm hu gw =>
 al a2 (.cells (Z6 mb mc md iu me mf mg mh mi mj fj hr gt iv iw mk jp fk hs gu ml mm mn ix mo mp mq mr ms mt fl ht gv iy iz mu jq fm hu gw) 35) fun gc dn =>
 Calls pP 13 #[(.slice (some ⟨gc,0,none⟩) 2 2)] dn fun e dp => ∃ cx,e = .returned (.bool cx) ∧ yaG [bm0,bm1,bm2,bm3] dn dp ∧
 R (.bool (!cx)) dp)
 (
 R (.bool false) a2))
 (
 R (.bool false) bl)))) ∧
 (
 al a5 (.cells (Z0 ad ae af z3 ag ah ai aj ak am x4 y6 y0 z4 z5 an z8 x5 y7 y1) 35) fun gd ju =>
 al ju (.cells #[.int .i64 e1,.int .i64 e2,.bool e0,.int .i64 e3,.string d9,.int .i64 e4,.int .i64 e5,.int .i64 e6,.int .i64 e7,.int .i64 e8,.int .i64 c4,.slice a9 b7 b3,.string c1,.string c2,.int .i64 c5,.bool c3,.slice b0 b8 b4,.int .i64 c6,.int .i64 c7,.int .i64 c8,.int .i64 c9,.slice b1 b9 b5,.slice b2 c0 b6,.int .i64 w6,.int .i64 w7,.bool w5,.int .i64 w8,.string w4,.int .i64 w9,.int .i64 x0,.int .i64 x1,.int .i64 x2,.int .i64 x3,.int .i64 u7,.slice h0 h8 h4,.string u2,.string u3,.int .i64 u9,.bool u5,.slice h1 h9 h5,.int .i64 v0,.int .i64 v1,.int .i64 v2,.int .i64 v3,.slice h2 u0 h6,.slice h3 u1 h7,.int .i64 v4,.int .i64 v5,.bool u6,.int .i64 v6,.string u4,.int .i64 v7,.int .i64 v8,.int .i64 v9,.int .i64 w0,.int .i64 w1,.int .i64 g4,.slice e9 f7 f3,.string g1,.string g2,.int .i64 g5,.bool g3,.slice f0 f8 f4,.int .i64 g6,.int .i64 g7,.int .i64 g8,.int .i64 g9,.slice f1 f9 f5,.slice f2 g0 f6] 46) fun ge dq =>
 Calls pP 12 #[(.slice (some ⟨ge,0,none⟩) 3 3)] dq fun e a7 => ∃ bv cm ce,e = .returned (.slice bv cm ce) ∧ yaG [bm0,bm1,bm2,bm3] dq a7 ∧ (yaA .i64 a7 a0 fun mv => yaA .i64 a7 (Addr.add a0 1) fun mw => yaA .i64 a7 (Addr.add a0 2) fun mx => yaK a7 (Addr.add a0 3) fun ja => yaA .i64 a7 (Addr.add a0 4) fun my => yaA .i64 a7 (Addr.add a0 5) fun mz => yaA .i64 a7 (Addr.add a0 6) fun na => yaA .i64 a7 (Addr.add a0 7) fun nb => yaA .i64 a7 (Addr.add a0 8) fun nc => yaA .i64 a7 (Addr.add a0 9) fun nd => yaC a7 (Addr.add a0 10) fun fn hv gx => yaK a7 (Addr.add a0 11) fun jb => yaK a7 (Addr.add a0 12) fun jc => yaA .i64 a7 (Addr.add a0 13) fun ne => yaR a7 (Addr.add a0 14) fun jr => yaC a7 (Addr.add a0 15) fun fo hw gy => ((.agg (Z0 mv mw mx ja my mz na nb nc nd fn hv gx jb jc ne jr fo hw gy)):Value) = (.agg (Z0 ad ae af z3 ag ah ai aj ak am x4 y6 y0 z4 z5 an z8 x5 y7 y1))) ∧
 Calls pP 18 #[.slice bv cm ce,(.slice (some ⟨gd,0,none⟩) 1 1)] a7 fun e bm => ∃ cy,e = .returned (.bool cy) ∧ yaG [bm0,bm1,bm2,bm3] a7 bm ∧
 brB cy (
 Calls pP 13 #[.slice d7 d8 w3] bm fun e a3 => ∃ cz,e = .returned (.bool cz) ∧ yaG [bm0,bm1,bm2,bm3] bm a3 ∧
 brB cz (
 ixA d7 d8 0 16 fun d5 =>
 yaA .i64 a3 d5 fun nf => yaA .i64 a3 (Addr.add d5 1) fun ng => yaA .i64 a3 (Addr.add d5 2) fun nh => yaK a3 (Addr.add d5 3) fun jd => yaA .i64 a3 (Addr.add d5 4) fun ni => yaA .i64 a3 (Addr.add d5 5) fun nj => yaA .i64 a3 (Addr.add d5 6) fun nk => yaA .i64 a3 (Addr.add d5 7) fun nl => yaA .i64 a3 (Addr.add d5 8) fun nm => yaA .i64 a3 (Addr.add d5 9) fun no => yaC a3 (Addr.add d5 10) fun fp hx gz => yaK a3 (Addr.add d5 11) fun je => yaK a3 (Addr.add d5 12) fun jf => yaA .i64 a3 (Addr.add d5 13) fun np => yaR a3 (Addr.add d5 14) fun js => yaC a3 (Addr.add d5 15) fun fq hy hb =>
 ixA d7 d8 0 16 fun d6 =>
 yaA .i64 a3 d6 fun nq => yaA .i64 a3 (Addr.add d6 1) fun nr => yaA .i64 a3 (Addr.add d6 2) fun ns => yaK a3 (Addr.add d6 3) fun jg => yaA .i64 a3 (Addr.add d6 4) fun nt => yaA .i64 a3 (Addr.add d6 5) fun nu => yaA .i64 a3 (Addr.add d6 6) fun nv => yaA .i64 a3 (Addr.add d6 7) fun nw => yaA .i64 a3 (Addr.add d6 8) fun nx => yaA .i64 a3 (Addr.add d6 9) fun ny => yaC a3 (Addr.add d6 10) fun fr hz hc => yaK a3 (Addr.add d6 11) fun jh => yaK a3 (Addr.add d6 12) fun ji => yaA .i64 a3 (Addr.add d6 13) fun oa => yaR a3 (Addr.add d6 14) fun jt => yaC a3 (Addr.add d6 15) fun fs ia hd =>
 al a3 (.cells (Z6 nf ng nh jd ni nj nk nl nm no fp hx gz je jf np js fq hy hb nq nr ns jg nt nu nv nw nx ny fr hz hc jh ji oa jt fs ia hd) 35) fun gf dr =>
 Calls pP 13 #[(.slice (some ⟨gf,0,none⟩) 2 2)] dr fun e ds => ∃ da,e = .returned (.bool da) ∧ yaG [bm0,bm1,bm2,bm3] dr ds ∧
 R (.bool (!da)) ds)
 (
 R (.bool false) a3))
 (
 R (.bool false) bm))))
 (
 ((
 ((
 R (.bool false) a5) ∧
 (
 R (.bool false) a5))) ∧
 (
 R (.bool false) a5))))
 (
 ((
 ((
 R (.bool false) ac) ∧
 (
 R (.bool false) ac))) ∧
 (
 R (.bool false) ac))))
 (
 ((
 ((
 R (.bool false) w2) ∧
 (
 R (.bool false) w2))) ∧
 (
 R (.bool false) w2))))
 (
 ((
 ((
 R (.bool false) w2) ∧
 (
 R (.bool false) w2))) ∧
 (
 R (.bool false) w2))))
 (
 ((
 ((
 R (.bool false) ab) ∧
 (
 R (.bool false) ab))) ∧
 (
 R (.bool false) ab))))
 (
 ((
 ((
 R (.bool false) bb) ∧
 (
 R (.bool false) bb))) ∧
 (
 R (.bool false) bb))))
 (
 ((
 ((
 R (.bool false) a4) ∧
 (
 R (.bool false) a4))) ∧
 (
 R (.bool false) a4))))
 (
 ((
 ((
 R (.bool false) ba) ∧
 (
 R (.bool false) ba))) ∧
 (
 R (.bool false) ba))))
 (
 ((
 ((
 R (.bool false) az) ∧
 (
 R (.bool false) az))) ∧
 (
 R (.bool false) az))))
 (
 ((
 ((
 R (.bool false) ay) ∧
 (
 R (.bool false) ay))) ∧
 (
 R (.bool false) ay))))
 (
 ((
 ((
 R (.bool false) aa) ∧
 (
 R (.bool false) aa))) ∧
 (
 R (.bool false) aa)))
theorem yEB {cp cq cr cs:Int} {bh ap bm30:Nat} {ee:Int} {ef eg eh ei ej ct:Int} {bi aq:Nat} {cu:Int} {bj ar:Nat} {cv cw cx cy:Int} {bk au:Nat} {bl av:Nat} (J:Option Addr → Nat → Nat → Option Addr → Nat → Nat → Nat → Int → Int → Bool → Int → ByteArray → Int → Int → Int → Int → Int → Int → Option Addr → Nat → Nat → ByteArray → ByteArray → Int → Bool → Option Addr → Nat → Nat → Int → Int → Int → Int → Option Addr → Nat → Nat → Option Addr → Nat → Nat → Nat → Int → Int → Bool → Int → ByteArray → Int → Int → Int → Int → Int → Int → Option Addr → Nat → Nat → ByteArray → ByteArray → Int → Bool → Option Addr → Nat → Nat → Int → Int → Int → Int → Option Addr → Nat → Nat → Option Addr → Nat → Nat → Nat → Int → Int → Bool → Int → ByteArray → Int → Int → Int → Int → Int → Int → Option Addr → Nat → Nat → ByteArray → ByteArray → Int → Bool → Option Addr → Nat → Nat → Int → Int → Int → Int → Option Addr → Nat → Nat → Option Addr → Nat → Nat → Nat → Int → Int → Bool → Int → ByteArray → Int → Int → Int → Int → Int → Int → Option Addr → Nat → Nat → ByteArray → ByteArray → Int → Bool → Option Addr → Nat → Nat → Int → Int → Int → Int → Option Addr → Nat → Nat → Option Addr → Nat → Nat → World → Prop) (h0:J q0 n0 n1 q1 n2 n3 n4 i0 i1 B0 i2 s0 i3 i4 i5 i6 i7 i8 q2 n5 n6 s1 s2 i9 B1 q3 n7 n8 j0 j1 j2 j3 q4 n9 o0 q5 o1 o2 o3 j4 j5 B2 j6 s3 j7 j8 j9 k0 k1 k2 q6 o4 o5 s4 s5 k3 B3 q7 o6 o7 k4 k5 k6 k7 q8 o8 o9 q9 p0 p1 p2 k8 k9 B4 l0 s6 l1 l2 l3 l4 l5 l6 r0 p3 p4 s7 s8 l7 B5 r1 p5 p6 cp cq cr cs r2 p7 p8 r3 bh ap bm30 l8 l9 B6 ee s9 ef eg eh ei ej ct r4 bi aq t0 t1 cu B7 r5 bj ar cv cw cx cy r6 bk au r7 bl av w0)
 (hr:∀ ek eo em el ep en bm0 v4 v5 v0 v6 u5 v7 v8 v9 w1 w2 i1 a4 d6 c0 f2 f3 g4 g0 a5 d7 c1 g5 g6 g7 g8 a6 d8 c2 a7 d9 c3 bm1 w3 w4 v1 w5 u6 w6 w7 w8 w9 x0 j5 a8 e0 c4 f4 f5 g9 g1 a9 e1 c5 h1 h2 h3 h4 b0 e2 c6 b1 e3 c7 bm2 x1 x2 v2 x3 u7 x4 x5 x6 x7 x8 k9 b2 e4 c8 f6 f7 h5 g2 b3 e5 c9 h6 h7 h8 h9 b4 e6 d0 b5 e7 d1 bm3 x9 y0 v3 y1 u9 y2 y3 y4 y5 y6 l9 b6 e8 d2 f8 f9 u0 g3 b7 e9 d3 u1 u2 u3 u4 b8 f0 d4 b9 f1 d5 w,J ek eo em el ep en bm0 v4 v5 v0 v6 u5 v7 v8 v9 w1 w2 i1 a4 d6 c0 f2 f3 g4 g0 a5 d7 c1 g5 g6 g7 g8 a6 d8 c2 a7 d9 c3 bm1 w3 w4 v1 w5 u6 w6 w7 w8 w9 x0 j5 a8 e0 c4 f4 f5 g9 g1 a9 e1 c5 h1 h2 h3 h4 b0 e2 c6 b1 e3 c7 bm2 x1 x2 v2 x3 u7 x4 x5 x6 x7 x8 k9 b2 e4 c8 f6 f7 h5 g2 b3 e5 c9 h6 h7 h8 h9 b4 e6 d0 b5 e7 d1 bm3 x9 y0 v3 y1 u9 y2 y3 y4 y5 y6 l9 b6 e8 d2 f8 f9 u0 g3 b7 e9 d3 u1 u2 u3 u4 b8 f0 d4 b9 f1 d5 w → yxH ek eo em el ep en bm0 v4 v5 v0 v6 u5 v7 v8 v9 w1 w2 i1 a4 d6 c0 f2 f3 g4 g0 a5 d7 c1 g5 g6 g7 g8 a6 d8 c2 a7 d9 c3 bm1 w3 w4 v1 w5 u6 w6 w7 w8 w9 x0 j5 a8 e0 c4 f4 f5 g9 g1 a9 e1 c5 h1 h2 h3 h4 b0 e2 c6 b1 e3 c7 bm2 x1 x2 v2 x3 u7 x4 x5 x6 x7 x8 k9 b2 e4 c8 f6 f7 h5 g2 b3 e5 c9 h6 h7 h8 h9 b4 e6 d0 b5 e7 d1 bm3 x9 y0 v3 y1 u9 y2 y3 y4 y5 y6 l9 b6 e8 d2 f8 f9 u0 g3 b7 e9 d3 u1 u2 u3 u4 b8 f0 d4 b9 f1 d5 R w) :
 ybI yc6 ((ydI 394 [1,1,1,1,1,1]) (ydJ [1,1,1,1,1] [] R)) (yeU (q0,n0,n1,q1,n2,n3,n4,i0,i1,B0,i2,s0,i3,i4,i5,i6,i7,i8,q2,n5,n6,s1,s2,i9,B1,q3,n7,n8,j0,j1,j2,j3,q4,n9,o0,q5,o1,o2,o3,j4,j5,B2,j6,s3,j7,j8,j9,k0,k1,k2,q6,o4,o5,s4,s5,k3,B3,q7,o6,o7,k4,k5,k6,k7,q8,o8,o9,q9,p0,p1,p2,k8,k9,B4,l0,s6,l1,l2,l3,l4,l5,l6,r0,p3,p4,s7,s8,l7,B5,r1,p5,p6,cp,cq,cr,cs,r2,p7,p8,r3,bh,ap,bm30,l8,l9,B6,ee,s9,ef,eg,eh,ei,ej,ct,r4,bi,aq,t0,t1,cu,B7,r5,bj,ar,cv,cw,cx,cy,r6,bk,au,r7,bl,av)) w0 :=
 crule (yeU) (yk3 J) h0 (by rintro ⟨ek,eo,em,el,ep,en,bm0,v4,v5,v0,v6,u5,v7,v8,v9,w1,w2,i1,a4,d6,c0,f2,f3,g4,g0,a5,d7,c1,g5,g6,g7,g8,a6,d8,c2,a7,d9,c3,bm1,w3,w4,v1,w5,u6,w6,w7,w8,w9,x0,j5,a8,e0,c4,f4,f5,g9,g1,a9,e1,c5,h1,h2,h3,h4,b0,e2,c6,b1,e3,c7,bm2,x1,x2,v2,x3,u7,x4,x5,x6,x7,x8,k9,b2,e4,c8,f6,f7,h5,g2,b3,e5,c9,h6,h7,h8,h9,b4,e6,d0,b5,e7,d1,bm3,x9,y0,v3,y1,u9,y2,y3,y4,y5,y6,l9,b6,e8,d2,f8,f9,u0,g3,b7,e9,d3,u1,u2,u3,u4,b8,f0,d4,b9,f1,d5⟩ w h; exact ⟨by kernel_rfl,by kernel_rfl,fun js => Eq.mpr (by kernel_rfl) (hr ek eo em el ep en bm0 v4 v5 v0 v6 u5 v7 v8 v9 w1 w2 i1 a4 d6 c0 f2 f3 g4 g0 a5 d7 c1 g5 g6 g7 g8 a6 d8 c2 a7 d9 c3 bm1 w3 w4 v1 w5 u6 w6 w7 w8 w9 x0 j5 a8 e0 c4 f4 f5 g9 g1 a9 e1 c5 h1 h2 h3 h4 b0 e2 c6 b1 e3 c7 bm2 x1 x2 v2 x3 u7 x4 x5 x6 x7 x8 k9 b2 e4 c8 f6 f7 h5 g2 b3 e5 c9 h6 h7 h8 h9 b4 e6 d0 b5 e7 d1 bm3 x9 y0 v3 y1 u9 y2 y3 y4 y5 y6 l9 b6 e8 d2 f8 f9 u0 g3 b7 e9 d3 u1 u2 u3 u4 b8 f0 d4 b9 f1 d5 w h)⟩)
theorem yeB {h4 h5 h6 h7:Int} {e3 c7 bm3:Nat} {cr:Int} {cs ct cu cv cw h8:Int} {e4 c8:Nat} {h9:Int} {e5 c9:Nat} {u0 u1 u2 u3:Int} {e6 d0:Nat} {e7 d1:Nat} (h:yxH q0 n0 n1 q1 n2 n3 n4 i0 i1 B0 i2 s0 i3 i4 i5 i6 i7 i8 q2 n5 n6 s1 s2 i9 B1 q3 n7 n8 j0 j1 j2 j3 q4 n9 o0 q5 o1 o2 o3 j4 j5 B2 j6 s3 j7 j8 j9 k0 k1 k2 q6 o4 o5 s4 s5 k3 B3 q7 o6 o7 k4 k5 k6 k7 q8 o8 o9 q9 p0 p1 p2 k8 k9 B4 l0 s6 l1 l2 l3 l4 l5 l6 r0 p3 p4 s7 s8 l7 B5 r1 p5 p6 h4 h5 h6 h7 r2 p7 p8 r3 e3 c7 bm3 l8 l9 B6 cr s9 cs ct cu cv cw h8 r4 e4 c8 t0 t1 h9 B7 r5 e5 c9 u0 u1 u2 u3 r6 e6 d0 r7 e7 d1 R w) :
 ybI yc6 ((ydI 394 [1,1,1,1,1,1]) (ydJ [1,1,1,1,1] [] R)) (yeU (q0,n0,n1,q1,n2,n3,n4,i0,i1,B0,i2,s0,i3,i4,i5,i6,i7,i8,q2,n5,n6,s1,s2,i9,B1,q3,n7,n8,j0,j1,j2,j3,q4,n9,o0,q5,o1,o2,o3,j4,j5,B2,j6,s3,j7,j8,j9,k0,k1,k2,q6,o4,o5,s4,s5,k3,B3,q7,o6,o7,k4,k5,k6,k7,q8,o8,o9,q9,p0,p1,p2,k8,k9,B4,l0,s6,l1,l2,l3,l4,l5,l6,r0,p3,p4,s7,s8,l7,B5,r1,p5,p6,h4,h5,h6,h7,r2,p7,p8,r3,e3,c7,bm3,l8,l9,B6,cr,s9,cs,ct,cu,cv,cw,h8,r4,e4,c8,t0,t1,h9,B7,r5,e5,c9,u0,u1,u2,u3,r6,e6,d0,r7,e7,d1)) w :=
 yEB (fun en ex er ep ez eu bm0' df dg db dh cx di dj dk dl dm aq u4 x7 w1 z3 z4 ar af u5 x8 w2 au av aw ax u6 x9 w3 u7 y0 w4 bm1' dn dp dc dq cy dr ds dt du dv bg u9 y1 w5 z6 z7 bh ah v0 y2 w6 bi bj bk bl v1 y3 w7 v2 y4 w8 bm2' dw dx dd dy cz dz ea eb ec ed bv v3 y5 w9 z9 aa bw aj v4 y6 x0 bx bz ca cb v5 y7 x1 v6 y8 x2 bm3' ee ef de eg da eh ei ej ek el cl v7 y9 x3 ac ad cm am v8 z0 x4 cn co cp cq v9 z1 x5 w0 z2 x6 w' => en = q0 ∧ ex = n0 ∧ er = n1 ∧ ep = q1 ∧ ez = n2 ∧ eu = n3 ∧ bm0' = n4 ∧ df = i0 ∧ dg = i1 ∧ db = B0 ∧ dh = i2 ∧ cx = s0 ∧ di = i3 ∧ dj = i4 ∧ dk = i5 ∧ dl = i6 ∧ dm = i7 ∧ aq = i8 ∧ u4 = q2 ∧ x7 = n5 ∧ w1 = n6 ∧ z3 = s1 ∧ z4 = s2 ∧ ar = i9 ∧ af = B1 ∧ u5 = q3 ∧ x8 = n7 ∧ w2 = n8 ∧ au = j0 ∧ av = j1 ∧ aw = j2 ∧ ax = j3 ∧ u6 = q4 ∧ x9 = n9 ∧ w3 = o0 ∧ u7 = q5 ∧ y0 = o1 ∧ w4 = o2 ∧ bm1' = o3 ∧ dn = j4 ∧ dp = j5 ∧ dc = B2 ∧ dq = j6 ∧ cy = s3 ∧ dr = j7 ∧ ds = j8 ∧ dt = j9 ∧ du = k0 ∧ dv = k1 ∧ bg = k2 ∧ u9 = q6 ∧ y1 = o4 ∧ w5 = o5 ∧ z6 = s4 ∧ z7 = s5 ∧ bh = k3 ∧ ah = B3 ∧ v0 = q7 ∧ y2 = o6 ∧ w6 = o7 ∧ bi = k4 ∧ bj = k5 ∧ bk = k6 ∧ bl = k7 ∧ v1 = q8 ∧ y3 = o8 ∧ w7 = o9 ∧ v2 = q9 ∧ y4 = p0 ∧ w8 = p1 ∧ bm2' = p2 ∧ dw = k8 ∧ dx = k9 ∧ dd = B4 ∧ dy = l0 ∧ cz = s6 ∧ dz = l1 ∧ ea = l2 ∧ eb = l3 ∧ ec = l4 ∧ ed = l5 ∧ bv = l6 ∧ v3 = r0 ∧ y5 = p3 ∧ w9 = p4 ∧ z9 = s7 ∧ aa = s8 ∧ bw = l7 ∧ aj = B5 ∧ v4 = r1 ∧ y6 = p5 ∧ x0 = p6 ∧ bx = h4 ∧ bz = h5 ∧ ca = h6 ∧ cb = h7 ∧ v5 = r2 ∧ y7 = p7 ∧ x1 = p8 ∧ v6 = r3 ∧ y8 = e3 ∧ x2 = c7 ∧ bm3' = bm3 ∧ ee = l8 ∧ ef = l9 ∧ de = B6 ∧ eg = cr ∧ da = s9 ∧ eh = cs ∧ ei = ct ∧ ej = cu ∧ ek = cv ∧ el = cw ∧ cl = h8 ∧ v7 = r4 ∧ y9 = e4 ∧ x3 = c8 ∧ ac = t0 ∧ ad = t1 ∧ cm = h9 ∧ am = B7 ∧ v8 = r5 ∧ z0 = e5 ∧ x4 = c9 ∧ cn = u0 ∧ co = u1 ∧ cp = u2 ∧ cq = u3 ∧ v9 = r6 ∧ z1 = e6 ∧ x5 = d0 ∧ w0 = r7 ∧ z2 = e7 ∧ x6 = d1 ∧ w' = w) ⟨rfl,rfl,rfl,rfl,rfl,rfl,rfl,rfl,rfl,rfl,rfl,rfl,rfl,rfl,rfl,rfl,rfl,rfl,rfl,rfl,rfl,rfl,rfl,rfl,rfl,rfl,rfl,rfl,rfl,rfl,rfl,rfl,rfl,rfl,rfl,rfl,rfl,rfl,rfl,rfl,rfl,rfl,rfl,rfl,rfl,rfl,rfl,rfl,rfl,rfl,rfl,rfl,rfl,rfl,rfl,rfl,rfl,rfl,rfl,rfl,rfl,rfl,rfl,rfl,rfl,rfl,rfl,rfl,rfl,rfl,rfl,rfl,rfl,rfl,rfl,rfl,rfl,rfl,rfl,rfl,rfl,rfl,rfl,rfl,rfl,rfl,rfl,rfl,rfl,rfl,rfl,rfl,rfl,rfl,rfl,rfl,rfl,rfl,rfl,rfl,rfl,rfl,rfl,rfl,rfl,rfl,rfl,rfl,rfl,rfl,rfl,rfl,rfl,rfl,rfl,rfl,rfl,rfl,rfl,rfl,rfl,rfl,rfl,rfl,rfl,rfl,rfl,rfl,rfl,rfl,rfl,rfl,rfl,rfl,rfl⟩ (by rintro en ex er ep ez eu bm0' df dg db dh cx di dj dk dl dm aq u4 x7 w1 z3 z4 ar af u5 x8 w2 au av aw ax u6 x9 w3 u7 y0 w4 bm1' dn dp dc dq cy dr ds dt du dv bg u9 y1 w5 z6 z7 bh ah v0 y2 w6 bi bj bk bl v1 y3 w7 v2 y4 w8 bm2' dw dx dd dy cz dz ea eb ec ed bv v3 y5 w9 z9 aa bw aj v4 y6 x0 bx bz ca cb v5 y7 x1 v6 y8 x2 bm3' ee ef de eg da eh ei ej ek el cl v7 y9 x3 ac ad cm am v8 z0 x4 cn co cp cq v9 z1 x5 w0 z2 x6 w' ⟨rfl,rfl,rfl,rfl,rfl,rfl,rfl,rfl,rfl,rfl,rfl,rfl,rfl,rfl,rfl,rfl,rfl,rfl,rfl,rfl,rfl,rfl,rfl,rfl,rfl,rfl,rfl,rfl,rfl,rfl,rfl,rfl,rfl,rfl,rfl,rfl,rfl,rfl,rfl,rfl,rfl,rfl,rfl,rfl,rfl,rfl,rfl,rfl,rfl,rfl,rfl,rfl,rfl,rfl,rfl,rfl,rfl,rfl,rfl,rfl,rfl,rfl,rfl,rfl,rfl,rfl,rfl,rfl,rfl,rfl,rfl,rfl,rfl,rfl,rfl,rfl,rfl,rfl,rfl,rfl,rfl,rfl,rfl,rfl,rfl,rfl,rfl,rfl,rfl,rfl,rfl,rfl,rfl,rfl,rfl,rfl,rfl,rfl,rfl,rfl,rfl,rfl,rfl,rfl,rfl,rfl,rfl,rfl,rfl,rfl,rfl,rfl,rfl,rfl,rfl,rfl,rfl,rfl,rfl,rfl,rfl,rfl,rfl,rfl,rfl,rfl,rfl,rfl,rfl,rfl,rfl,rfl,rfl,rfl,rfl⟩; exact h)
theorem yJ1 (h :
 Calls pP 15 #[.int .i64 1,.int .i64 1] w fun e yf => ∃ wq wr ws wi wt wu wv ww wx wy vw we wa wj wk wz wo vx wf wb,e = .returned (.agg (Z0 wq wr ws wi wt wu wv ww wx wy vw we wa wj wk wz wo vx wf wb)) ∧
 Calls pP 15 #[.int .i64 2,.int .i64 1] yf fun e yg => ∃ xa xb xc wl xd xe xf xg xh xi vy wg wc wm wn xj wp vz wh wd,e = .returned (.agg (Z0 xa xb xc wl xd xe xf xg xh xi vy wg wc wm wn xj wp vz wh wd)) ∧
 al yg (.cells (Z6 wq wr ws wi wt wu wv ww wx wy vw we wa wj wk wz wo vx wf wb xa xb xc wl xd xe xf xg xh xi vy wg wc wm wn xj wp vz wh wd) 35) fun d2 yh =>
 Calls pP 8 #[.int .i64 4,(.slice (some ⟨d2,0,none⟩) 2 2)] yh fun e sq => ∃ d4 d3 d5 xk,e = .returned (.tuple #[.slice d4 d3 d5,.int .i64 xk]) ∧
 brB (xk != 0) (
 R (.bool false) sq)
 (
 brB ((d3:Int) != 2) (
 R (.bool false) sq)
 (
 ixA (some ⟨d2,0,none⟩) 2 0 16 fun c9 =>
 ∀ a1,Adv [] [] sq a1 →
 yaA .i64 a1 c9 fun u4 => yaA .i64 a1 (Addr.add c9 1) fun u5 => yaA .i64 a1 (Addr.add c9 2) fun u6 => yaK a1 (Addr.add c9 3) fun u0 => yaA .i64 a1 (Addr.add c9 4) fun u7 => yaA .i64 a1 (Addr.add c9 5) fun u9 => yaA .i64 a1 (Addr.add c9 6) fun v0 => yaA .i64 a1 (Addr.add c9 7) fun v1 => yaA .i64 a1 (Addr.add c9 8) fun v2 => yaA .i64 a1 (Addr.add c9 9) fun v3 => yaC a1 (Addr.add c9 10) fun h4 h8 h6 => yaK a1 (Addr.add c9 11) fun u1 => yaK a1 (Addr.add c9 12) fun u2 => yaA .i64 a1 (Addr.add c9 13) fun v4 => yaR a1 (Addr.add c9 14) fun u3 => yaC a1 (Addr.add c9 15) fun h5 h9 h7 =>
 ixA (some ⟨d2,0,none⟩) 2 1 16 fun a0 =>
 yaA .i64 a1 a0 fun b9 => yaA .i64 a1 (Addr.add a0 1) fun c0 => yaA .i64 a1 (Addr.add a0 2) fun c1 => yaK a1 (Addr.add a0 3) fun b5 => yaA .i64 a1 (Addr.add a0 4) fun c2 => yaA .i64 a1 (Addr.add a0 5) fun c3 => yaA .i64 a1 (Addr.add a0 6) fun c4 => yaA .i64 a1 (Addr.add a0 7) fun c5 => yaA .i64 a1 (Addr.add a0 8) fun c6 => yaA .i64 a1 (Addr.add a0 9) fun c7 => yaC a1 (Addr.add a0 10) fun a9 b3 b1 => yaK a1 (Addr.add a0 11) fun b6 => yaK a1 (Addr.add a0 12) fun b7 => yaA .i64 a1 (Addr.add a0 13) fun c8 => yaR a1 (Addr.add a0 14) fun b8 => yaC a1 (Addr.add a0 15) fun b0 b4 b2 =>
 ((
 Calls pP 9 #[(.agg (Z0 u4 u5 u6 u0 u7 u9 v0 v1 v2 v3 h4 h8 h6 u1 u2 v4 u3 h5 h9 h7))] a1 fun e a4 => ∃ f5 f6 f3 f7 f0 f8 f9 g0 g1 g2 g3 d8 e6 e2 f1 f2 g4 f4 d9 e7 e3 g5 g6 g7 g8 e0 e8 e4 e1 e9 e5,e = .returned (.agg (Z1 f5 f6 f3 f7 f0 f8 f9 g0 g1 g2 g3 d8 e6 e2 f1 f2 g4 f4 d9 e7 e3 g5 g6 g7 g8 e0 e8 e4 e1 e9 e5)) ∧ (yaA .i64 a4 a0 fun xv => yaA .i64 a4 (Addr.add a0 1) fun xw => yaA .i64 a4 (Addr.add a0 2) fun xx => yaK a4 (Addr.add a0 3) fun xr => yaA .i64 a4 (Addr.add a0 4) fun xy => yaA .i64 a4 (Addr.add a0 5) fun xz => yaA .i64 a4 (Addr.add a0 6) fun ya => yaA .i64 a4 (Addr.add a0 7) fun yb => yaA .i64 a4 (Addr.add a0 8) fun yc => yaA .i64 a4 (Addr.add a0 9) fun yd => yaC a4 (Addr.add a0 10) fun xl xp xn => yaK a4 (Addr.add a0 11) fun xs => yaK a4 (Addr.add a0 12) fun xt => yaA .i64 a4 (Addr.add a0 13) fun ye => yaR a4 (Addr.add a0 14) fun xu => yaC a4 (Addr.add a0 15) fun xm xq xo => ((.agg (Z0 xv xw xx xr xy xz ya yb yc yd xl xp xn xs xt ye xu xm xq xo)):Value) = (.agg (Z0 b9 c0 c1 b5 c2 c3 c4 c5 c6 c7 a9 b3 b1 b6 b7 c8 b8 b0 b4 b2))) ∧
 ((
 Calls pP 9 #[(.agg (Z0 b9 c0 c1 b5 c2 c3 c4 c5 c6 c7 a9 b3 b1 b6 b7 c8 b8 b0 b4 b2))] a4 fun e h3 => ∃ cl cm cj cn cf co cp cq cr cs ct bp cb bw ch ci cu ck bq cc bx cv cw cx cy br cd bz bt ce ca,e = .returned (.agg (Z1 cl cm cj cn cf co cp cq cr cs ct bp cb bw ch ci cu ck bq cc bx cv cw cx cy br cd bz bt ce ca)) ∧
 ((
 ∀ bu,h3.heap.size ≤ bu →
 ∀ bv,h3.heap.size ≤ bv →
 ∀ lh,Adv [] [bv,bu] h3 lh →
 ybI yc5 ((ydI 395 [1,1,1,1,1]) (ydJ [1,1,1,1] [] R)) (yeT ((some ⟨d2,0,none⟩),2,2,d4,d3,d5,bu,f5,f6,f3,f7,f0,f8,f9,g0,g1,g2,g3,d8,e6,e2,f1,f2,g4,f4,d9,e7,e3,g5,g6,g7,g8,e0,e8,e4,e1,e9,e5,bv,cl,cm,cj,cn,cf,co,cp,cq,cr,cs,ct,bp,cb,bw,ch,ci,cu,ck,bq,cc,bx,cv,cw,cx,cy,br,cd,bz,bt,ce,ca)) lh) ∧
 (
 ∀ w3,h3.heap.size ≤ w3 →
 ∀ w4,h3.heap.size ≤ w4 →
 ∀ li,Adv [] [w4,w3] h3 li →
 ybI yc5 ((ydI 395 [1,1,1,1,1]) (ydJ [1,1,1,1] [] R)) (yeT ((some ⟨d2,0,none⟩),2,2,d4,d3,d5,w4,f5,f6,f3,f7,f0,f8,f9,g0,g1,g2,g3,d8,e6,e2,f1,f2,g4,f4,d9,e7,e3,g5,g6,g7,g8,e0,e8,e4,e1,e9,e5,w3,cl,cm,cj,cn,cf,co,cp,cq,cr,cs,ct,bp,cb,bw,ch,ci,cu,ck,bq,cc,bx,cv,cw,cx,cy,br,cd,bz,bt,ce,ca)) li))) ∧
 (
 ((
 ∀ d0,a4.heap.size ≤ d0 →
 ((
 ∀ z5,Adv [] [d0] a4 z5 →
 Calls pP 9 #[(.agg (Z0 b9 c0 c1 b5 c2 c3 c4 c5 c6 c7 a9 b3 b1 b6 b7 c8 b8 b0 b4 b2))] z5 fun e z6 => ∃ lz ma kh mb iv mc md me mf mg mh cz gv ey iw ix mi ki da gw ez mj mk ml mm db gx fa dc gy fc,e = .returned (.agg (Z1 lz ma kh mb iv mc md me mf mg mh cz gv ey iw ix mi ki da gw ez mj mk ml mm db gx fa dc gy fc)) ∧ yaG [d0] z5 z6 ∧
 ∀ w5,z6.heap.size ≤ w5 →
 ∀ lj,Adv [d0] [w5] z6 lj →
 ybI yc5 ((ydI 395 [1,1,1,1,1]) (ydJ [1,1,1,1] [] R)) (yeT ((some ⟨d2,0,none⟩),2,2,d4,d3,d5,d0,f5,f6,f3,f7,f0,f8,f9,g0,g1,g2,g3,d8,e6,e2,f1,f2,g4,f4,d9,e7,e3,g5,g6,g7,g8,e0,e8,e4,e1,e9,e5,w5,lz,ma,kh,mb,iv,mc,md,me,mf,mg,mh,cz,gv,ey,iw,ix,mi,ki,da,gw,ez,mj,mk,ml,mm,db,gx,fa,dc,gy,fc)) lj) ∧
 (
 ∀ g9,a4.heap.size ≤ g9 →
 ∀ z7,Adv [] [g9,d0] a4 z7 →
 Calls pP 9 #[(.agg (Z0 b9 c0 c1 b5 c2 c3 c4 c5 c6 c7 a9 b3 b1 b6 b7 c8 b8 b0 b4 b2))] z7 fun e lk => ∃ mn mo kj mp iy mq mr ms mt mu mv dd gz fd iz ja mw kk de hb fe mx my mz na df hc ff dg hd fg,e = .returned (.agg (Z1 mn mo kj mp iy mq mr ms mt mu mv dd gz fd iz ja mw kk de hb fe mx my mz na df hc ff dg hd fg)) ∧ yaG [d0,g9] z7 lk ∧
 ∀ ll,Adv [g9,d0] [] lk ll →
 ybI yc5 ((ydI 395 [1,1,1,1,1]) (ydJ [1,1,1,1] [] R)) (yeT ((some ⟨d2,0,none⟩),2,2,d4,d3,d5,d0,f5,f6,f3,f7,f0,f8,f9,g0,g1,g2,g3,d8,e6,e2,f1,f2,g4,f4,d9,e7,e3,g5,g6,g7,g8,e0,e8,e4,e1,e9,e5,g9,mn,mo,kj,mp,iy,mq,mr,ms,mt,mu,mv,dd,gz,fd,iz,ja,mw,kk,de,hb,fe,mx,my,mz,na,df,hc,ff,dg,hd,fg)) ll))) ∧
 (
 ∀ d1,a4.heap.size ≤ d1 →
 ((
 ∀ z8,Adv [] [d1] a4 z8 →
 Calls pP 9 #[(.agg (Z0 b9 c0 c1 b5 c2 c3 c4 c5 c6 c7 a9 b3 b1 b6 b7 c8 b8 b0 b4 b2))] z8 fun e z9 => ∃ nb nc kl nd jb ne nf ng nh ni nj dh he fh jc jd nk km di hf fi nl nm no np dj hg fj dk hh fk,e = .returned (.agg (Z1 nb nc kl nd jb ne nf ng nh ni nj dh he fh jc jd nk km di hf fi nl nm no np dj hg fj dk hh fk)) ∧ yaG [d1] z8 z9 ∧
 ∀ w6,z9.heap.size ≤ w6 →
 ∀ lm,Adv [d1] [w6] z9 lm →
 ybI yc5 ((ydI 395 [1,1,1,1,1]) (ydJ [1,1,1,1] [] R)) (yeT ((some ⟨d2,0,none⟩),2,2,d4,d3,d5,w6,f5,f6,f3,f7,f0,f8,f9,g0,g1,g2,g3,d8,e6,e2,f1,f2,g4,f4,d9,e7,e3,g5,g6,g7,g8,e0,e8,e4,e1,e9,e5,d1,nb,nc,kl,nd,jb,ne,nf,ng,nh,ni,nj,dh,he,fh,jc,jd,nk,km,di,hf,fi,nl,nm,no,np,dj,hg,fj,dk,hh,fk)) lm) ∧
 (
 ∀ h0,a4.heap.size ≤ h0 →
 ∀ aa,Adv [] [h0,d1] a4 aa →
 Calls pP 9 #[(.agg (Z0 b9 c0 c1 b5 c2 c3 c4 c5 c6 c7 a9 b3 b1 b6 b7 c8 b8 b0 b4 b2))] aa fun e ln => ∃ nq nr kn ns je nt nu nv nw nx ny dl hi fl jf jg oa ko dm hj fm ob oc od oe dn hk fn dp hl fo,e = .returned (.agg (Z1 nq nr kn ns je nt nu nv nw nx ny dl hi fl jf jg oa ko dm hj fm ob oc od oe dn hk fn dp hl fo)) ∧ yaG [d1,h0] aa ln ∧
 ∀ lo,Adv [d1,h0] [] ln lo →
 ybI yc5 ((ydI 395 [1,1,1,1,1]) (ydJ [1,1,1,1] [] R)) (yeT ((some ⟨d2,0,none⟩),2,2,d4,d3,d5,h0,f5,f6,f3,f7,f0,f8,f9,g0,g1,g2,g3,d8,e6,e2,f1,f2,g4,f4,d9,e7,e3,g5,g6,g7,g8,e0,e8,e4,e1,e9,e5,d1,nq,nr,kn,ns,je,nt,nu,nv,nw,nx,ny,dl,hi,fl,jf,jg,oa,ko,dm,hj,fm,ob,oc,od,oe,dn,hk,fn,dp,hl,fo)) lo))))))) ∧
 (
 ((
 ∀ a7,a1.heap.size ≤ a7 →
 ((
 ∀ ab,Adv [] [a7] a1 ab →
 Calls pP 9 #[(.agg (Z0 u4 u5 u6 u0 u7 u9 v0 v1 v2 v3 h4 h8 h6 u1 u2 v4 u3 h5 h9 h7))] ab fun e a2 => ∃ aj ak z1 am y5 ao ap aq ar au av v5 x7 w9 y6 y7 aw z2 v6 x8 x0 ax ay az ba v7 x9 x1 v8 y0 x2,e = .returned (.agg (Z1 aj ak z1 am y5 ao ap aq ar au av v5 x7 w9 y6 y7 aw z2 v6 x8 x0 ax ay az ba v7 x9 x1 v8 y0 x2)) ∧ yaG [a7] ab a2 ∧ (yaA .i64 a2 a0 fun uh => yaA .i64 a2 (Addr.add a0 1) fun ui => yaA .i64 a2 (Addr.add a0 2) fun uj => yaK a2 (Addr.add a0 3) fun tr => yaA .i64 a2 (Addr.add a0 4) fun uk => yaA .i64 a2 (Addr.add a0 5) fun ul => yaA .i64 a2 (Addr.add a0 6) fun um => yaA .i64 a2 (Addr.add a0 7) fun un => yaA .i64 a2 (Addr.add a0 8) fun uo => yaA .i64 a2 (Addr.add a0 9) fun up => yaC a2 (Addr.add a0 10) fun sr tj ta => yaK a2 (Addr.add a0 11) fun ts => yaK a2 (Addr.add a0 12) fun tt => yaA .i64 a2 (Addr.add a0 13) fun uq => yaR a2 (Addr.add a0 14) fun ud => yaC a2 (Addr.add a0 15) fun ss tk tb => ((.agg (Z0 uh ui uj tr uk ul um un uo up sr tj ta ts tt uq ud ss tk tb)):Value) = (.agg (Z0 b9 c0 c1 b5 c2 c3 c4 c5 c6 c7 a9 b3 b1 b6 b7 c8 b8 b0 b4 b2))) ∧
 ((
 Calls pP 9 #[(.agg (Z0 b9 c0 c1 b5 c2 c3 c4 c5 c6 c7 a9 b3 b1 b6 b7 c8 b8 b0 b4 b2))] a2 fun e ac => ∃ of og kp oh jh oi oj ok ol om on dq hm fp ji jj oo kq dr hn fq op oq os ot ds ho fr dt hp fs,e = .returned (.agg (Z1 of og kp oh jh oi oj ok ol om on dq hm fp ji jj oo kq dr hn fq op oq os ot ds ho fr dt hp fs)) ∧ yaG [a7] a2 ac ∧
 ∀ w7,ac.heap.size ≤ w7 →
 ∀ lp,Adv [a7] [w7] ac lp →
 ybI yc5 ((ydI 395 [1,1,1,1,1]) (ydJ [1,1,1,1] [] R)) (yeT ((some ⟨d2,0,none⟩),2,2,d4,d3,d5,a7,aj,ak,z1,am,y5,ao,ap,aq,ar,au,av,v5,x7,w9,y6,y7,aw,z2,v6,x8,x0,ax,ay,az,ba,v7,x9,x1,v8,y0,x2,w7,of,og,kp,oh,jh,oi,oj,ok,ol,om,on,dq,hm,fp,ji,jj,oo,kq,dr,hn,fq,op,oq,os,ot,ds,ho,fr,dt,hp,fs)) lp) ∧
 (
 ∀ h1,a2.heap.size ≤ h1 →
 ∀ ad,Adv [] [h1] a2 ad →
 Calls pP 9 #[(.agg (Z0 b9 c0 c1 b5 c2 c3 c4 c5 c6 c7 a9 b3 b1 b6 b7 c8 b8 b0 b4 b2))] ad fun e lq => ∃ ou ov kr ow jl ox oy oz pa pb pc du hq ft jm jn pd ks dv hr fu pe pf pg ph dw hs fv dx ht fw,e = .returned (.agg (Z1 ou ov kr ow jl ox oy oz pa pb pc du hq ft jm jn pd ks dv hr fu pe pf pg ph dw hs fv dx ht fw)) ∧ yaG [a7,h1] ad lq ∧
 ∀ lr,Adv [h1,a7] [] lq lr →
 ybI yc5 ((ydI 395 [1,1,1,1,1]) (ydJ [1,1,1,1] [] R)) (yeT ((some ⟨d2,0,none⟩),2,2,d4,d3,d5,a7,aj,ak,z1,am,y5,ao,ap,aq,ar,au,av,v5,x7,w9,y6,y7,aw,z2,v6,x8,x0,ax,ay,az,ba,v7,x9,x1,v8,y0,x2,h1,ou,ov,kr,ow,jl,ox,oy,oz,pa,pb,pc,du,hq,ft,jm,jn,pd,ks,dv,hr,fu,pe,pf,pg,ph,dw,hs,fv,dx,ht,fw)) lr))) ∧
 (
 ∀ d6,a1.heap.size ≤ d6 →
 ∀ ae,Adv [] [d6,a7] a1 ae →
 Calls pP 9 #[(.agg (Z0 u4 u5 u6 u0 u7 u9 v0 v1 v2 v3 h4 h8 h6 u1 u2 v4 u3 h5 h9 h7))] ae fun e a5 => ∃ pi pj kt pk jo pl pm pn po pp pq dy hu fx jp jq pr ku dz hv fy ps pu pv pw ea hw fz eb hx ga,e = .returned (.agg (Z1 pi pj kt pk jo pl pm pn po pp pq dy hu fx jp jq pr ku dz hv fy ps pu pv pw ea hw fz eb hx ga)) ∧ yaG [a7,d6] ae a5 ∧ (yaA .i64 a5 a0 fun ur => yaA .i64 a5 (Addr.add a0 1) fun us => yaA .i64 a5 (Addr.add a0 2) fun ut => yaK a5 (Addr.add a0 3) fun tu => yaA .i64 a5 (Addr.add a0 4) fun uu => yaA .i64 a5 (Addr.add a0 5) fun uv => yaA .i64 a5 (Addr.add a0 6) fun uw => yaA .i64 a5 (Addr.add a0 7) fun ux => yaA .i64 a5 (Addr.add a0 8) fun uy => yaA .i64 a5 (Addr.add a0 9) fun uz => yaC a5 (Addr.add a0 10) fun su tl tc => yaK a5 (Addr.add a0 11) fun tv => yaK a5 (Addr.add a0 12) fun tw => yaA .i64 a5 (Addr.add a0 13) fun va => yaR a5 (Addr.add a0 14) fun ue => yaC a5 (Addr.add a0 15) fun sv tm td => ((.agg (Z0 ur us ut tu uu uv uw ux uy uz su tl tc tv tw va ue sv tm td)):Value) = (.agg (Z0 b9 c0 c1 b5 c2 c3 c4 c5 c6 c7 a9 b3 b1 b6 b7 c8 b8 b0 b4 b2))) ∧
 Calls pP 9 #[(.agg (Z0 b9 c0 c1 b5 c2 c3 c4 c5 c6 c7 a9 b3 b1 b6 b7 c8 b8 b0 b4 b2))] a5 fun e ls => ∃ px py kv pz jr qa qb qc qd qe qf ec hy gb js jt qg kw ed hz gc qh qi qj qk ee ia gd ef ib ge,e = .returned (.agg (Z1 px py kv pz jr qa qb qc qd qe qf ec hy gb js jt qg kw ed hz gc qh qi qj qk ee ia gd ef ib ge)) ∧ yaG [a7,d6] a5 ls ∧
 ∀ lt,Adv [d6,a7] [] ls lt →
 ybI yc5 ((ydI 395 [1,1,1,1,1]) (ydJ [1,1,1,1] [] R)) (yeT ((some ⟨d2,0,none⟩),2,2,d4,d3,d5,a7,pi,pj,kt,pk,jo,pl,pm,pn,po,pp,pq,dy,hu,fx,jp,jq,pr,ku,dz,hv,fy,ps,pu,pv,pw,ea,hw,fz,eb,hx,ga,d6,px,py,kv,pz,jr,qa,qb,qc,qd,qe,qf,ec,hy,gb,js,jt,qg,kw,ed,hz,gc,qh,qi,qj,qk,ee,ia,gd,ef,ib,ge)) lt))) ∧
 (
 ∀ a8,a1.heap.size ≤ a8 →
 ((
 ∀ af,Adv [] [a8] a1 af →
 Calls pP 9 #[(.agg (Z0 u4 u5 u6 u0 u7 u9 v0 v1 v2 v3 h4 h8 h6 u1 u2 v4 u3 h5 h9 h7))] af fun e a3 => ∃ bb bc z3 bd y8 be bf bg bh bi bj v9 y1 x3 y9 z0 bk z4 w0 y2 x4 bl bm bn bo w1 y3 x5 w2 y4 x6,e = .returned (.agg (Z1 bb bc z3 bd y8 be bf bg bh bi bj v9 y1 x3 y9 z0 bk z4 w0 y2 x4 bl bm bn bo w1 y3 x5 w2 y4 x6)) ∧ yaG [a8] af a3 ∧ (yaA .i64 a3 a0 fun vb => yaA .i64 a3 (Addr.add a0 1) fun vc => yaA .i64 a3 (Addr.add a0 2) fun vd => yaK a3 (Addr.add a0 3) fun tx => yaA .i64 a3 (Addr.add a0 4) fun ve => yaA .i64 a3 (Addr.add a0 5) fun vf => yaA .i64 a3 (Addr.add a0 6) fun vh => yaA .i64 a3 (Addr.add a0 7) fun vi => yaA .i64 a3 (Addr.add a0 8) fun vj => yaA .i64 a3 (Addr.add a0 9) fun vk => yaC a3 (Addr.add a0 10) fun sw tn te => yaK a3 (Addr.add a0 11) fun ty => yaK a3 (Addr.add a0 12) fun tz => yaA .i64 a3 (Addr.add a0 13) fun vl => yaR a3 (Addr.add a0 14) fun uf => yaC a3 (Addr.add a0 15) fun sx to tf => ((.agg (Z0 vb vc vd tx ve vf vh vi vj vk sw tn te ty tz vl uf sx to tf)):Value) = (.agg (Z0 b9 c0 c1 b5 c2 c3 c4 c5 c6 c7 a9 b3 b1 b6 b7 c8 b8 b0 b4 b2))) ∧
 ((
 Calls pP 9 #[(.agg (Z0 b9 c0 c1 b5 c2 c3 c4 c5 c6 c7 a9 b3 b1 b6 b7 c8 b8 b0 b4 b2))] a3 fun e ag => ∃ ql qm kx qn ju qo qp qq qr qs qt eg ic gf jv jw qu ky eh id gg qv qw qx qy ei ie gh ej ig gi,e = .returned (.agg (Z1 ql qm kx qn ju qo qp qq qr qs qt eg ic gf jv jw qu ky eh id gg qv qw qx qy ei ie gh ej ig gi)) ∧ yaG [a8] a3 ag ∧
 ∀ w8,ag.heap.size ≤ w8 →
 ∀ lu,Adv [a8] [w8] ag lu →
 ybI yc5 ((ydI 395 [1,1,1,1,1]) (ydJ [1,1,1,1] [] R)) (yeT ((some ⟨d2,0,none⟩),2,2,d4,d3,d5,w8,bb,bc,z3,bd,y8,be,bf,bg,bh,bi,bj,v9,y1,x3,y9,z0,bk,z4,w0,y2,x4,bl,bm,bn,bo,w1,y3,x5,w2,y4,x6,a8,ql,qm,kx,qn,ju,qo,qp,qq,qr,qs,qt,eg,ic,gf,jv,jw,qu,ky,eh,id,gg,qv,qw,qx,qy,ei,ie,gh,ej,ig,gi)) lu) ∧
 (
 ∀ h2,a3.heap.size ≤ h2 →
 ∀ ah,Adv [] [h2] a3 ah →
 Calls pP 9 #[(.agg (Z0 b9 c0 c1 b5 c2 c3 c4 c5 c6 c7 a9 b3 b1 b6 b7 c8 b8 b0 b4 b2))] ah fun e lv => ∃ qz ra kz rb jx rc rd re rf rg rh ek ih gj jy jz ri la el ii gk rj rk rl rm em ij gl en ik gm,e = .returned (.agg (Z1 qz ra kz rb jx rc rd re rf rg rh ek ih gj jy jz ri la el ii gk rj rk rl rm em ij gl en ik gm)) ∧ yaG [a8,h2] ah lv ∧
 ∀ lw,Adv [a8,h2] [] lv lw →
 ybI yc5 ((ydI 395 [1,1,1,1,1]) (ydJ [1,1,1,1] [] R)) (yeT ((some ⟨d2,0,none⟩),2,2,d4,d3,d5,h2,bb,bc,z3,bd,y8,be,bf,bg,bh,bi,bj,v9,y1,x3,y9,z0,bk,z4,w0,y2,x4,bl,bm,bn,bo,w1,y3,x5,w2,y4,x6,a8,qz,ra,kz,rb,jx,rc,rd,re,rf,rg,rh,ek,ih,gj,jy,jz,ri,la,el,ii,gk,rj,rk,rl,rm,em,ij,gl,en,ik,gm)) lw))) ∧
 (
 ∀ d7,a1.heap.size ≤ d7 →
 ∀ ai,Adv [] [d7,a8] a1 ai →
 Calls pP 9 #[(.agg (Z0 u4 u5 u6 u0 u7 u9 v0 v1 v2 v3 h4 h8 h6 u1 u2 v4 u3 h5 h9 h7))] ai fun e a6 => ∃ rn ro lc rp ka rq rr rs rt ru rv eo il gn kc kd rx le ep im go ry rz sa sb eq io gp er ip gq,e = .returned (.agg (Z1 rn ro lc rp ka rq rr rs rt ru rv eo il gn kc kd rx le ep im go ry rz sa sb eq io gp er ip gq)) ∧ yaG [a8,d7] ai a6 ∧ (yaA .i64 a6 a0 fun vm => yaA .i64 a6 (Addr.add a0 1) fun vn => yaA .i64 a6 (Addr.add a0 2) fun vo => yaK a6 (Addr.add a0 3) fun ua => yaA .i64 a6 (Addr.add a0 4) fun vp => yaA .i64 a6 (Addr.add a0 5) fun vq => yaA .i64 a6 (Addr.add a0 6) fun vr => yaA .i64 a6 (Addr.add a0 7) fun vs => yaA .i64 a6 (Addr.add a0 8) fun vt => yaA .i64 a6 (Addr.add a0 9) fun vu => yaC a6 (Addr.add a0 10) fun sy tp th => yaK a6 (Addr.add a0 11) fun ub => yaK a6 (Addr.add a0 12) fun uc => yaA .i64 a6 (Addr.add a0 13) fun vv => yaR a6 (Addr.add a0 14) fun ug => yaC a6 (Addr.add a0 15) fun sz tq ti => ((.agg (Z0 vm vn vo ua vp vq vr vs vt vu sy tp th ub uc vv ug sz tq ti)):Value) = (.agg (Z0 b9 c0 c1 b5 c2 c3 c4 c5 c6 c7 a9 b3 b1 b6 b7 c8 b8 b0 b4 b2))) ∧
 Calls pP 9 #[(.agg (Z0 b9 c0 c1 b5 c2 c3 c4 c5 c6 c7 a9 b3 b1 b6 b7 c8 b8 b0 b4 b2))] a6 fun e lx => ∃ sc sd lf se ke sf sg sh si sj sk et iq gr kf kg sl lg eu ir gs sm sn so sp ew it gt ex iu gu,e = .returned (.agg (Z1 sc sd lf se ke sf sg sh si sj sk et iq gr kf kg sl lg eu ir gs sm sn so sp ew it gt ex iu gu)) ∧ yaG [a8,d7] a6 lx ∧
 ∀ ly,Adv [a8,d7] [] lx ly →
 ybI yc5 ((ydI 395 [1,1,1,1,1]) (ydJ [1,1,1,1] [] R)) (yeT ((some ⟨d2,0,none⟩),2,2,d4,d3,d5,d7,rn,ro,lc,rp,ka,rq,rr,rs,rt,ru,rv,eo,il,gn,kc,kd,rx,le,ep,im,go,ry,rz,sa,sb,eq,io,gp,er,ip,gq,a8,sc,sd,lf,se,ke,sf,sg,sh,si,sj,sk,et,iq,gr,kf,kg,sl,lg,eu,ir,gs,sm,sn,so,sp,ew,it,gt,ex,iu,gu)) ly))))))))) :
 CR pP 14 #[] w R :=
 yaB Tryz.wide_mixed (an:=yxF) Tryz.func14 rfl rfl (by kernel_rfl) rfl (Eq.mpr (by kernel_rfl) h)
end
theorem yf4 {w:World} {a:Addr} {q:HV} {F:Int → Int → Int → Int → Option Addr → Nat → Nat → Option Addr → Nat → Nat → Prop} (h:∀ j v,q.cs[j]? = some v → w.cell? (a.add j) = some v) (hF:F q.x.e q.x.off q.x.n q.x.gen q.f.a q.f.n q.f.c q.p.a q.p.n q.p.c) :
  yaA .i64 w a fun x0 => yaA .i64 w (a.add 1) fun x1 => yaA .i64 w (a.add 2) fun x2 => yaA .i64 w (a.add 3) fun x3 => yaC w (a.add 4) fun a4 n4 c4 => yaC w (a.add 5) fun a5 n5 c5 => F x0 x1 x2 x3 a4 n4 c4 a5 n5 c5 :=
 yaI (x:=q.x.e) (by simpa [add_zero] using h 0 _ rfl) (yaI (h 1 _ rfl) (yaI (h 2 _ rfl) (yaI (h 3 _ rfl) (yaT (h 4 _ rfl) (yaT (h 5 _ rfl) hF)))))
theorem yLS (w:World):EvAt w fA ∧ s64 fA.x.c:=⟨yg6 (yg5 w),by unfold s64; decide⟩
theorem yLT (w:World):EvAt w fB ∧ s64 fB.x.c:=⟨yg6 (yg5 w),by unfold s64; decide⟩
theorem yLU (w:World):EvAt w fX ∧ s64 fX.x.c:=⟨ylH (yp9 w 0),by unfold s64; decide⟩
theorem yLV (w:World):EvAt w fY ∧ s64 fY.x.c:=⟨ylH (yp9 w 1),by unfold s64; decide⟩
theorem yLW (w:World):EvAt w fZ ∧ s64 fZ.x.c:=⟨ylH (yp9 w 1),by unfold s64; decide⟩
theorem yqA:∀ q ∈ fxC,q.op = yk1:=by
 intro q hq
 simp [fxC] at hq
 rcases hq with rfl | rfl <;> rfl
theorem yjT {w1:World} {s:Sl} {b n:Nat} {evs:List EV} {x:Int} (room:Int) (hC:ybV w1 s fxC) (h:w1.heap[b]? = some (.cells (evs.flatMap EV.cs).toArray 46)) (hn:evs.length = n) (hle:n ≤ 1000) (hE:∀ q ∈ evs,EvAt w1 q ∧ s64 q.x.c)
  (hx:ycC (if 1 ≤ room ∧ room ≤ 64 then 0 else 1) fxC fxR (evs.map (·.x)) = x):Calls pP 11 #[.int .i64 room,.slice s.a s.n s.c,.slice (some ⟨b,0,none⟩) n n] w1 fun e w2 => e = .returned (.int .i64 x) ∧ Mod [] w1 w2:=by
 subst hn
 refine (yw8 (t:=⟨some ⟨b,0,none⟩,evs.length,evs.length⟩) room hC (by decide) yqA (ybD.flatB EV.cs_len h) hE (by omega)).mono ?_
 rintro _ w2 ⟨rfl,M⟩
 exact ⟨by rw [← hx]; rfl,M⟩
set_option maxHeartbeats 2000000 in
theorem yMK {w0 w:World} {s sr:Sl} {m0 m1 m2 m3:Nat} {eA eB eX eY:EV} {q0 q1:CV} (hA:eA = fA) (hB:eB = fB) (hX:eX = fX) (hY:eY = fY) (h0:q0 = ygC 1 1) (h1:q1 = ygC 2 1) (N:Mod [] w0 w) (hS:ybD w 16 CV.cs s.a s.n [q0,q1]) (hR:ybD w 6 HV.cs sr.a sr.n (yfL 2)) :
  yxH s.a s.n s.c sr.a sr.n sr.c m0 eA.x.c eA.x.n eA.x.a eA.x.op.kind eA.x.op.part.t eA.x.op.part.n eA.x.op.n eA.x.op.off eA.x.op.b.prod eA.x.op.b.epoch eA.x.op.b.seq eA.rs.a eA.rs.n eA.rs.c eA.x.op.g eA.x.op.m eA.x.op.gen eA.x.op.robin eA.ts.a eA.ts.n eA.ts.c eA.x.r.e eA.x.r.off eA.x.r.n eA.x.r.gen eA.f.a eA.f.n eA.f.c eA.p.a eA.p.n eA.p.c m1 eB.x.c eB.x.n eB.x.a eB.x.op.kind eB.x.op.part.t eB.x.op.part.n eB.x.op.n eB.x.op.off eB.x.op.b.prod eB.x.op.b.epoch eB.x.op.b.seq eB.rs.a eB.rs.n eB.rs.c eB.x.op.g eB.x.op.m eB.x.op.gen eB.x.op.robin eB.ts.a eB.ts.n eB.ts.c eB.x.r.e eB.x.r.off eB.x.r.n eB.x.r.gen eB.f.a eB.f.n eB.f.c eB.p.a eB.p.n eB.p.c m2 eX.x.c eX.x.n eX.x.a eX.x.op.kind eX.x.op.part.t eX.x.op.part.n eX.x.op.n eX.x.op.off eX.x.op.b.prod eX.x.op.b.epoch eX.x.op.b.seq eX.rs.a eX.rs.n eX.rs.c eX.x.op.g eX.x.op.m eX.x.op.gen eX.x.op.robin eX.ts.a eX.ts.n eX.ts.c eX.x.r.e eX.x.r.off eX.x.r.n eX.x.r.gen eX.f.a eX.f.n eX.f.c eX.p.a eX.p.n eX.p.c m3 eY.x.c eY.x.n eY.x.a eY.x.op.kind eY.x.op.part.t eY.x.op.part.n eY.x.op.n eY.x.op.off eY.x.op.b.prod eY.x.op.b.epoch eY.x.op.b.seq eY.rs.a eY.rs.n eY.rs.c eY.x.op.g eY.x.op.m eY.x.op.gen eY.x.op.robin eY.ts.a eY.ts.n eY.ts.c eY.x.r.e eY.x.r.off eY.x.r.n eY.x.r.gen eY.f.a eY.f.n eY.f.c eY.p.a eY.p.n eY.p.c (fun v w' => v = .bool true ∧ Mod [] w0 w') w:=by
 have hC:ybV w s fxC:=⟨[q0,q1],hS,fun q hq => by simp at hq; rcases hq with rfl | rfl <;> simp only [h0,h1] <;> exact yg5 w,by simp [h0,h1]; rfl⟩
 have qA:∀ w',EvAt w' eA ∧ s64 eA.x.c:=fun w' => by rw [hA]; exact yLS w'
 have qB:∀ w',EvAt w' eB ∧ s64 eB.x.c:=fun w' => by rw [hB]; exact yLT w'
 have qX:∀ w',EvAt w' eX ∧ s64 eX.x.c:=fun w' => by rw [hX]; exact yLU w'
 have qY:∀ w',EvAt w' eY ∧ s64 eY.x.c:=fun w' => by rw [hY]; exact yLV w'
 refine (yjS hC (by decide) yqA 0).mono ?_
 rintro _ w1 ⟨_,rfl,s',rfl,M1,_⟩
 refine ⟨_,_,_,_,rfl,yaG.of0 M1,?_⟩
 have K:=M1
 refine (hR.keep0 K).ixW (i:=1) (x:=yd3 1) rfl fun ad had => ?_
 intro w2 A2
 have K:=K.go0 A2.mod (by simp)
 refine yaI (x:=(yd3 1).x.off) (had _ A2.mod 1 _ rfl) (brT (by decide) ?_)
 refine ybH fun b w3 c3 M3 f3 => ?_
 have K:=K.go0 M3 (by simp)
 refine (yjT (evs:=[eA,eX,eB,eY]) (x:=-1) 4 (hC.keep0 K) c3 rfl (by simp) (fun q hq => ?_) ?_).mono ?_
 ·simp only [List.mem_cons,List.not_mem_nil,or_false] at hq
  rcases hq with rfl | rfl | rfl | rfl <;> first | exact qA _ | exact qB _ | exact qX _ | exact qY _
 ·simp only [hA,hB,hX,hY]; exact fx1
 rintro _ w4 ⟨rfl,M4⟩
 have K:=K.go0 M4 (by simp)
 refine ⟨_,rfl,yaG.of0 M4,brT (by decide) ?_⟩
 refine ybH fun b w3 c3 M3 f3 => ?_
 have K:=K.go0 M3 (by simp)
 refine (yjT (evs:=[eX]) (x:=0) 4 (hC.keep0 K) c3 rfl (by simp) (fun q hq => ?_) ?_).mono ?_
 ·simp only [List.mem_cons,List.not_mem_nil,or_false] at hq
  rcases hq with rfl <;> first | exact qX _
 ·simp only [hX]; exact fx2
 rintro _ w4 ⟨rfl,M4⟩
 have K:=K.go0 M4 (by simp)
 refine ⟨_,rfl,yaG.of0 M4,brT (by decide) ?_⟩
 refine ybH fun b w3 c3 M3 f3 => ?_
 have K:=K.go0 M3 (by simp)
 refine (yjT (evs:=[eB,eY,eA,eX]) (x:=3) 4 (hC.keep0 K) c3 rfl (by simp) (fun q hq => ?_) ?_).mono ?_
 ·simp only [List.mem_cons,List.not_mem_nil,or_false] at hq
  rcases hq with rfl | rfl | rfl | rfl <;> first | exact qA _ | exact qB _ | exact qX _ | exact qY _
 ·simp only [hA,hB,hX,hY]; exact fx3
 rintro _ w4 ⟨rfl,M4⟩
 have K:=K.go0 M4 (by simp)
 refine ⟨_,rfl,yaG.of0 M4,brT (by decide) ?_⟩
 refine ybH fun b w3 c3 M3 f3 => ?_
 have K:=K.go0 M3 (by simp)
 refine (yjT (evs:=[eA,eB,eY,eX]) (x:=-1) 4 (hC.keep0 K) c3 rfl (by simp) (fun q hq => ?_) ?_).mono ?_
 ·simp only [List.mem_cons,List.not_mem_nil,or_false] at hq
  rcases hq with rfl | rfl | rfl | rfl <;> first | exact qA _ | exact qB _ | exact qX _ | exact qY _
 ·simp only [hA,hB,hX,hY]; exact fx4
 rintro _ w4 ⟨rfl,M4⟩
 have K:=K.go0 M4 (by simp)
 refine ⟨_,rfl,yaG.of0 M4,brT (by decide) ?_⟩
 refine (hS.keep0 K).ix (i:=0) (x:=q0) rfl fun ad0 had0 => ybB had0 ?_
 refine (hR.keep0 K).ix (i:=1) (x:=yd3 1) rfl fun ad1 had1 => yf4 had1 ?_
 refine (ybY q0 (yd3 1) _).mono ?_
 rintro _ w4 ⟨rfl,M4⟩
 have K:=K.go0 M4 (by simp)
 refine ⟨_,_,_,_,_,_,_,_,_,_,_,_,_,_,_,_,_,_,_,_,_,_,_,_,_,_,_,_,_,_,_,rfl,yaG.of0 M4,And.intro rfl ?_⟩
 obtain ⟨eZ,hZ⟩:∃ e,e = ya7 q0 (yd3 1):=⟨_,rfl⟩
 have hZ':eZ = fZ:=by rw [hZ,h0]; rfl
 have qZ:∀ w',EvAt w' eZ ∧ s64 eZ.x.c:=fun w' => by rw [hZ']; exact yLW w'
 refine ybH fun b w3 c3 M3 f3 => ?_
 have K:=K.go0 M3 (by simp)
 refine (yjT (evs:=[eA,eZ]) (x:=1) 4 (hC.keep0 K) (by rw [hZ]; exact c3) rfl (by simp) (fun q hq => ?_) ?_).mono ?_
 ·simp only [List.mem_cons,List.not_mem_nil,or_false] at hq
  rcases hq with rfl | rfl
  ·exact qA _
  ·exact qZ _
 ·simp only [hA,hZ']; exact fx5
 rintro _ w4 ⟨rfl,M4⟩
 have K:=K.go0 M4 (by simp)
 refine ⟨_,rfl,yaG.of0 M4,brT (by decide) ?_⟩
 refine ybH fun b w3 c3 M3 f3 => ?_
 have K:=K.go0 M3 (by simp)
 refine (yjT (evs:=[eA]) (x:=0) 0 (hC.keep0 K) c3 rfl (by simp) (fun q hq => ?_) ?_).mono ?_
 ·simp only [List.mem_cons,List.not_mem_nil,or_false] at hq
  rcases hq with rfl <;> first | exact qA _
 ·simp only [hA]; exact fx6
 rintro _ w4 ⟨rfl,M4⟩
 have K:=K.go0 M4 (by simp)
 refine ⟨_,rfl,yaG.of0 M4,brT (by decide) ?_⟩
 refine (yw8 (s:=ybM) (t:=ybM) (calls:=[]) (evs:=[]) 4 ⟨[],⟨rfl,by simp⟩,by simp,rfl⟩ (by decide) (by simp) ⟨rfl,by simp⟩ (by simp) (by simp)).mono ?_
 rintro _ w4 ⟨rfl,M4⟩
 have K:=K.go0 M4 (by simp)
 refine ⟨_,rfl,yaG.of0 M4,brT (by decide +kernel) ?_⟩
 refine brT (by decide) ?_
 refine (yp5 (hC.keep0 K) (by decide) 2 1).mono ?_
 rw [fx8]
 rintro _ w4 ⟨rfl,M4⟩
 have K:=K.go0 M4 (by simp)
 refine ⟨_,rfl,yaG.of0 M4,brT (by decide) ?_⟩
 refine (yp5 (hC.keep0 K) (by decide) 2 2).mono ?_
 rw [fx9]
 rintro _ w5 ⟨rfl,M5⟩
 have K:=K.go0 M5 (by simp)
 refine ⟨_,rfl,yaG.of0 M5,brT (by decide) ?_⟩
 refine (hS.keep0 K).ixW (i:=1) (x:=q1) rfl fun adl hadl => ybB (hadl _ (Mod.refl _)) ?_
 obtain ⟨wl,hwl⟩:∃ wl,wl = w5:=⟨_,rfl⟩
 rw [← hwl]
 have KL:=K
 rw [← hwl] at KL hadl
 have L:Mod [] wl wl:=Mod.refl wl
 have opn:∀ {w':World} {b:Nat},w'.heap[b]? = some (.cells ([eA,eB,eX].flatMap EV.cs).toArray 46) → Calls pP 12 #[.slice (some ⟨b,0,none⟩) 3 3] w' fun e w'' => ∃ v,e = .returned v ∧ ∃ s':Sl,v = .slice s'.a s'.n s'.c ∧ ybV w'' s' [ynP 2 1] ∧ Mod [] w' w'':=fun {w' b} h => by
  refine (yB0 (t:=⟨some ⟨b,0,none⟩,3,3⟩) (evs:=[eA,eB,eX]) (ybD.flatB (l:=[eA,eB,eX]) EV.cs_len h) (fun q hq => ?_) (by simp)).mono ?_
  ·simp only [List.mem_cons,List.not_mem_nil,or_false] at hq
   rcases hq with rfl | rfl | rfl
   ·exact ⟨(qA _).1.op,(qA w').2⟩
   ·exact ⟨(qB _).1.op,(qB w').2⟩
   ·exact ⟨(qX _).1.op,(qX w').2⟩
  ·rintro _ w'' ⟨v,rfl,s',out,rfl,h1,h2,_,M⟩
   have e:([eA,eB,eX].map (·.x)) = [fA.x,fB.x,fX.x]:=by simp [hA,hB,hX]
   rw [e,yMI] at h2
   have h2:=List.perm_singleton.1 h2
   subst h2
   exact ⟨_,rfl,s',rfl,h1.at,M⟩
 have one:∀ {w':World} {b:Nat},w'.heap[b]? = some (.cells ([q1].flatMap CV.cs).toArray 35) → ybV w' ⟨some ⟨b,0,none⟩,1,1⟩ [ynP 2 1]:=fun {w' b} h =>
  ⟨[q1],ybD.flatB (l:=[q1]) CV.cs_len h,fun q hq => by simp at hq; subst hq; rw [h1]; exact yg5 w',by simp [h1]; rfl⟩
 have two:∀ {w':World} {b:Nat},w'.heap[b]? = some (.cells ([q0,q0].flatMap CV.cs).toArray 35) → ybV w' ⟨some ⟨b,0,none⟩,2,2⟩ [ynP 1 1,ynP 1 1]:=fun {w' b} h =>
  ⟨[q0,q0],ybD.flatB (l:=[q0,q0]) CV.cs_len h,fun q hq => by simp at hq; subst hq; rw [h0]; exact yg5 w',by simp [h0]; rfl⟩
 refine And.intro ?_ ?_
 ·refine ybH fun ba wa ca Ma fa => ?_
  have L:=L.go0 Ma (by simp)
  refine And.intro ?_ ?_
  ·refine (opn ca).mono ?_
   rintro _ w6 ⟨_,rfl,s6,rfl,hO,M6⟩
   have L:=L.go0 M6 (by simp)
   refine ⟨_,_,_,rfl,yaG.of0 M6,And.intro (ybB (hadl _ L) rfl) ?_⟩
   refine ybH fun bl wb cb Mb fb => ?_
   have L:=L.go0 Mb (by simp)
   have hO:=hO.keep0 Mb
   have hl:=one cb
   refine (ymI hO hl (by decide)).mono ?_
   rintro _ w7 ⟨rfl,M7⟩
   have L:=L.go0 M7 (by simp)
   refine ⟨_,rfl,yaG.of0 M7,brT (by decide) ?_⟩
   refine (yf3 (hC.keep0 (KL.go0 L (by simp))) (by decide) (by intro q hq; simp [fxC] at hq; rcases hq with rfl | rfl <;> (unfold s64; decide))).mono ?_
   rw [yLQ]
   rintro _ w8 ⟨rfl,M8⟩
   have L:=L.go0 M8 (by simp)
   refine ⟨_,rfl,yaG.of0 M8,brT rfl ?_⟩
   refine (hS.keep0 (KL.go0 L (by simp))).ix (i:=0) (x:=q0) rfl fun ad0 had0 => ybB had0 ?_
   refine (hS.keep0 (KL.go0 L (by simp))).ix (i:=0) (x:=q0) rfl fun ad1 had1 => ybB had1 ?_
   refine ybH fun bo wo co Mo fo => ?_
   have L:=L.go0 Mo (by simp)
   refine (yf3 (s:=⟨some ⟨bo,0,none⟩,2,2⟩) (two co) (by decide) (by intro q hq; simp at hq; subst hq; unfold s64; decide)).mono ?_
   rw [yLR]
   rintro _ w9 ⟨rfl,M9⟩
   have L:=L.go0 M9 (by simp)
   exact ⟨_,rfl,yaG.of0 M9,rfl,N.go0 (KL.go0 L (by simp)) (by simp)⟩
  ·refine ybH fun bl wb cb Mb fb => ?_
   have L:=L.go0 Mb (by simp)
   have ca:=Mb.keep0 ca
   have hl:=one cb
   refine (opn ca).mono ?_
   rintro _ w6 ⟨_,rfl,s6,rfl,hO,M6⟩
   have L:=L.go0 M6 (by simp)
   refine ⟨_,_,_,rfl,yaG.of0 M6,And.intro (ybB (hadl _ L) rfl) ?_⟩
   have hl:=hl.keep0 M6
   refine (ymI hO hl (by decide)).mono ?_
   rintro _ w7 ⟨rfl,M7⟩
   have L:=L.go0 M7 (by simp)
   refine ⟨_,rfl,yaG.of0 M7,brT (by decide) ?_⟩
   refine (yf3 (hC.keep0 (KL.go0 L (by simp))) (by decide) (by intro q hq; simp [fxC] at hq; rcases hq with rfl | rfl <;> (unfold s64; decide))).mono ?_
   rw [yLQ]
   rintro _ w8 ⟨rfl,M8⟩
   have L:=L.go0 M8 (by simp)
   refine ⟨_,rfl,yaG.of0 M8,brT rfl ?_⟩
   refine (hS.keep0 (KL.go0 L (by simp))).ix (i:=0) (x:=q0) rfl fun ad0 had0 => ybB had0 ?_
   refine (hS.keep0 (KL.go0 L (by simp))).ix (i:=0) (x:=q0) rfl fun ad1 had1 => ybB had1 ?_
   refine ybH fun bo wo co Mo fo => ?_
   have L:=L.go0 Mo (by simp)
   refine (yf3 (s:=⟨some ⟨bo,0,none⟩,2,2⟩) (two co) (by decide) (by intro q hq; simp at hq; subst hq; unfold s64; decide)).mono ?_
   rw [yLR]
   rintro _ w9 ⟨rfl,M9⟩
   have L:=L.go0 M9 (by simp)
   exact ⟨_,rfl,yaG.of0 M9,rfl,N.go0 (KL.go0 L (by simp)) (by simp)⟩
 ·refine ybH fun bl wb cb Mb fb => ?_
  have L:=L.go0 Mb (by simp)
  have hl:=one cb
  refine ybH fun ba wa ca Ma fa => ?_
  have L:=L.go0 Ma (by simp)
  have hl:=hl.keep0 Ma
  refine (opn ca).mono ?_
  rintro _ w6 ⟨_,rfl,s6,rfl,hO,M6⟩
  have L:=L.go0 M6 (by simp)
  refine ⟨_,_,_,rfl,yaG.of0 M6,And.intro (ybB (hadl _ L) rfl) ?_⟩
  have hl:=hl.keep0 M6
  refine (ymI hO hl (by decide)).mono ?_
  rintro _ w7 ⟨rfl,M7⟩
  have L:=L.go0 M7 (by simp)
  refine ⟨_,rfl,yaG.of0 M7,brT (by decide) ?_⟩
  refine (yf3 (hC.keep0 (KL.go0 L (by simp))) (by decide) (by intro q hq; simp [fxC] at hq; rcases hq with rfl | rfl <;> (unfold s64; decide))).mono ?_
  rw [yLQ]
  rintro _ w8 ⟨rfl,M8⟩
  have L:=L.go0 M8 (by simp)
  refine ⟨_,rfl,yaG.of0 M8,brT rfl ?_⟩
  refine (hS.keep0 (KL.go0 L (by simp))).ix (i:=0) (x:=q0) rfl fun ad0 had0 => ybB had0 ?_
  refine (hS.keep0 (KL.go0 L (by simp))).ix (i:=0) (x:=q0) rfl fun ad1 had1 => ybB had1 ?_
  refine ybH fun bo wo co Mo fo => ?_
  have L:=L.go0 Mo (by simp)
  refine (yf3 (s:=⟨some ⟨bo,0,none⟩,2,2⟩) (two co) (by decide) (by intro q hq; simp at hq; subst hq; unfold s64; decide)).mono ?_
  rw [yLR]
  rintro _ w9 ⟨rfl,M9⟩
  have L:=L.go0 M9 (by simp)
  exact ⟨_,rfl,yaG.of0 M9,rfl,N.go0 (KL.go0 L (by simp)) (by simp)⟩
set_option maxRecDepth 100000 in
set_option maxHeartbeats 600000 in
theorem yML {w0 w:World} {s sr:Sl} {m0 m1:Nat} {eA eB:EV} {q0 q1:CV} {r0 r1:HV} (hA:eA = fA) (hB:eB = fB) (h0:q0 = ygC 1 1) (h1:q1 = ygC 2 1) (hr0:r0 = yd3 0) (hr1:r1 = yd3 1) (N:Mod [] w0 w) (hS:ybD w 16 CV.cs s.a s.n [q0,q1]) (hR:ybD w 6 HV.cs sr.a sr.n [r0,r1]) :
  yxG s.a s.n s.c sr.a sr.n sr.c m0 eA.x.c eA.x.n eA.x.a eA.x.op.kind eA.x.op.part.t eA.x.op.part.n eA.x.op.n eA.x.op.off eA.x.op.b.prod eA.x.op.b.epoch eA.x.op.b.seq eA.rs.a eA.rs.n eA.rs.c eA.x.op.g eA.x.op.m eA.x.op.gen eA.x.op.robin eA.ts.a eA.ts.n eA.ts.c eA.x.r.e eA.x.r.off eA.x.r.n eA.x.r.gen eA.f.a eA.f.n eA.f.c eA.p.a eA.p.n eA.p.c m1 eB.x.c eB.x.n eB.x.a eB.x.op.kind eB.x.op.part.t eB.x.op.part.n eB.x.op.n eB.x.op.off eB.x.op.b.prod eB.x.op.b.epoch eB.x.op.b.seq eB.rs.a eB.rs.n eB.rs.c eB.x.op.g eB.x.op.m eB.x.op.gen eB.x.op.robin eB.ts.a eB.ts.n eB.ts.c eB.x.r.e eB.x.r.off eB.x.r.n eB.x.r.gen eB.f.a eB.f.n eB.f.c eB.p.a eB.p.n eB.p.c (fun v w' => v = .bool true ∧ Mod [] w0 w') w:=by
 refine hS.ixW (i:=0) (x:=q0) rfl fun a0 ha0 => ?_
 intro w1 A1
 have N:=N.go0 A1.mod (by simp)
 refine ybB (ha0 _ A1.mod) ?_
 have hS1:=hS.keep0 A1.mod
 have hR1:=hR.keep0 A1.mod
 clear hS hR
 refine hR1.ixW (i:=0) (x:=r0) rfl fun a1 ha1 => yf4 (ha1 _ (Mod.refl _)) ?_
 refine hS1.ixW (i:=1) (x:=q1) rfl fun a2 ha2 => ybB (ha2 _ (Mod.refl _)) ?_
 refine hR1.ixW (i:=1) (x:=r1) rfl fun a3 ha3 => yf4 (ha3 _ (Mod.refl _)) ?_
 have leaf:∀ {w':World} {b1 b2:Nat},Mod [] w1 w' → yxH s.a s.n s.c sr.a sr.n sr.c m0 eA.x.c eA.x.n eA.x.a eA.x.op.kind eA.x.op.part.t eA.x.op.part.n eA.x.op.n eA.x.op.off eA.x.op.b.prod eA.x.op.b.epoch eA.x.op.b.seq eA.rs.a eA.rs.n eA.rs.c eA.x.op.g eA.x.op.m eA.x.op.gen eA.x.op.robin eA.ts.a eA.ts.n eA.ts.c eA.x.r.e eA.x.r.off eA.x.r.n eA.x.r.gen eA.f.a eA.f.n eA.f.c eA.p.a eA.p.n eA.p.c m1 eB.x.c eB.x.n eB.x.a eB.x.op.kind eB.x.op.part.t eB.x.op.part.n eB.x.op.n eB.x.op.off eB.x.op.b.prod eB.x.op.b.epoch eB.x.op.b.seq eB.rs.a eB.rs.n eB.rs.c eB.x.op.g eB.x.op.m eB.x.op.gen eB.x.op.robin eB.ts.a eB.ts.n eB.ts.c eB.x.r.e eB.x.r.off eB.x.r.n eB.x.r.gen eB.f.a eB.f.n eB.f.c eB.p.a eB.p.n eB.p.c b1 (ya7 q0 r0).x.c (ya7 q0 r0).x.n (ya7 q0 r0).x.a (ya7 q0 r0).x.op.kind (ya7 q0 r0).x.op.part.t (ya7 q0 r0).x.op.part.n (ya7 q0 r0).x.op.n (ya7 q0 r0).x.op.off (ya7 q0 r0).x.op.b.prod (ya7 q0 r0).x.op.b.epoch (ya7 q0 r0).x.op.b.seq (ya7 q0 r0).rs.a (ya7 q0 r0).rs.n (ya7 q0 r0).rs.c (ya7 q0 r0).x.op.g (ya7 q0 r0).x.op.m (ya7 q0 r0).x.op.gen (ya7 q0 r0).x.op.robin (ya7 q0 r0).ts.a (ya7 q0 r0).ts.n (ya7 q0 r0).ts.c (ya7 q0 r0).x.r.e (ya7 q0 r0).x.r.off (ya7 q0 r0).x.r.n (ya7 q0 r0).x.r.gen (ya7 q0 r0).f.a (ya7 q0 r0).f.n (ya7 q0 r0).f.c (ya7 q0 r0).p.a (ya7 q0 r0).p.n (ya7 q0 r0).p.c b2 (ya7 q1 r1).x.c (ya7 q1 r1).x.n (ya7 q1 r1).x.a (ya7 q1 r1).x.op.kind (ya7 q1 r1).x.op.part.t (ya7 q1 r1).x.op.part.n (ya7 q1 r1).x.op.n (ya7 q1 r1).x.op.off (ya7 q1 r1).x.op.b.prod (ya7 q1 r1).x.op.b.epoch (ya7 q1 r1).x.op.b.seq (ya7 q1 r1).rs.a (ya7 q1 r1).rs.n (ya7 q1 r1).rs.c (ya7 q1 r1).x.op.g (ya7 q1 r1).x.op.m (ya7 q1 r1).x.op.gen (ya7 q1 r1).x.op.robin (ya7 q1 r1).ts.a (ya7 q1 r1).ts.n (ya7 q1 r1).ts.c (ya7 q1 r1).x.r.e (ya7 q1 r1).x.r.off (ya7 q1 r1).x.r.n (ya7 q1 r1).x.r.gen (ya7 q1 r1).f.a (ya7 q1 r1).f.n (ya7 q1 r1).f.c (ya7 q1 r1).p.a (ya7 q1 r1).p.n (ya7 q1 r1).p.c (fun v w' => v = .bool true ∧ Mod [] w0 w') w':=fun {w' b1 b2} M =>
  yMK hA hB (by rw [h0,hr0]; rfl) (by rw [h1,hr1]; rfl) h0 h1 (N.go0 M (by simp)) (hS1.keep0 M) (by have:=hR1.keep0 M; rw [hr0,hr1] at this; exact this)
 have L:Mod [] w1 w1:=Mod.refl w1
 refine And.intro ?_ ?_
 ·refine (ybY q0 r0 _).mono ?_
  rintro _ w' ⟨rfl,M⟩
  have L:=L.go0 M (by simp)
  refine ⟨_,_,_,_,_,_,_,_,_,_,_,_,_,_,_,_,_,_,_,_,_,_,_,_,_,_,_,_,_,_,_,rfl,yaG.of0 M,And.intro (yf4 (ha3 _ L) rfl) (And.intro (ybB (ha2 _ L) rfl) ?_)⟩
  refine And.intro ?_ ?_
  ·refine (ybY q1 r1 _).mono ?_
   rintro _ w' ⟨rfl,M⟩
   have L:=L.go0 M (by simp)
   refine ⟨_,_,_,_,_,_,_,_,_,_,_,_,_,_,_,_,_,_,_,_,_,_,_,_,_,_,_,_,_,_,_,rfl,yaG.of0 M,?_⟩
   refine And.intro ?_ ?_
   ·intro b f
    have f:=Nat.le_trans L.size f
    intro b f
    have f:=Nat.le_trans L.size f
    intro w' A
    have L:=L.go0 A.mod (by first | (simp; done) | (simp; omega))
    exact yeB (leaf L)
   ·intro b f
    have f:=Nat.le_trans L.size f
    intro b f
    have f:=Nat.le_trans L.size f
    intro w' A
    have L:=L.go0 A.mod (by first | (simp; done) | (simp; omega))
    exact yeB (leaf L)
  ·refine And.intro ?_ ?_
   ·intro b f
    have f:=Nat.le_trans L.size f
    refine And.intro ?_ ?_
    ·intro w' A
     have L:=L.go0 A.mod (by first | (simp; done) | (simp; omega))
     refine (ybY q1 r1 _).mono ?_
     rintro _ w' ⟨rfl,M⟩
     have L:=L.go0 M (by simp)
     refine ⟨_,_,_,_,_,_,_,_,_,_,_,_,_,_,_,_,_,_,_,_,_,_,_,_,_,_,_,_,_,_,_,rfl,yaG.of0 M,?_⟩
     intro b f
     have f:=Nat.le_trans L.size f
     intro w' A
     have L:=L.go0 A.mod (by first | (simp; done) | (simp; omega))
     exact yeB (leaf L)
    ·intro b f
     have f:=Nat.le_trans L.size f
     intro w' A
     have L:=L.go0 A.mod (by first | (simp; done) | (simp; omega))
     refine (ybY q1 r1 _).mono ?_
     rintro _ w' ⟨rfl,M⟩
     have L:=L.go0 M (by simp)
     refine ⟨_,_,_,_,_,_,_,_,_,_,_,_,_,_,_,_,_,_,_,_,_,_,_,_,_,_,_,_,_,_,_,rfl,yaG.of0 M,?_⟩
     intro w' A
     have L:=L.go0 A.mod (by first | (simp; done) | (simp; omega))
     exact yeB (leaf L)
   ·intro b f
    have f:=Nat.le_trans L.size f
    refine And.intro ?_ ?_
    ·intro w' A
     have L:=L.go0 A.mod (by first | (simp; done) | (simp; omega))
     refine (ybY q1 r1 _).mono ?_
     rintro _ w' ⟨rfl,M⟩
     have L:=L.go0 M (by simp)
     refine ⟨_,_,_,_,_,_,_,_,_,_,_,_,_,_,_,_,_,_,_,_,_,_,_,_,_,_,_,_,_,_,_,rfl,yaG.of0 M,?_⟩
     intro b f
     have f:=Nat.le_trans L.size f
     intro w' A
     have L:=L.go0 A.mod (by first | (simp; done) | (simp; omega))
     exact yeB (leaf L)
    ·intro b f
     have f:=Nat.le_trans L.size f
     intro w' A
     have L:=L.go0 A.mod (by first | (simp; done) | (simp; omega))
     refine (ybY q1 r1 _).mono ?_
     rintro _ w' ⟨rfl,M⟩
     have L:=L.go0 M (by simp)
     refine ⟨_,_,_,_,_,_,_,_,_,_,_,_,_,_,_,_,_,_,_,_,_,_,_,_,_,_,_,_,_,_,_,rfl,yaG.of0 M,?_⟩
     intro w' A
     have L:=L.go0 A.mod (by first | (simp; done) | (simp; omega))
     exact yeB (leaf L)
 ·refine And.intro ?_ ?_
  ·intro b f
   have f:=Nat.le_trans L.size f
   refine And.intro ?_ ?_
   ·intro w' A
    have L:=L.go0 A.mod (by first | (simp; done) | (simp; omega))
    refine (ybY q0 r0 _).mono ?_
    rintro _ w' ⟨rfl,M⟩
    have L:=L.go0 M (by simp)
    refine ⟨_,_,_,_,_,_,_,_,_,_,_,_,_,_,_,_,_,_,_,_,_,_,_,_,_,_,_,_,_,_,_,rfl,yaG.of0 M,And.intro (yf4 (ha3 _ L) rfl) (And.intro (ybB (ha2 _ L) rfl) ?_)⟩
    refine And.intro ?_ ?_
    ·refine (ybY q1 r1 _).mono ?_
     rintro _ w' ⟨rfl,M⟩
     have L:=L.go0 M (by simp)
     refine ⟨_,_,_,_,_,_,_,_,_,_,_,_,_,_,_,_,_,_,_,_,_,_,_,_,_,_,_,_,_,_,_,rfl,yaG.of0 M,?_⟩
     intro b f
     have f:=Nat.le_trans L.size f
     intro w' A
     have L:=L.go0 A.mod (by first | (simp; done) | (simp; omega))
     exact yeB (leaf L)
    ·intro b f
     have f:=Nat.le_trans L.size f
     intro w' A
     have L:=L.go0 A.mod (by first | (simp; done) | (simp; omega))
     refine (ybY q1 r1 _).mono ?_
     rintro _ w' ⟨rfl,M⟩
     have L:=L.go0 M (by simp)
     refine ⟨_,_,_,_,_,_,_,_,_,_,_,_,_,_,_,_,_,_,_,_,_,_,_,_,_,_,_,_,_,_,_,rfl,yaG.of0 M,?_⟩
     intro w' A
     have L:=L.go0 A.mod (by first | (simp; done) | (simp; omega))
     exact yeB (leaf L)
   ·intro b f
    have f:=Nat.le_trans L.size f
    intro w' A
    have L:=L.go0 A.mod (by first | (simp; done) | (simp; omega))
    refine (ybY q0 r0 _).mono ?_
    rintro _ w' ⟨rfl,M⟩
    have L:=L.go0 M (by simp)
    refine ⟨_,_,_,_,_,_,_,_,_,_,_,_,_,_,_,_,_,_,_,_,_,_,_,_,_,_,_,_,_,_,_,rfl,yaG.of0 M,And.intro (yf4 (ha3 _ L) rfl) (And.intro (ybB (ha2 _ L) rfl) ?_)⟩
    refine (ybY q1 r1 _).mono ?_
    rintro _ w' ⟨rfl,M⟩
    have L:=L.go0 M (by simp)
    refine ⟨_,_,_,_,_,_,_,_,_,_,_,_,_,_,_,_,_,_,_,_,_,_,_,_,_,_,_,_,_,_,_,rfl,yaG.of0 M,?_⟩
    intro w' A
    have L:=L.go0 A.mod (by first | (simp; done) | (simp; omega))
    exact yeB (leaf L)
  ·intro b f
   have f:=Nat.le_trans L.size f
   refine And.intro ?_ ?_
   ·intro w' A
    have L:=L.go0 A.mod (by first | (simp; done) | (simp; omega))
    refine (ybY q0 r0 _).mono ?_
    rintro _ w' ⟨rfl,M⟩
    have L:=L.go0 M (by simp)
    refine ⟨_,_,_,_,_,_,_,_,_,_,_,_,_,_,_,_,_,_,_,_,_,_,_,_,_,_,_,_,_,_,_,rfl,yaG.of0 M,And.intro (yf4 (ha3 _ L) rfl) (And.intro (ybB (ha2 _ L) rfl) ?_)⟩
    refine And.intro ?_ ?_
    ·refine (ybY q1 r1 _).mono ?_
     rintro _ w' ⟨rfl,M⟩
     have L:=L.go0 M (by simp)
     refine ⟨_,_,_,_,_,_,_,_,_,_,_,_,_,_,_,_,_,_,_,_,_,_,_,_,_,_,_,_,_,_,_,rfl,yaG.of0 M,?_⟩
     intro b f
     have f:=Nat.le_trans L.size f
     intro w' A
     have L:=L.go0 A.mod (by first | (simp; done) | (simp; omega))
     exact yeB (leaf L)
    ·intro b f
     have f:=Nat.le_trans L.size f
     intro w' A
     have L:=L.go0 A.mod (by first | (simp; done) | (simp; omega))
     refine (ybY q1 r1 _).mono ?_
     rintro _ w' ⟨rfl,M⟩
     have L:=L.go0 M (by simp)
     refine ⟨_,_,_,_,_,_,_,_,_,_,_,_,_,_,_,_,_,_,_,_,_,_,_,_,_,_,_,_,_,_,_,rfl,yaG.of0 M,?_⟩
     intro w' A
     have L:=L.go0 A.mod (by first | (simp; done) | (simp; omega))
     exact yeB (leaf L)
   ·intro b f
    have f:=Nat.le_trans L.size f
    intro w' A
    have L:=L.go0 A.mod (by first | (simp; done) | (simp; omega))
    refine (ybY q0 r0 _).mono ?_
    rintro _ w' ⟨rfl,M⟩
    have L:=L.go0 M (by simp)
    refine ⟨_,_,_,_,_,_,_,_,_,_,_,_,_,_,_,_,_,_,_,_,_,_,_,_,_,_,_,_,_,_,_,rfl,yaG.of0 M,And.intro (yf4 (ha3 _ L) rfl) (And.intro (ybB (ha2 _ L) rfl) ?_)⟩
    refine (ybY q1 r1 _).mono ?_
    rintro _ w' ⟨rfl,M⟩
    have L:=L.go0 M (by simp)
    refine ⟨_,_,_,_,_,_,_,_,_,_,_,_,_,_,_,_,_,_,_,_,_,_,_,_,_,_,_,_,_,_,_,rfl,yaG.of0 M,?_⟩
    intro w' A
    have L:=L.go0 A.mod (by first | (simp; done) | (simp; omega))
    exact yeB (leaf L)
set_option maxRecDepth 100000 in
set_option maxHeartbeats 600000 in
theorem yoW (w:World):Calls pP 14 #[] w fun e w' => e = .returned (.bool true) ∧ Mod [] w w':=by
 obtain ⟨q0,h0⟩:∃ q,q = ygC 1 1:=⟨_,rfl⟩
 obtain ⟨q1,h1⟩:∃ q,q = ygC 2 1:=⟨_,rfl⟩
 refine ya2 (yJ1 ?_)
 refine (yxE 1 1 w).mono ?_
 rw [← h0]
 rintro _ w1 ⟨rfl,M1⟩
 refine ⟨_,_,_,_,_,_,_,_,_,_,_,_,_,_,_,_,_,_,_,_,rfl,?_⟩
 refine (yxE 2 1 w1).mono ?_
 rw [← h1]
 rintro _ w2 ⟨rfl,M2⟩
 refine ⟨_,_,_,_,_,_,_,_,_,_,_,_,_,_,_,_,_,_,_,_,rfl,?_⟩
 have N:=M1.go0 M2 (by simp)
 refine ybH fun b w3 c3 M3 f3 => ?_
 have N:=N.go0 M3 (by simp)
 have hS:ybD w3 16 CV.cs (some ⟨b,0,none⟩) 2 [q0,q1]:=ybD.flatB (l:=[q0,q1]) CV.cs_len c3
 have hC:ybV w3 ⟨some ⟨b,0,none⟩,2,2⟩ fxC:=⟨[q0,q1],hS,fun q hq => by simp at hq; rcases hq with rfl | rfl <;> simp only [h0,h1] <;> exact yg5 w3,by simp [h0,h1]; rfl⟩
 refine (yjS hC (by decide) yqA 4).mono ?_
 rintro _ w4 ⟨_,rfl,sr,rfl,M4,hr⟩
 have hr:=(hr (by decide)).sl HV.cs_len
 have hn:sr.n = 2:=hr.1
 refine ⟨_,_,_,_,rfl,brF (by decide) (brF (by rw [hn]; decide) ?_)⟩
 have N:=N.go0 M4 (by simp)
 have hS4:=hS.keep0 M4
 obtain ⟨r0,hr0⟩:∃ q,q = yd3 0:=⟨_,rfl⟩
 obtain ⟨r1,hr1⟩:∃ q,q = yd3 1:=⟨_,rfl⟩
 have hR:ybD w4 6 HV.cs sr.a sr.n [r0,r1]:=by rw [hr0,hr1]; exact hr
 refine hS4.ixW (i:=0) (x:=q0) rfl fun a0 ha0 => ?_
 intro w5 A5
 have N:=N.go0 A5.mod (by simp)
 refine ybB (ha0 _ A5.mod) ?_
 have hS5:=hS4.keep0 A5.mod
 have hR5:=hR.keep0 A5.mod
 refine hS5.ixW (i:=1) (x:=q1) rfl fun a1 ha1 => ybB (ha1 _ (Mod.refl _)) ?_
 have leaf:∀ {w':World} {b1 b2:Nat},Mod [] w5 w' → yxG (some ⟨b,0,none⟩) 2 2 sr.a sr.n sr.c b1 (yaM q0).x.c (yaM q0).x.n (yaM q0).x.a (yaM q0).x.op.kind (yaM q0).x.op.part.t (yaM q0).x.op.part.n (yaM q0).x.op.n (yaM q0).x.op.off (yaM q0).x.op.b.prod (yaM q0).x.op.b.epoch (yaM q0).x.op.b.seq (yaM q0).rs.a (yaM q0).rs.n (yaM q0).rs.c (yaM q0).x.op.g (yaM q0).x.op.m (yaM q0).x.op.gen (yaM q0).x.op.robin (yaM q0).ts.a (yaM q0).ts.n (yaM q0).ts.c (yaM q0).x.r.e (yaM q0).x.r.off (yaM q0).x.r.n (yaM q0).x.r.gen (yaM q0).f.a (yaM q0).f.n (yaM q0).f.c (yaM q0).p.a (yaM q0).p.n (yaM q0).p.c b2 (yaM q1).x.c (yaM q1).x.n (yaM q1).x.a (yaM q1).x.op.kind (yaM q1).x.op.part.t (yaM q1).x.op.part.n (yaM q1).x.op.n (yaM q1).x.op.off (yaM q1).x.op.b.prod (yaM q1).x.op.b.epoch (yaM q1).x.op.b.seq (yaM q1).rs.a (yaM q1).rs.n (yaM q1).rs.c (yaM q1).x.op.g (yaM q1).x.op.m (yaM q1).x.op.gen (yaM q1).x.op.robin (yaM q1).ts.a (yaM q1).ts.n (yaM q1).ts.c (yaM q1).x.r.e (yaM q1).x.r.off (yaM q1).x.r.n (yaM q1).x.r.gen (yaM q1).f.a (yaM q1).f.n (yaM q1).f.c (yaM q1).p.a (yaM q1).p.n (yaM q1).p.c (fun v w' => v = .bool true ∧ Mod [] w w') w':=fun {w' b1 b2} M =>
  yML (s:=⟨some ⟨b,0,none⟩,2,2⟩) (by rw [h0]; rfl) (by rw [h1]; rfl) h0 h1 hr0 hr1 (N.go0 M (by simp)) (hS5.keep0 M) (hR5.keep0 M)
 have L:Mod [] w5 w5:=Mod.refl w5
 refine And.intro ?_ ?_
 ·refine (ybE q0 _).mono ?_
  rintro _ w' ⟨rfl,M⟩
  have L:=L.go0 M (by simp)
  refine ⟨_,_,_,_,_,_,_,_,_,_,_,_,_,_,_,_,_,_,_,_,_,_,_,_,_,_,_,_,_,_,_,rfl,And.intro (ybB (ha1 _ L) rfl) ?_⟩
  refine And.intro ?_ ?_
  ·refine (ybE q1 _).mono ?_
   rintro _ w' ⟨rfl,M⟩
   have L:=L.go0 M (by simp)
   refine ⟨_,_,_,_,_,_,_,_,_,_,_,_,_,_,_,_,_,_,_,_,_,_,_,_,_,_,_,_,_,_,_,rfl,?_⟩
   refine And.intro ?_ ?_
   ·intro b f
    have f:=Nat.le_trans L.size f
    intro b f
    have f:=Nat.le_trans L.size f
    intro w' A
    have L:=L.go0 A.mod (by first | (simp; done) | (simp; omega))
    exact yeA (leaf L)
   ·intro b f
    have f:=Nat.le_trans L.size f
    intro b f
    have f:=Nat.le_trans L.size f
    intro w' A
    have L:=L.go0 A.mod (by first | (simp; done) | (simp; omega))
    exact yeA (leaf L)
  ·refine And.intro ?_ ?_
   ·intro b f
    have f:=Nat.le_trans L.size f
    refine And.intro ?_ ?_
    ·intro w' A
     have L:=L.go0 A.mod (by first | (simp; done) | (simp; omega))
     refine (ybE q1 _).mono ?_
     rintro _ w' ⟨rfl,M⟩
     have L:=L.go0 M (by simp)
     refine ⟨_,_,_,_,_,_,_,_,_,_,_,_,_,_,_,_,_,_,_,_,_,_,_,_,_,_,_,_,_,_,_,rfl,yaG.of0 M,?_⟩
     intro b f
     have f:=Nat.le_trans L.size f
     intro w' A
     have L:=L.go0 A.mod (by first | (simp; done) | (simp; omega))
     exact yeA (leaf L)
    ·intro b f
     have f:=Nat.le_trans L.size f
     intro w' A
     have L:=L.go0 A.mod (by first | (simp; done) | (simp; omega))
     refine (ybE q1 _).mono ?_
     rintro _ w' ⟨rfl,M⟩
     have L:=L.go0 M (by simp)
     refine ⟨_,_,_,_,_,_,_,_,_,_,_,_,_,_,_,_,_,_,_,_,_,_,_,_,_,_,_,_,_,_,_,rfl,yaG.of0 M,?_⟩
     intro w' A
     have L:=L.go0 A.mod (by first | (simp; done) | (simp; omega))
     exact yeA (leaf L)
   ·intro b f
    have f:=Nat.le_trans L.size f
    refine And.intro ?_ ?_
    ·intro w' A
     have L:=L.go0 A.mod (by first | (simp; done) | (simp; omega))
     refine (ybE q1 _).mono ?_
     rintro _ w' ⟨rfl,M⟩
     have L:=L.go0 M (by simp)
     refine ⟨_,_,_,_,_,_,_,_,_,_,_,_,_,_,_,_,_,_,_,_,_,_,_,_,_,_,_,_,_,_,_,rfl,yaG.of0 M,?_⟩
     intro b f
     have f:=Nat.le_trans L.size f
     intro w' A
     have L:=L.go0 A.mod (by first | (simp; done) | (simp; omega))
     exact yeA (leaf L)
    ·intro b f
     have f:=Nat.le_trans L.size f
     intro w' A
     have L:=L.go0 A.mod (by first | (simp; done) | (simp; omega))
     refine (ybE q1 _).mono ?_
     rintro _ w' ⟨rfl,M⟩
     have L:=L.go0 M (by simp)
     refine ⟨_,_,_,_,_,_,_,_,_,_,_,_,_,_,_,_,_,_,_,_,_,_,_,_,_,_,_,_,_,_,_,rfl,yaG.of0 M,?_⟩
     intro w' A
     have L:=L.go0 A.mod (by first | (simp; done) | (simp; omega))
     exact yeA (leaf L)
 ·refine And.intro ?_ ?_
  ·intro b f
   have f:=Nat.le_trans L.size f
   refine And.intro ?_ ?_
   ·intro w' A
    have L:=L.go0 A.mod (by first | (simp; done) | (simp; omega))
    refine (ybE q0 _).mono ?_
    rintro _ w' ⟨rfl,M⟩
    have L:=L.go0 M (by simp)
    refine ⟨_,_,_,_,_,_,_,_,_,_,_,_,_,_,_,_,_,_,_,_,_,_,_,_,_,_,_,_,_,_,_,rfl,yaG.of0 M,And.intro (ybB (ha1 _ L) rfl) ?_⟩
    refine And.intro ?_ ?_
    ·refine (ybE q1 _).mono ?_
     rintro _ w' ⟨rfl,M⟩
     have L:=L.go0 M (by simp)
     refine ⟨_,_,_,_,_,_,_,_,_,_,_,_,_,_,_,_,_,_,_,_,_,_,_,_,_,_,_,_,_,_,_,rfl,yaG.of0 M,?_⟩
     intro b f
     have f:=Nat.le_trans L.size f
     intro w' A
     have L:=L.go0 A.mod (by first | (simp; done) | (simp; omega))
     exact yeA (leaf L)
    ·intro b f
     have f:=Nat.le_trans L.size f
     intro w' A
     have L:=L.go0 A.mod (by first | (simp; done) | (simp; omega))
     refine (ybE q1 _).mono ?_
     rintro _ w' ⟨rfl,M⟩
     have L:=L.go0 M (by simp)
     refine ⟨_,_,_,_,_,_,_,_,_,_,_,_,_,_,_,_,_,_,_,_,_,_,_,_,_,_,_,_,_,_,_,rfl,yaG.of0 M,?_⟩
     intro w' A
     have L:=L.go0 A.mod (by first | (simp; done) | (simp; omega))
     exact yeA (leaf L)
   ·intro b f
    have f:=Nat.le_trans L.size f
    intro w' A
    have L:=L.go0 A.mod (by first | (simp; done) | (simp; omega))
    refine (ybE q0 _).mono ?_
    rintro _ w' ⟨rfl,M⟩
    have L:=L.go0 M (by simp)
    refine ⟨_,_,_,_,_,_,_,_,_,_,_,_,_,_,_,_,_,_,_,_,_,_,_,_,_,_,_,_,_,_,_,rfl,yaG.of0 M,And.intro (ybB (ha1 _ L) rfl) ?_⟩
    refine (ybE q1 _).mono ?_
    rintro _ w' ⟨rfl,M⟩
    have L:=L.go0 M (by simp)
    refine ⟨_,_,_,_,_,_,_,_,_,_,_,_,_,_,_,_,_,_,_,_,_,_,_,_,_,_,_,_,_,_,_,rfl,yaG.of0 M,?_⟩
    intro w' A
    have L:=L.go0 A.mod (by first | (simp; done) | (simp; omega))
    exact yeA (leaf L)
  ·intro b f
   have f:=Nat.le_trans L.size f
   refine And.intro ?_ ?_
   ·intro w' A
    have L:=L.go0 A.mod (by first | (simp; done) | (simp; omega))
    refine (ybE q0 _).mono ?_
    rintro _ w' ⟨rfl,M⟩
    have L:=L.go0 M (by simp)
    refine ⟨_,_,_,_,_,_,_,_,_,_,_,_,_,_,_,_,_,_,_,_,_,_,_,_,_,_,_,_,_,_,_,rfl,yaG.of0 M,And.intro (ybB (ha1 _ L) rfl) ?_⟩
    refine And.intro ?_ ?_
    ·refine (ybE q1 _).mono ?_
     rintro _ w' ⟨rfl,M⟩
     have L:=L.go0 M (by simp)
     refine ⟨_,_,_,_,_,_,_,_,_,_,_,_,_,_,_,_,_,_,_,_,_,_,_,_,_,_,_,_,_,_,_,rfl,yaG.of0 M,?_⟩
     intro b f
     have f:=Nat.le_trans L.size f
     intro w' A
     have L:=L.go0 A.mod (by first | (simp; done) | (simp; omega))
     exact yeA (leaf L)
    ·intro b f
     have f:=Nat.le_trans L.size f
     intro w' A
     have L:=L.go0 A.mod (by first | (simp; done) | (simp; omega))
     refine (ybE q1 _).mono ?_
     rintro _ w' ⟨rfl,M⟩
     have L:=L.go0 M (by simp)
     refine ⟨_,_,_,_,_,_,_,_,_,_,_,_,_,_,_,_,_,_,_,_,_,_,_,_,_,_,_,_,_,_,_,rfl,yaG.of0 M,?_⟩
     intro w' A
     have L:=L.go0 A.mod (by first | (simp; done) | (simp; omega))
     exact yeA (leaf L)
   ·intro b f
    have f:=Nat.le_trans L.size f
    intro w' A
    have L:=L.go0 A.mod (by first | (simp; done) | (simp; omega))
    refine (ybE q0 _).mono ?_
    rintro _ w' ⟨rfl,M⟩
    have L:=L.go0 M (by simp)
    refine ⟨_,_,_,_,_,_,_,_,_,_,_,_,_,_,_,_,_,_,_,_,_,_,_,_,_,_,_,_,_,_,_,rfl,yaG.of0 M,And.intro (ybB (ha1 _ L) rfl) ?_⟩
    refine (ybE q1 _).mono ?_
    rintro _ w' ⟨rfl,M⟩
    have L:=L.go0 M (by simp)
    refine ⟨_,_,_,_,_,_,_,_,_,_,_,_,_,_,_,_,_,_,_,_,_,_,_,_,_,_,_,_,_,_,_,rfl,yaG.of0 M,?_⟩
    intro w' A
    have L:=L.go0 A.mod (by first | (simp; done) | (simp; omega))
    exact yeA (leaf L)
theorem yJ2 {w0 w:World} (N:Mod [] w0 w):Calls pP 14 #[] w fun e w' => ∃ t:Bool,e = .returned (.bool t) ∧ (Value.bool t = .bool true ∧ Mod [] w0 w'):=by
 refine (yoW w).mono ?_
 rintro _ w1 ⟨rfl,M1⟩
 exact ⟨_,rfl,rfl,N.go0 M1 (by simp)⟩
end Go.Proofs.YtkepmmocldnnfaaGreat
namespace Go.Proofs.YtkepmmocldnnfaaGreat
open Go Go.RowKit Go.Maps Go.MapKept
set_option linter.unusedVariables false
set_option linter.unusedSimpArgs false
def yLX:HV:=⟨yFO,ybM,ybM⟩
def hcv (i:Nat) (q:CV):CV:=⟨⟨10 + (i:Int),1,q.x.op⟩,q.rs,q.ts⟩
def hev:Nat → List CV → List EV
 | _,[] => []
 | i,q :: r => yaM (hcv i q) :: (if (yAG .i64 q.x.n 1 == 0) = true then hev (i + 1) r else ya7 (hcv i q) yLX :: hev (i + 1) r)
theorem ybA {α β:Type} {w:World} {B B' T T' sz sz':Nat} {enc:α → List Value} {enc':β → List Value} {a a':Option Addr} {n n' c c':Nat} {l:List α} {l':List β} (h:Row w B T sz enc a n c l) (h':Row w B' T' sz' enc' a' n' c' l') (hT:T ≠ T'):∀ k ∈ yaP a,k ∉ yaP a':=fun k hk hk' => by
 obtain ⟨_,_,cur,hc⟩:=yaS h k hk
 obtain ⟨_,_,cur',hc'⟩:=yaS h' k hk'
 rw [hc] at hc'; cases hc'; exact hT rfl
theorem ydQ {α:Type} {P:Program} {w:World} {base T S sz bytes:Nat} {enc:α → List Value} {a:Option Addr} {n c:Nat} {l:List α} {i:TypeInfo} {z:Value} {ty:TypeId} {F:Option Addr → Nat → Nat → World → Prop}
  (h:Row w base T sz enc a n c l) (ht:P.underlying S = some (.slice T)) (hi:P.info? T = some i) (hz:i.zero = some z) (hsize:i.size = sz) (hby:i.bytes = bytes) (hzs:z.cells.size = sz) (hsz:0 < sz)
  {b:Nat} {x:α} {T':TypeId} (hb:w.heap[b]? = some (.cells (enc x).toArray T')) (hx:(enc x).length = sz) (hone:∀ u ∈ enc x,u.oneCell' = true) (hlen:(l.length + 1) * bytes ≤ 140737488355328) (hl2:l.length + 1 ≤ maxLen) (hbase:base ≤ w.heap.size)
  (hF:∀ a' c' w',Row w' base T sz enc a' (n + 1) c' (l ++ [x]) → (∀ X,(∀ ad,a = some ad → ad.block ∈ X) → Mod X w w') → (∀ k ∈ yaP a',k ∈ yaP a ∨ w.heap.size ≤ k) → F a' (n + 1) c' w') :
  ybN P (Builtin.append_ #[S,S] ty #[.slice a n c,.slice (some ⟨b,0,none⟩) 1 1]) w F:=by
 obtain ⟨hn,ho⟩:=h
 have hnews:∀ j u,(enc x)[j]? = some u → w.cell? ((⟨b,0,none⟩:Addr).add j) = some u:=fun j u hu => by
  have e:(⟨b,0,none⟩:Addr).add j = ⟨b,j,none⟩:=by
   simp only [Addr.add]; split
   ·rename_i h0; subst h0; rfl
   ·simp
  rw [e,yaY hb]; simpa using hu
 have hl1:(enc x).length = 1 * i.size:=by rw [hx,hsize]; omega
 obtain ⟨v',w',h1,h2,h3,_⟩:=run_append_own w base S ty T i z sz bytes ht hi hz hsize hby hzs hsz (.slice a n c) n (l.flatMap enc) ho ⟨b,0,none⟩ 1 1 (enc x) (by rw [hx]; omega) hnews hone (by rw [hn]; exact hl2) (by rw [hn]; exact hlen) hbase
 have hm:n + 1 ≤ 9223372036854775807:=by rw [hn]; unfold maxLen at hl2; omega
 have hbl:∀ ad n' c',v' = .slice (some ad) n' c' → ad.block ∈ yaP a ∨ w.heap.size ≤ ad.block:=fun ad n' c' e => by
  rcases ho.2 with ⟨e1,e2⟩ | ⟨g,cap,cur,e1,hbg,hg,hnc,hcm,hcs,htake⟩
  ·cases e1
   have hr:=run_append_nil (P:=P) w S ty T i z ht hi hz ⟨b,0,none⟩ 1 1 (enc x) hl1 hnews (by omega) (by omega) (by rw [hby]; rw [show l.length = 0 by omega] at hlen; omega)
   rw [h1] at hr
   injection hr with hv _
   rw [hv] at e
   cases e
   exact .inr (Nat.le_refl _)
  ·cases e1
   by_cases hroom:n + 1 ≤ c
   ·have hfit:n * i.size + (enc x).length ≤ cur.size:=by rw [hl1,hcs,hsize,← Nat.add_mul]; exact Nat.mul_le_mul_right _ hroom
    have hr:=run_append_room (P:=P) w S ty T i ht hi g n c cur hg ⟨b,0,none⟩ 1 1 (enc x) hl1 hnews hone hroom hfit
    rw [h1] at hr
    injection hr with hv _
    rw [hv] at e
    cases e
    exact .inl (by simp [yaP])
   ·have ho':w.ownsRow base T i.size (.slice (some ⟨g,0,none⟩) n c) n (l.flatMap enc):=by rw [hsize]; exact ho
    have holds:∀ j u,(l.flatMap enc)[j]? = some u → w.cell? ((⟨g,0,none⟩:Addr).add j) = some u:=ho'.cells (g:=g) rfl
    have hr:=run_append_grow (P:=P) w S ty T i z ht hi hz ⟨g,0,none⟩ n c (l.flatMap enc) ho'.1 holds ⟨b,0,none⟩ 1 1 (enc x) hl1 hnews (by omega) (by omega) (growslice_fits (by omega) (by rw [hby,hn]; exact hlen))
    rw [h1] at hr
    injection hr with hv _
    rw [hv] at e
    cases e
    exact .inr (Nat.le_refl _)
 have hv:∃ a' c',v' = .slice a' (n + 1) c':=by
  rcases h2.2 with ⟨e1,e2⟩ | ⟨g,cap,cur,e1,_⟩
  ·exact ⟨none,0,by rw [e1]; omega⟩
  ·exact ⟨_,_,e1⟩
 obtain ⟨a',c',rfl⟩:=hv
 refine ⟨a',n + 1,c',w',h1,hF a' c' w' ⟨by simp [hn],by simpa using h2⟩ (fun X hX => ⟨h3.os,h3.tape,h3.output,h3.size,fun k hk hkX => h3.block k hk fun e => hkX ?_⟩) fun k hk => ?_⟩
 ·cases a with
  | none => simp [Value.ownBlock] at e
  | some ad => simp [Value.ownBlock] at e; subst e; exact hX ad rfl
 ·cases a' with
  | none => simp [yaP] at hk
  | some ad =>
   simp [yaP] at hk
   subst hk
   exact hbl ad _ _ rfl
theorem yxI {w:World} {B:Nat} {f:Sl} {l:List EV} {y:EV} {F:Option Addr → Nat → Nat → World → Prop} (hR:Row w B 46 23 EV.cs f.a f.n f.c l) (hl:l.length ≤ 1000000) (hB:B ≤ w.heap.size)
  (hF:∀ a' c' w',Row w' B 46 23 EV.cs a' (f.n + 1) c' (l ++ [y]) → Mod (yaP f.a) w w' → (∀ k ∈ yaP a',k ∈ yaP f.a ∨ w.heap.size ≤ k) → F a' (f.n + 1) c' w') :
  al w (.cells (EV.cs y).toArray 46) fun b w1 => ybN pP (Builtin.append_ #[40,40] 40 #[.slice f.a f.n f.c,.slice (some ⟨b,0,none⟩) 1 1]) w1 F:=by
 refine ybH fun b w1 c1 M1 f1 => ?_
 have s1:=M1.size
 obtain ⟨i0,hi0,hz0,hz1,hz2⟩:=info_parts yJ0
 refine ydQ (x:=y) (hR.keep0 M1) Tryz.underlying40 hi0 hz0 hz1 hz2 rfl (by decide) c1 rfl (EV.cs_one _) (by omega) (by unfold maxLen; omega) (by omega) fun a' c' w8 hR8 hM8 hk8 => ?_
 have M8:=hM8 _ (yb0 f.a)
 refine hF a' c' w8 hR8 ?_ fun k hk => ?_
 ·exact (M1.trans M8).less fun k hk _ => by simpa using hk
 ·rcases hk8 k hk with h | h
  ·exact .inl h
  ·exact .inr (by omega)
theorem yB7 {n:Int} (h1:0 ≤ n) (h2:n ≤ 1000000):s64 n:=by unfold s64; omega
end Go.Proofs.YtkepmmocldnnfaaGreat
namespace Go.Proofs.YtkepmmocldnnfaaGreat
open Go Go.RowKit
set_option linter.all false
section
set_option maxRecDepth 100000
variable {R:VWP} {w w0:World} {m:Nat} {i0 i1 i2 i3 i4 i5 i6 i7 i8 i9 j0 j1 j2 j3 j4 j5 j6 j7 j8 j9 k0 k1 k2 k3 k4 k5 k6 k7 k8 k9 l0 l1 l2 l3 l4 l5 l6 l7 l8 l9:Int} {s0 s1 s2 s3 s4 s5 s6 s7 s8 s9 t0 t1 t2 t3 t4 t5 t6 t7 t8 t9:BA} {n0 n1 n2 n3 n4 n5 n6 n7 n8 n9 o0 o1 o2 o3 o4 o5 o6 o7 o8 o9 p0 p1 p2 p3 p4 p5 p6 p7 p8 p9:Nat} {q0 q1 q2 q3 q4 q5 q6 q7 q8 q9 r0 r1 r2 r3 r4 r5 r6 r7 r8 r9:OA} {B0 B1 B2 B3 B4 B5 B6 B7 B8 B9:Bool} {M0 M1 M2 M3:Option Nat} {V0 V1 V2 V3 V4 V5:Value} {A0 A1 A2:Addr}
def yu6:LA:=⟨[0,0,1,0,1],[6,7,8],[],0,[]⟩
def yxJ:List LA:=[yu6]
abbrev yJ3:=dnF pP yxJ (code Tryz.f148)
abbrev yMM:=ya0 pP yxJ (code Tryz.f148)
abbrev yJ4 (p:List Nat) (K:List Kh) (R:VWP):=ya0 pP yxJ (code Tryz.f148) p K (ybO pP Tryz.f148 [] R)
def yoX (a0:OA) (a2 a1:Nat) (a3:Int):Int → List Value × List TB:=fun a4 => ([.slice a0 a2 a1,.int .i64 a3,.int .i64 a4],[])
abbrev yFP (a0:OA) (a2 a1:Nat) (a3:Int) (I:Nat → Int → World → Prop) (m:Nat):Kh:=KG (yoX a0 a2 a1 a3) (U1 I) m
theorem yB8 {I:Nat → Int → World → Prop} (m':Nat) (h1:m' < m) (h2:I m' i1 w):KS (yFP q0 n0 n1 i0 I m) (yoX q0 n0 n1 i0 i1) w:=⟨m',h1,_,rfl,rfl,h2⟩
theorem yB9 {a1:OA} (I:Nat → Int → World → Prop) (m0:Nat) (h0:I m0 i1 w0)
 (hr:∀ m a0 w,I m a0 w →
 brB (decide (a0 < i0)) (
 ixA a1 n0 a0 4 fun q7 =>
 yaR w q7 fun t8 => yaK w (Addr.add q7 1) fun s9 => yaR w (Addr.add q7 2) fun b1 => yaK w (Addr.add q7 3) fun b0 =>
 ∀ a5,w.heap.size ≤ a5 →
 ∀ a6,Adv [] [a5] w a6 →
 Calls pP 111 #[(.agg (Z11 t8 s9 b1 b0))] a6 fun e a7 => ∃ a8,e = .returned (.int .i64 a8) ∧ yaG [a5] a6 a7 ∧
 brB (a8 != 0) (
 R (.int .i64 a8) a7)
 (
 KS (yFP a1 n0 n1 i0 I m) (yoX a1 n0 n1 i0 (IntKind.wrap .i64 (a0 + 1))) a7))
 (
 R (.int .i64 0) w)) :
 yaU yu6 (yJ3 397 [0,0,1,0,1]) (yJ4 [1,0,1,0] [] R) (yoX a1 n0 n1 i0 i1) w0 :=
 lrule (yoX a1 n0 n1 i0) (U1 I) h0 (by rintro m a0 w h; exact ⟨by kernel_rfl,by kernel_rfl,fun js => Eq.mpr (by kernel_rfl) (hr m a0 w h)⟩)
theorem yJ5 (h :
 yaU yu6 (yJ3 397 [0,0,1,0,1]) (yJ4 [1,0,1,0] [] R) (yoX q0 n0 n1 (n0:Int) 0) w) :
 CR pP 148 #[.slice q0 n0 n1] w R :=
 yaB Tryz.wide_mixed (an:=yxJ) Tryz.func148 rfl rfl (by kernel_rfl) rfl (Eq.mpr (by kernel_rfl) h)
theorem yJ6 {b0:Nat} {o2_n o2_c:Nat} {o3_n o3_c:Nat} (hb:w.heap[b0]? = some (.cells (Z7 i0 i1 q0 o2_n o2_c q1 o3_n o3_c) 180)) (h :
 ∀ b2,w.heap.size ≤ b2 → nz 8 (
 brB ((Int.tmod (o2_n:Int) 8) == 0) (
 ∀ w3,Adv [] [b2] w w3 →
 al w3 (.cells #[.int .i64 i2] 3) fun b4 w5 =>
 ybN pP (Builtin.append_ #[24,24] 24 #[.slice q1 o3_n o3_c,(.slice (some ⟨b4,0,none⟩) 1 1)]) w5 fun a7 n8 c9 w6 => yaG [b0,b2] w5 w6 ∧
 ∀ a8,Adv [b0] [] w6 a8 →
 al a8 (.cells (Z13 i2 B0 s0 B1 s1) 165) fun b9 a9 =>
 ybN pP (Builtin.append_ #[41,41] 41 #[.slice q0 o2_n o2_c,(.slice (some ⟨b9,0,none⟩) 1 1)]) a9 fun b7 c3 c1 b1 => yaG [b0,b2] a9 b1 ∧
 ∀ a5,Adv [b0] [] b1 a5 → a5.heap[b0]? = some (.cells (Z7 i0 i1 b7 c3 c1 a7 n8 c9) 180) →
 R (.tuple #[]) a5)
 (
 ∀ b3,Adv [] [b2] w b3 →
 al b3 (.cells (Z13 i2 B0 s0 B1 s1) 165) fun c0 b5 =>
 ybN pP (Builtin.append_ #[41,41] 41 #[.slice q0 o2_n o2_c,(.slice (some ⟨c0,0,none⟩) 1 1)]) b5 fun b8 c4 c2 b6 => yaG [b0,b2] b5 b6 ∧
 ∀ a6,Adv [b0] [] b6 a6 → a6.heap[b0]? = some (.cells (Z7 i0 i1 b8 c4 c2 q1 o3_n o3_c) 180) →
 R (.tuple #[]) a6))) :
 CR pP 149 #[(.pointer (some ⟨b0,0,none⟩)),(.agg (Z13 i2 B0 s0 B1 s1))] w R :=
 yaO Tryz.wide_mixed (an:=[]) Tryz.func149 rfl rfl (by kernel_rfl) rfl hb (Eq.mpr (by kernel_rfl) h)
def yqB:LA:=⟨[0,0,1,0,1,1,1,1],[0,7,38,39,40],[(0,0,0)],1,[0]⟩
def yxK:List LA:=[yqB]
abbrev yG4:=dnF pP yxK (code Tryz.f114)
abbrev yMN:=ya0 pP yxK (code Tryz.f114)
abbrev yG5 (p:List Nat) (K:List Kh) (R:VWP):=ya0 pP yxK (code Tryz.f114) p K (ybO pP Tryz.f114 [0] R)
def ymP (b3:Int) (a8:OA) (b0 a9:Nat) (b1:Int) (bm0:Nat):Int × Int × Int × (Option Addr) × Nat × Nat × (Option Addr) × Nat × Nat → List Value × List TB:=fun (b2,a6,a7,a0,a4,a2,a1,a5,a3) => ([(.pointer (some ⟨bm0,0,none⟩)),.int .i64 b3,.slice a8 b0 a9,.int .i64 b1,.int .i64 b2],[⟨bm0,180,[.int .i64 a6,.int .i64 a7,.slice a0 a4 a2,.slice a1 a5 a3],true⟩])
abbrev yFQ (a4:Int) (a0:OA) (a2 a1:Nat) (a3:Int) (bm0:Nat) (I:Nat → Int → Int → Int → Option Addr → Nat → Nat → Option Addr → Nat → Nat → World → Prop) (m:Nat):Kh:=KG (ymP a4 a0 a2 a1 a3 bm0) (U9 I) m
theorem yCa {I:Nat → Int → Int → Int → Option Addr → Nat → Nat → Option Addr → Nat → Nat → World → Prop} (m':Nat) (h1:m' < m) (h2:I m' i2 i3 i4 q1 n3 n4 q2 n5 n6 w):KS (yFQ i0 q0 n0 n1 i1 n2 I m) (ymP i0 q0 n0 n1 i1 n2 (i2,i3,i4,q1,n3,n4,q2,n5,n6)) w:=⟨m',h1,_,rfl,rfl,h2⟩
theorem yCb (I:Nat → Int → Int → Int → Option Addr → Nat → Nat → Option Addr → Nat → Nat → World → Prop) (m0:Nat) (h0:I m0 i2 i3 i4 q1 n3 n4 q2 n5 n6 w0)
 (hr:∀ m a8 a7 a0 a1 a5 a3 a2 a6 a4 w,I m a8 a7 a0 a1 a5 a3 a2 a6 a4 w →
 w.heap[n2]? = some (.cells (Z7 a7 a0 a1 a5 a3 a2 a6 a4) 180) →
 brB (decide (a8 < i1)) (
 ixA q0 n0 a8 4 fun c3 =>
 yaR w c3 fun d8 => yaK w (Addr.add c3 1) fun d6 => yaR w (Addr.add c3 2) fun d9 => yaK w (Addr.add c3 3) fun d7 =>
 ∀ c2,w.heap.size ≤ c2 →
 ∀ c4,Adv [] [c2] w c4 → c4.heap[n2]? = some (.cells (Z7 a7 a0 a1 a5 a3 a2 a6 a4) 180) →
 Calls pP 149 #[(.pointer (some ⟨n2,0,none⟩)),(.agg (Z13 a0 d8 d6 d9 d7))] c4 fun e d2 => e = .returned (.tuple #[]) ∧ yb9 [n2] [(c2,74)] [c2] c4 d2 ∧ ∃ d4 d5 c6 d0 c8 c7 d1 c9,d2.heap[n2]? = some (.cells (Z7 d4 d5 c6 d0 c8 c7 d1 c9) 180) ∧
 ∀ d3,Adv [n2] [] d2 d3 → d3.heap[n2]? = some (.cells (Z7 d4 (IntKind.wrap .i64 (d5 + 1)) c6 d0 c8 c7 d1 c9) 180) →
 KS (yFQ i0 q0 n0 n1 i1 n2 I m) (ymP i0 q0 n0 n1 i1 n2 ((IntKind.wrap .i64 (a8 + 1)),d4,(IntKind.wrap .i64 (d5 + 1)),c6,d0,c8,c7,d1,c9)) d3)
 (
 R (.tuple #[.int .i64 i0,.int .i64 0]) w)) :
 yaU yqB (yG4 394 [0,0,1,0,1,1,1,1]) (yG5 [1,1,1,1,0,1,0] [] R) (ymP i0 q0 n0 n1 i1 n2 (i2,i3,i4,q1,n3,n4,q2,n5,n6)) w0 :=
 lrule (ymP i0 q0 n0 n1 i1 n2) (U9 I) h0 (by rintro m ⟨a8,a7,a0,a1,a5,a3,a2,a6,a4⟩ w h; exact ⟨by kernel_rfl,by kernel_rfl,fun js => Eq.mpr (by kernel_rfl) (hr m a8 a7 a0 a1 a5 a3 a2 a6 a4 w h)⟩)
theorem yJ7 {b0:Nat} {o2_n o2_c:Nat} {o3_n o3_c:Nat} {a0 a2:Nat} (hb:w.heap[b0]? = some (.cells (Z7 i0 i1 q0 o2_n o2_c q1 o3_n o3_c) 180)) (h :
 Calls pP 148 #[.slice q2 a0 a2] w fun e w3 => ∃ x4,e = .returned (.int .i64 x4) ∧ yaG [b0] w w3 ∧
 brB (x4 != 0) (
 ∀ w5,Adv [] [] w3 w5 → w5.heap[b0]? = some (.cells (Z7 i0 i1 q0 o2_n o2_c q1 o3_n o3_c) 180) →
 R (.tuple #[.int .i64 0,.int .i64 x4]) w5)
 (
 brB (decide ((IntKind.wrap .i64 ((o2_n:Int) + (a0:Int))) > 64)) (
 brB (decide ((IntKind.wrap .i64 ((o2_n:Int) + (a0:Int))) > 64)) (
 ∀ w6,Adv [] [] w3 w6 → w6.heap[b0]? = some (.cells (Z7 i0 i1 q0 o2_n o2_c q1 o3_n o3_c) 180) →
 R (.tuple #[.int .i64 0,.int .i64 50]) w6)
 (
 ∀ a3,Adv [] [] w3 a3 → a3.heap[b0]? = some (.cells (Z7 i0 i1 q0 o2_n o2_c q1 o3_n o3_c) 180) →
 yaU yqB (yG4 394 [0,0,1,0,1,1,1,1]) (yG5 [1,1,1,1,0,1,0] [] R) (ymP i1 q2 a0 a2 (a0:Int) b0 (0,i0,i1,q0,o2_n,o2_c,q1,o3_n,o3_c)) a3))
 (
 brB (decide ((IntKind.wrap .i64 (i1 + (a0:Int))) > 1099511627776)) (
 ∀ a4,Adv [] [] w3 a4 → a4.heap[b0]? = some (.cells (Z7 i0 i1 q0 o2_n o2_c q1 o3_n o3_c) 180) →
 R (.tuple #[.int .i64 0,.int .i64 50]) a4)
 (
 ∀ a5,Adv [] [] w3 a5 → a5.heap[b0]? = some (.cells (Z7 i0 i1 q0 o2_n o2_c q1 o3_n o3_c) 180) →
 yaU yqB (yG4 394 [0,0,1,0,1,1,1,1]) (yG5 [1,1,1,1,0,1,0] [] R) (ymP i1 q2 a0 a2 (a0:Int) b0 (0,i0,i1,q0,o2_n,o2_c,q1,o3_n,o3_c)) a5)))) :
 CR pP 114 #[(.pointer (some ⟨b0,0,none⟩)),.slice q2 a0 a2] w R :=
 yaO Tryz.wide_mixed (an:=yxK) Tryz.func114 rfl rfl (by kernel_rfl) rfl hb (Eq.mpr (by kernel_rfl) h)
def yu7:LA:=⟨[0,0,0,1,1,1],[2,3,6],[(2,1,0),(3,2,0)],3,[0,1,2]⟩
def yxL:List LA:=[yu7]
abbrev yJ8:=dnF pP yxL (code Tryz.f150)
abbrev yMO:=ya0 pP yxL (code Tryz.f150)
abbrev yJ9 (p:List Nat) (K:List Kh) (R:VWP):=ya0 pP yxL (code Tryz.f150) p K (ybO pP Tryz.f150 [0] R)
def yoY (bm0:Nat) (a7 a8:Int) (a0:OA) (a4 a2:Nat) (a1:OA) (a5 a3 bm1:Nat) (a6:OA) (bm2:Nat) (a9:Int):Int → List Value × List TB:=fun b0 => ([(.pointer (some ⟨bm1,0,none⟩)),(.pointer (some ⟨bm2,0,none⟩)),.int .i64 b0],[⟨bm0,180,[.int .i64 a7,.int .i64 a8,.slice a0 a4 a2,.slice a1 a5 a3],true⟩,⟨bm1,111,[.pointer a6],true⟩,⟨bm2,3,[.int .i64 a9],true⟩])
abbrev yFR (bm0:Nat) (a7 a8:Int) (a0:OA) (a4 a2:Nat) (a1:OA) (a5 a3 bm1:Nat) (a6:OA) (bm2:Nat) (a9:Int) (I:Nat → Int → World → Prop) (m:Nat):Kh:=KG (yoY bm0 a7 a8 a0 a4 a2 a1 a5 a3 bm1 a6 bm2 a9) (U1 I) m
theorem yCc {I:Nat → Int → World → Prop} (m':Nat) (h1:m' < m) (h2:I m' i3 w):KS (yFR n0 i0 i1 q0 n1 n2 q1 n3 n4 n5 q2 n6 i2 I m) (yoY n0 i0 i1 q0 n1 n2 q1 n3 n4 n5 q2 n6 i2 i3) w:=⟨m',h1,_,rfl,rfl,h2⟩
theorem yCd (I:Nat → Int → World → Prop) (m0:Nat) (h0:I m0 i3 w0)
 (hr:∀ m b0 w,I m b0 w →
 w.heap[n0]? = some (.cells (Z7 i0 i1 q0 n1 n2 q1 n3 n4) 180) →
 w.heap[n5]? = some (.cells #[.pointer q2] 111) →
 w.heap[n6]? = some (.cells #[.int .i64 i2] 3) →
 yjF q2 fun b8 =>
 yaC w (Addr.add b8 2) fun c2 b6 c3 =>
 brB (decide (b0 < (b6:Int))) (
 yjF q2 fun b9 =>
 yaC w (Addr.add b9 2) fun b5 b7 c4 =>
 ixA b5 b7 b0 5 fun c0 =>
 yaA .i64 w c0 fun c1 =>
 brB (decide (c1 < i2)) (
 ∀ b1,Adv [] [] w b1 → b1.heap[n0]? = some (.cells (Z7 i0 i1 q0 n1 n2 q1 n3 n4) 180) →
 b1.heap[n5]? = some (.cells #[.pointer q2] 111) →
 b1.heap[n6]? = some (.cells #[.int .i64 i2] 3) →
 KS (yFR n0 i0 i1 q0 n1 n2 q1 n3 n4 n5 q2 n6 i2 I m) (yoY n0 i0 i1 q0 n1 n2 q1 n3 n4 n5 q2 n6 i2 (IntKind.wrap .i64 (b0 + 1))) b1)
 (
 ∀ b2,Adv [] [] w b2 → b2.heap[n0]? = some (.cells (Z7 i0 i1 q0 n1 n2 q1 n3 n4) 180) →
 b2.heap[n5]? = some (.cells #[.pointer q2] 111) →
 b2.heap[n6]? = some (.cells #[.int .i64 i2] 3) →
 R (.int .i64 b0) b2))
 (
 ∀ b3,Adv [] [] w b3 → b3.heap[n0]? = some (.cells (Z7 i0 i1 q0 n1 n2 q1 n3 n4) 180) →
 b3.heap[n5]? = some (.cells #[.pointer q2] 111) →
 b3.heap[n6]? = some (.cells #[.int .i64 i2] 3) →
 R (.int .i64 b0) b3)) :
 yaU yu7 (yJ8 396 [0,0,0,1,1,1]) (yJ9 [1,1,1,0,0] [] R) (yoY n0 i0 i1 q0 n1 n2 q1 n3 n4 n5 q2 n6 i2 i3) w0 :=
 lrule (yoY n0 i0 i1 q0 n1 n2 q1 n3 n4 n5 q2 n6 i2) (U1 I) h0 (by rintro m b0 w h; exact ⟨by kernel_rfl,by kernel_rfl,fun js => Eq.mpr (by kernel_rfl) (hr m b0 w h)⟩)
theorem yKa {b0:Nat} {o2_n o2_c:Nat} {o3_n o3_c:Nat} (hb:w.heap[b0]? = some (.cells (Z7 i0 i1 q0 o2_n o2_c q1 o3_n o3_c) 180)) (h :
 ∀ b3,w.heap.size ≤ b3 →
 ∀ b4,w.heap.size ≤ b4 →
 ∀ a2,Adv [] [b4,b3] w a2 → a2.heap[b0]? = some (.cells (Z7 i0 i1 q0 o2_n o2_c q1 o3_n o3_c) 180) →
 yaC a2 ⟨b0,3,none⟩ fun b9 b8 c0 =>
 ∀ a1,Adv [] [] a2 a1 → a1.heap[b0]? = some (.cells (Z7 i0 i1 q0 o2_n o2_c q1 o3_n o3_c) 180) →
 a1.heap[b3]? = some (.cells #[(.pointer (some ⟨b0,0,none⟩))] 111) →
 a1.heap[b4]? = some (.cells #[.int .i64 i2] 3) →
 Calls pP 166 #[(.int .i64 (b8:Int)),(.func (.func 167) #[] #[(.pointer (some ⟨b3,0,none⟩)),(.pointer (some ⟨b4,0,none⟩))])] a1 fun e a3 => ∃ a4,e = .returned (.int .i64 a4) ∧ ∃ b5 b6 a5 a9 a7 a6 b1 a8,a3.heap[b0]? = some (.cells (Z7 b5 b6 a5 a9 a7 a6 b1 a8) 180) ∧ ∃ b2,a3.heap[b3]? = some (.cells #[.pointer b2] 111) ∧ ∃ b7,a3.heap[b4]? = some (.cells #[.int .i64 b7] 3) ∧
 yaU yu7 (yJ8 396 [0,0,0,1,1,1]) (yJ9 [1,1,1,0,0] [] R) (yoY b0 b5 b6 a5 a9 a7 a6 b1 a8 b3 b2 b4 b7 (IntKind.wrap .i64 ((if 0 > (IntKind.wrap .i64 (a4 - 1)) then 0 else (IntKind.wrap .i64 (a4 - 1))) * 8))) a3) :
 CR pP 150 #[(.pointer (some ⟨b0,0,none⟩)),.int .i64 i2] w R :=
 yaO Tryz.wide_mixed (an:=yxL) Tryz.func150 rfl rfl (by kernel_rfl) rfl hb (Eq.mpr (by kernel_rfl) h)
theorem yKb (h :
 ykY w A0 fun p1 =>
 yjF p1 fun q2 =>
 yaC w (Addr.add q2 3) fun a3 n4 c5 =>
 ixA a3 n4 i0 1 fun q6 =>
 yaA .i64 w q6 fun x7 =>
 yaA .i64 w A1 fun x8 =>
 ∀ w9,Adv [] [] w w9 →
 R (.bool (decide (x7 > x8))) w9) :
 CR pP 167 #[.int .i64 i0,(.pointer (some A0)),(.pointer (some A1))] w R :=
 yaB Tryz.wide_mixed (an:=[]) Tryz.func167 rfl rfl (by kernel_rfl) rfl (Eq.mpr (by kernel_rfl) h)
def yu8:LA:=⟨[0,0,0,1,1],[1,5,6],[],0,[]⟩
def yxM:List LA:=[yu8]
abbrev yKc:=dnF pP yxM (code Tryz.f166)
abbrev yMP:=ya0 pP yxM (code Tryz.f166)
abbrev yKd (p:List Nat) (K:List Kh) (R:VWP):=ya0 pP yxM (code Tryz.f166) p K (ybO pP Tryz.f166 [] R)
def ymQ (a0:Addr) (a1:Addr):Int × Int → List Value × List TB:=fun (a2,a3) => ([(.func (.func 167) #[] #[(.pointer (some a0)),(.pointer (some a1))]),.int .i64 a2,.int .i64 a3],[])
abbrev yCe (a0:Addr) (a1:Addr) (I:Nat → Int → Int → World → Prop) (m:Nat):Kh:=KG (ymQ a0 a1) (U2 I) m
theorem ysR {I:Nat → Int → Int → World → Prop} (m':Nat) (h1:m' < m) (h2:I m' i0 i1 w):KS (yCe A0 A1 I m) (ymQ A0 A1 (i0,i1)) w:=⟨m',h1,_,rfl,rfl,h2⟩
theorem yCf (I:Nat → Int → Int → World → Prop) (m0:Nat) (h0:I m0 i0 i1 w0)
 (hr:∀ m a2 a3 w,I m a2 a3 w →
 brB (decide (a2 < a3)) (nn 1 (
 Calls pP 167 #[(.int .i64 (IntKind.wrap .i64 (Int.fdiv (IntKind.wrap .u64 (IntKind.wrap .i64 (a2 + a3))) (2 ^ (min (Int.toNat 1) 64))))),(.pointer (some A0)),(.pointer (some A1))] w fun e w3 => ∃ t4,e = .returned (.bool t4) ∧
 brB (!t4) (
 KS (yCe A0 A1 I m) (ymQ A0 A1 ((IntKind.wrap .i64 ((IntKind.wrap .i64 (Int.fdiv (IntKind.wrap .u64 (IntKind.wrap .i64 (a2 + a3))) (2 ^ (min (Int.toNat 1) 64)))) + 1)),a3)) w3)
 (
 KS (yCe A0 A1 I m) (ymQ A0 A1 (a2,(IntKind.wrap .i64 (Int.fdiv (IntKind.wrap .u64 (IntKind.wrap .i64 (a2 + a3))) (2 ^ (min (Int.toNat 1) 64)))))) w3)))
 (
 R (.int .i64 a2) w)) :
 yaU yu8 (yKc 397 [0,0,0,1,1]) (yKd [1,1,0,0] [] R) (ymQ A0 A1 (i0,i1)) w0 :=
 lrule (ymQ A0 A1) (U2 I) h0 (by rintro m ⟨a2,a3⟩ w h; exact ⟨by kernel_rfl,by kernel_rfl,fun js => Eq.mpr (by kernel_rfl) (hr m a2 a3 w h)⟩)
theorem yKe (h :
 yaU yu8 (yKc 397 [0,0,0,1,1]) (yKd [1,1,0,0] [] R) (ymQ A0 A1 (0,i0)) w) :
 CR pP 166 #[.int .i64 i0,(.func (.func 167) #[] #[(.pointer (some A0)),(.pointer (some A1))])] w R :=
 yaB Tryz.wide_mixed (an:=yxM) Tryz.func166 rfl rfl (by kernel_rfl) rfl (Eq.mpr (by kernel_rfl) h)
theorem yKf {b0:Nat} {o2_n o2_c:Nat} {o3_n o3_c:Nat} (hb:w.heap[b0]? = some (.cells (Z7 i0 i1 q0 o2_n o2_c q1 o3_n o3_c) 180)) (h :
 ∀ w1,Adv [] [] w w1 → w1.heap[b0]? = some (.cells (Z7 i0 i1 q0 o2_n o2_c q1 o3_n o3_c) 180) →
 Calls pP 150 #[(.pointer (some ⟨b0,0,none⟩)),.int .i64 i2] w1 fun e w2 => ∃ x3,e = .returned (.int .i64 x3) ∧ ∃ x4 x5 a6 n7 c8 a9 b9 b5,w2.heap[b0]? = some (.cells (Z7 x4 x5 a6 n7 c8 a9 b9 b5) 180) ∧ (((.slice a6 n7 c8):Value) = (.slice q0 o2_n o2_c)) ∧
 slV q0 o2_c x3 o2_n o2_c 5 fun b1 a2 a4 =>
 slV b1 a4 0 (if (if (a2:Int) < i3 then (a2:Int) else i3) > 0 then (if (a2:Int) < i3 then (a2:Int) else i3) else 0) a4 5 fun b2 c0 b6 =>
 Calls pP 151 #[.slice b2 c0 b6] w2 fun e a8 => ∃ a3 a7 a5,e = .returned (.slice a3 a7 a5) ∧ ∃ c3 c4 b3 c1 b7 b4 c2 b8,a8.heap[b0]? = some (.cells (Z7 c3 c4 b3 c1 b7 b4 c2 b8) 180) ∧
 R (.slice a3 a7 a5) a8) :
 CR pP 118 #[(.pointer (some ⟨b0,0,none⟩)),.int .i64 i2,.int .i64 i3] w R :=
 yaO Tryz.wide_mixed (an:=[]) Tryz.func118 rfl rfl (by kernel_rfl) rfl hb (Eq.mpr (by kernel_rfl) h)
def yu9:LA:=⟨[0,0,1,0,1,1],[0,5,12,13,14],[(0,0,0)],1,[]⟩
def yvA:LA:=⟨[0,0,1,0,1,1,1,1,1],[0,5,8,31,32,33],[(0,0,0)],1,[0]⟩
def yxN:List LA:=[yu9,yvA]
abbrev yEC:=dnF pP yxN (code Tryz.f123)
abbrev yMQ:=ya0 pP yxN (code Tryz.f123)
abbrev yED (p:List Nat) (K:List Kh) (R:VWP):=ya0 pP yxN (code Tryz.f123) p K (ybO pP Tryz.f123 [0] R)
def yoZ (b3:Option Nat) (a8:OA) (b0 a9:Nat) (b1:Int) (bm0:Nat) (a6 a7:Int) (a0:OA) (a4 a2:Nat) (a1:OA) (a5 a3:Nat):Int → List Value × List TB:=fun b2 => ([(.pointer (some ⟨bm0,0,none⟩)),(.map b3),.slice a8 b0 a9,.int .i64 b1,.int .i64 b2],[⟨bm0,180,[.int .i64 a6,.int .i64 a7,.slice a0 a4 a2,.slice a1 a5 a3],false⟩])
def ymR (b5:Option Nat) (b3:OA) (b6 b4:Nat) (a8:OA) (b0 a9:Nat) (b1:Int) (bm0:Nat):Int × Int × Int × (Option Addr) × Nat × Nat × (Option Addr) × Nat × Nat → List Value × List TB:=fun (b2,a6,a7,a0,a4,a2,a1,a5,a3) => ([(.pointer (some ⟨bm0,0,none⟩)),(.map b5),.slice b3 b6 b4,.slice a8 b0 a9,.int .i64 b1,.int .i64 b2],[⟨bm0,180,[.int .i64 a6,.int .i64 a7,.slice a0 a4 a2,.slice a1 a5 a3],true⟩])
abbrev yFS (b2:Option Nat) (a8:OA) (b0 a9:Nat) (b1:Int) (bm0:Nat) (a6 a7:Int) (a0:OA) (a4 a2:Nat) (a1:OA) (a5 a3:Nat) (I:Nat → Int → World → Prop) (m:Nat):Kh:=KG (yoZ b2 a8 b0 a9 b1 bm0 a6 a7 a0 a4 a2 a1 a5 a3) (U1 I) m
theorem yCg {I:Nat → Int → World → Prop} (m':Nat) (h1:m' < m) (h2:I m' i3 w):KS (yFS M0 q0 n0 n1 i0 n2 i1 i2 q1 n3 n4 q2 n5 n6 I m) (yoZ M0 q0 n0 n1 i0 n2 i1 i2 q1 n3 n4 q2 n5 n6 i3) w:=⟨m',h1,_,rfl,rfl,h2⟩
theorem yCh {a9:OA} {a1:OA} {a5:OA} (I:Nat → Int → World → Prop) (m0:Nat) (h0:I m0 i3 w0)
 (hr:∀ m a8 w,I m a8 w →
 brB (decide (a8 < i0)) (
 ixA a9 n0 a8 1 fun q7 =>
 yaA .i64 w q7 fun x8 =>
 yc7 pP (Instr.mapUpdate 258 (.map M0) (.int .i64 x8) (.bool true)) w fun b6 => yaG [n2] w b6 ∧
 KS (yFS M0 a9 n0 n1 i0 n2 i1 i2 a1 n3 n4 a5 n5 n6 I m) (yoZ M0 a9 n0 n1 i0 n2 i1 i2 a1 n3 n4 a5 n5 n6 (IntKind.wrap .i64 (a8 + 1))) b6)
 (
 ∀ b5,Adv [n2] [] w b5 → b5.heap[n2]? = some (.cells (Z7 i1 i2 none 0 0 none 0 0) 180) →
 yaU yvA (yEC 393 [0,0,1,0,1,1,1,1,1]) (yED [1,1,1,1,1,0,1,0] [] R) (ymR M0 a1 n3 n4 a1 n3 n4 (n3:Int) n2 (0,i1,i2,none,0,0,none,0,0)) b5)) :
 yaU yu9 (yEC 396 [0,0,1,0,1,1]) (yED [1,1,0,1,0] [] R) (yoZ M0 a9 n0 n1 i0 n2 i1 i2 a1 n3 n4 a5 n5 n6 i3) w0 :=
 lrule (yoZ M0 a9 n0 n1 i0 n2 i1 i2 a1 n3 n4 a5 n5 n6) (U1 I) h0 (by rintro m a8 w h; exact ⟨by kernel_rfl,by kernel_rfl,fun js => Eq.mpr (by kernel_rfl) (hr m a8 w h)⟩)
abbrev yCi (a6:Option Nat) (a4:OA) (a7 a5:Nat) (a0:OA) (a2 a1:Nat) (a3:Int) (bm0:Nat) (I:Nat → Int → Int → Int → Option Addr → Nat → Nat → Option Addr → Nat → Nat → World → Prop) (m:Nat):Kh:=KG (ymR a6 a4 a7 a5 a0 a2 a1 a3 bm0) (U9 I) m
theorem ysS {I:Nat → Int → Int → Int → Option Addr → Nat → Nat → Option Addr → Nat → Nat → World → Prop} (m':Nat) (h1:m' < m) (h2:I m' i1 i2 i3 q2 n5 n6 q3 n7 n8 w):KS (yCi M0 q0 n0 n1 q1 n2 n3 i0 n4 I m) (ymR M0 q0 n0 n1 q1 n2 n3 i0 n4 (i1,i2,i3,q2,n5,n6,q3,n7,n8)) w:=⟨m',h1,_,rfl,rfl,h2⟩
theorem yCj (I:Nat → Int → Int → Int → Option Addr → Nat → Nat → Option Addr → Nat → Nat → World → Prop) (m0:Nat) (h0:I m0 i1 i2 i3 q2 n5 n6 q3 n7 n8 w0)
 (hr:∀ m b1 a6 a7 a1 a0 a3 a2 a5 a4 w,I m b1 a6 a7 a1 a0 a3 a2 a5 a4 w →
 w.heap[n4]? = some (.cells (Z7 a6 a7 a1 a0 a3 a2 a5 a4) 180) →
 brB (decide (b1 < i0)) (
 ixA q1 n2 b1 5 fun c6 =>
 yaA .i64 w c6 fun d7 => yaR w (Addr.add c6 1) fun e2 => yaK w (Addr.add c6 2) fun e0 => yaR w (Addr.add c6 3) fun e3 => yaK w (Addr.add c6 4) fun e1 =>
 ∀ c7,w.heap.size ≤ c7 →
 ∀ c3,Adv [] [c7] w c3 → c3.heap[n4]? = some (.cells (Z7 a6 a7 a1 a0 a3 a2 a5 a4) 180) →
 ∃ d6,(∀ w',Mod [] c3 w' → (Instr.lookup 258 (.map M0) (.int .i64 d7) false).run pP w' = .ok (.bool d6) w') ∧
 brB d6 (
 Calls pP 149 #[(.pointer (some ⟨n4,0,none⟩)),(.agg (Z13 d7 e2 e0 e3 e1))] c3 fun e c9 => e = .returned (.tuple #[]) ∧ yb9 [n4] [(c7,165)] [c7] c3 c9 ∧ ∃ d8 d9 d0 d4 d2 d1 d5 d3,c9.heap[n4]? = some (.cells (Z7 d8 d9 d0 d4 d2 d1 d5 d3) 180) ∧
 KS (yCi M0 q0 n0 n1 q1 n2 n3 i0 n4 I m) (ymR M0 q0 n0 n1 q1 n2 n3 i0 n4 ((IntKind.wrap .i64 (b1 + 1)),d8,d9,d0,d4,d2,d1,d5,d3)) c9)
 (
 KS (yCi M0 q0 n0 n1 q1 n2 n3 i0 n4 I m) (ymR M0 q0 n0 n1 q1 n2 n3 i0 n4 ((IntKind.wrap .i64 (b1 + 1)),a6,a7,a1,a0,a3,a2,a5,a4)) c3))
 (
 R (.int .i64 (IntKind.wrap .i64 ((n0:Int) - (a0:Int)))) w)) :
 yaU yvA (yEC 393 [0,0,1,0,1,1,1,1,1]) (yED [1,1,1,1,1,0,1,0] [] R) (ymR M0 q0 n0 n1 q1 n2 n3 i0 n4 (i1,i2,i3,q2,n5,n6,q3,n7,n8)) w0 :=
 lrule (ymR M0 q0 n0 n1 q1 n2 n3 i0 n4) (U9 I) h0 (by rintro m ⟨b1,a6,a7,a1,a0,a3,a2,a5,a4⟩ w h; exact ⟨by kernel_rfl,by kernel_rfl,fun js => Eq.mpr (by kernel_rfl) (hr m b1 a6 a7 a1 a0 a3 a2 a5 a4 w h)⟩)
theorem yKg {b0:Nat} {o2_n o2_c:Nat} {o3_n o3_c:Nat} {a0 a2:Nat} (hb:w.heap[b0]? = some (.cells (Z7 i0 i1 q0 o2_n o2_c q1 o3_n o3_c) 180)) (h :
 al w (.map #[] 0) fun b3 w4 =>
 yaU yu9 (yEC 396 [0,0,1,0,1,1]) (yED [1,1,0,1,0] [] R) (yoZ (some b3) q2 a0 a2 (a0:Int) b0 i0 i1 q0 o2_n o2_c q1 o3_n o3_c 0) w4) :
 CR pP 123 #[(.pointer (some ⟨b0,0,none⟩)),.slice q2 a0 a2] w R :=
 yaO Tryz.wide_mixed (an:=yxN) Tryz.func123 rfl rfl (by kernel_rfl) rfl hb (Eq.mpr (by kernel_rfl) h)
theorem yKh {b0:Nat} {o2_n o2_c:Nat} {o3_n o3_c:Nat} (hb:w.heap[b0]? = some (.cells (Z7 i0 i1 q0 o2_n o2_c q1 o3_n o3_c) 180)) (h :
 ∀ w1,Adv [] [] w w1 → w1.heap[b0]? = some (.cells (Z7 i0 i1 q0 o2_n o2_c q1 o3_n o3_c) 180) →
 R (.tuple #[.int .i64 i0,.int .i64 i1]) w1) :
 CR pP 117 #[(.pointer (some ⟨b0,0,none⟩))] w R :=
 yaO Tryz.wide_mixed (an:=[]) Tryz.func117 rfl rfl (by kernel_rfl) rfl hb (Eq.mpr (by kernel_rfl) h)
theorem yKi {b0:Nat} {o2_n o2_c:Nat} {o3_n o3_c:Nat} (hb:w.heap[b0]? = some (.cells (Z7 i0 i1 q0 o2_n o2_c q1 o3_n o3_c) 180)) (h :
 ∀ w1,Adv [] [] w w1 → w1.heap[b0]? = some (.cells (Z7 i0 i1 q0 o2_n o2_c q1 o3_n o3_c) 180) →
 R (.int .i64 (o2_n:Int)) w1) :
 CR pP 113 #[(.pointer (some ⟨b0,0,none⟩))] w R :=
 yaO Tryz.wide_mixed (an:=[]) Tryz.func113 rfl rfl (by kernel_rfl) rfl hb (Eq.mpr (by kernel_rfl) h)
theorem yKj {b0:Nat} {o2_n o2_c:Nat} {o3_n o3_c:Nat} (hb:w.heap[b0]? = some (.cells (Z7 i0 i1 q0 o2_n o2_c q1 o3_n o3_c) 180)) (h :
 Calls pP 151 #[.slice q0 o2_n o2_c] w fun e w5 => ∃ a6 n7 c8,e = .returned (.slice a6 n7 c8) ∧ yaG [b0] w w5 ∧
 ∀ w9,Adv [] [] w5 w9 → w9.heap[b0]? = some (.cells (Z7 i0 i1 q0 o2_n o2_c q1 o3_n o3_c) 180) →
 R (.slice a6 n7 c8) w9) :
 CR pP 122 #[(.pointer (some ⟨b0,0,none⟩))] w R :=
 yaO Tryz.wide_mixed (an:=[]) Tryz.func122 rfl rfl (by kernel_rfl) rfl hb (Eq.mpr (by kernel_rfl) h)
end
def yd4 (x:Int):List Value:=[.int .i64 x]
theorem yeV (x:Int):(yd4 x).length = 1:=rfl
theorem yCk (x:Int):∀ u ∈ yd4 x,u.oneCell' = true:=by simp [yd4,Value.oneCell']
theorem yCl (x:PFound):∀ u ∈ yk0 x,u.oneCell' = true:=by simp [yk0,Value.oneCell']
theorem yKk:(Tryz.prog.info? 3).map (fun i => (i.zero,i.size,i.bytes)) = some (some (.int .i64 0),1,8):=by kernel_rfl
theorem yKl:(Tryz.prog.info? 165).map (fun i => (i.zero,i.size,i.bytes)) = some (some (.agg #[.int .i64 0,.bool false,.string ByteArray.empty,.bool false,.string ByteArray.empty]),5,56):=by kernel_rfl
theorem yjU {w:World} {B:Nat} {f:Sl} {l:List Int} {y:Int} {bs:List Nat} {F:Option Addr → Nat → Nat → World → Prop} (hR:Row w B 3 1 yd4 f.a f.n f.c l) (hl:l.length ≤ 1000000) (hB:B ≤ w.heap.size) (hbs:∀ b ∈ bs,b ∉ yaP f.a)
  (hF:∀ a' c' w',Row w' B 3 1 yd4 a' (f.n + 1) c' (l ++ [y]) → Mod (yaP f.a) w w' → (∀ k ∈ yaP a',k ∈ yaP f.a ∨ w.heap.size ≤ k) → F a' (f.n + 1) c' w') :
  al w (.cells (yd4 y).toArray 3) fun b w1 => ybN pP (Builtin.append_ #[24,24] 24 #[.slice f.a f.n f.c,.slice (some ⟨b,0,none⟩) 1 1]) w1 fun a n c w2 => yaG bs w1 w2 ∧ F a n c w2:=by
 refine ybH fun b w1 c1 M1 f1 => ?_
 have s1:=M1.size
 obtain ⟨i0,hi0,hz0,hz1,hz2⟩:=info_parts yKk
 refine ydQ (x:=y) (hR.keep0 M1) Tryz.underlying24 hi0 hz0 hz1 hz2 rfl (by decide) c1 rfl (yCk _) (by omega) (by unfold maxLen; omega) (by omega) fun a' c' w8 hR8 hM8 hk8 => ?_
 have M8:=hM8 _ (yb0 f.a)
 refine ⟨yaG.of M8 fun b hb _ => hbs b hb,hF a' c' w8 hR8 ?_ fun k hk => ?_⟩
 ·exact (M1.trans M8).less fun k hk _ => by simpa using hk
 ·rcases hk8 k hk with h | h
  ·exact .inl h
  ·exact .inr (by omega)
theorem yxO {w:World} {B:Nat} {f:Sl} {l:List PFound} {y:PFound} {bs:List Nat} {F:Option Addr → Nat → Nat → World → Prop} (hR:Row w B 165 5 yk0 f.a f.n f.c l) (hl:l.length ≤ 1000000) (hB:B ≤ w.heap.size) (hbs:∀ b ∈ bs,b ∉ yaP f.a)
  (hF:∀ a' c' w',Row w' B 165 5 yk0 a' (f.n + 1) c' (l ++ [y]) → Mod (yaP f.a) w w' → (∀ k ∈ yaP a',k ∈ yaP f.a ∨ w.heap.size ≤ k) → F a' (f.n + 1) c' w') :
  al w (.cells (yk0 y).toArray 165) fun b w1 => ybN pP (Builtin.append_ #[41,41] 41 #[.slice f.a f.n f.c,.slice (some ⟨b,0,none⟩) 1 1]) w1 fun a n c w2 => yaG bs w1 w2 ∧ F a n c w2:=by
 refine ybH fun b w1 c1 M1 f1 => ?_
 have s1:=M1.size
 obtain ⟨i0,hi0,hz0,hz1,hz2⟩:=info_parts yKl
 refine ydQ (x:=y) (hR.keep0 M1) Tryz.underlying41 hi0 hz0 hz1 hz2 rfl (by decide) c1 rfl (yCl _) (by omega) (by unfold maxLen; omega) (by omega) fun a' c' w8 hR8 hM8 hk8 => ?_
 have M8:=hM8 _ (yb0 f.a)
 refine ⟨yaG.of M8 fun b hb _ => hbs b hb,hF a' c' w8 hR8 ?_ fun k hk => ?_⟩
 ·exact (M1.trans M8).less fun k hk _ => by simpa using hk
 ·rcases hk8 k hk with h | h
  ·exact .inl h
  ·exact .inr (by omega)
def yqC (l:List PFound):List Int:=(List.range ((l.length + 7) / 8)).map fun k => ((l[8 * k]?).map (·.off)).getD 0
theorem yqD (l:List PFound):(yqC l).length = (l.length + 7) / 8:=by simp [yqC]
theorem yEE {l:List PFound} {k:Nat} {x:PFound} (h:l[8 * k]? = some x):(yqC l)[k]? = some x.off:=by
 have hk:=(List.getElem?_eq_some_iff.1 h).1
 have:k < (l.length + 7) / 8:=by omega
 simp [yqC,this,h]
theorem yxP (l:List PFound) (x:PFound):yqC (l ++ [x]) = if l.length % 8 = 0 then yqC l ++ [x.off] else yqC l:=by
 have old:∀ k:Nat,8 * k < l.length → (l ++ [x])[8 * k]? = l[8 * k]?:=fun k hk => List.getElem?_append_left hk
 unfold yqC
 by_cases g:l.length % 8 = 0
 ·rw [if_pos g]
  have e:((l ++ [x]).length + 7) / 8 = (l.length + 7) / 8 + 1:=by simp; omega
  rw [e,List.range_succ,List.map_append]
  have e2:8 * ((l.length + 7) / 8) = l.length:=by omega
  have e3:(l ++ [x])[l.length]? = some x:=by simp
  simp only [List.map_cons,List.map_nil,e2,e3]
  refine congrArg (· ++ _) (List.map_congr_left fun k hk => ?_)
  have:=List.mem_range.1 hk
  rw [old k (by omega)]
 ·rw [if_neg g]
  have e:((l ++ [x]).length + 7) / 8 = (l.length + 7) / 8:=by simp; omega
  rw [e]
  refine List.map_congr_left fun k hk => ?_
  have:=List.mem_range.1 hk
  rw [old k (by omega)]
def ycX (w:World) (b:Nat) (base next:Int) (l:List PFound) (F:List Nat):Prop :=
 ∃ sl si:Sl,w.heap[b]? = some (.cells #[.int .i64 base,.int .i64 next,.slice sl.a sl.n sl.c,.slice si.a si.n si.c] 180) ∧ Row w 0 165 5 yk0 sl.a sl.n sl.c l ∧ Row w 0 3 1 yd4 si.a si.n si.c (yqC l) ∧ F = b :: (yaP sl.a ++ yaP si.a)
theorem ycX.lt {w:World} {b:Nat} {base next:Int} {l:List PFound} {F:List Nat} (h:ycX w b base next l F):∀ k ∈ F,k < w.heap.size:=by
 obtain ⟨sl,si,hc,hl,hi,rfl⟩:=h
 intro k hk
 rcases List.mem_cons.1 hk with rfl | hk
 ·exact yaL hc
 ·rcases List.mem_append.1 hk with hk | hk
  ·exact (yaQ hl k hk).2
  ·exact (yaQ hi k hk).2
theorem ycX.self {w:World} {b:Nat} {base next:Int} {l:List PFound} {F:List Nat} (h:ycX w b base next l F):b ∈ F:=by
 obtain ⟨sl,si,hc,hl,hi,rfl⟩:=h
 simp
theorem ycX.keep {w w':World} {b:Nat} {base next:Int} {l:List PFound} {F S:List Nat} (h:ycX w b base next l F) (M:Mod S w w') (hS:∀ k ∈ S,k ∉ F):ycX w' b base next l F:=by
 obtain ⟨sl,si,hc,hl,hi,rfl⟩:=h
 exact ⟨sl,si,M.keep hc (fun hb => hS b hb (by simp)),yaE hl M (fun k hk hk' => hS k hk (by simp [hk'])),yaE hi M (fun k hk hk' => hS k hk (by simp [hk'])),rfl⟩
theorem ycX.keep0 {w w':World} {b:Nat} {base next:Int} {l:List PFound} {F:List Nat} (h:ycX w b base next l F) (M:Mod [] w w'):ycX w' b base next l F:=h.keep M (by simp)
def ybJ (w:World) (F F':List Nat):Prop:=∀ k ∈ F',k ∈ F ∨ w.heap.size ≤ k
set_option maxHeartbeats 1000000 in
theorem ysT {w:World} {b:Nat} {base next:Int} {l:List PFound} {F:List Nat} (h:ycX w b base next l F) (x:PFound) (hl:l.length ≤ 1000) :
  Calls pP 149 #[.pointer (some ⟨b,0,none⟩),x.v] w fun e w' => e = .returned (.tuple #[]) ∧ ∃ F',ycX w' b base next (l ++ [x]) F' ∧ Mod F w w' ∧ ybJ w F F':=by
 obtain ⟨sl,si,hc,hL,hI,rfl⟩:=h
 have lb:=yaL hc
 have hbl:=ycT hL hc (by decide)
 have hbi:=ycT hI hc (by decide)
 have hn:=hL.1
 have hil:(yqC l).length ≤ 1000:=by rw [yqD]; omega
 refine ya2 (yJ6 hc ?_)
 intro b2 f2
 refine ⟨by decide,?_⟩
 have et:Int.tmod (sl.n:Int) 8 = ((l.length % 8:Nat):Int):=by rw [hn,Int.tmod_eq_emod_of_nonneg (by omega)]; exact (Int.natCast_emod _ _).symm
 rw [et]
 have lkL:=yaQ hL
 have lkI:=yaQ hI
 refine yaD (fun g => ?_) fun g => ?_
 ·have g:l.length % 8 = 0:=by have:=eq_of_beq g; omega
  intro w3 A3
  have s3:=A3.mod.size
  have hL3:=hL.keep0 A3.mod
  have hI3:=hI.keep0 A3.mod
  refine yjU (y:=x.off) (f:=si) hI3 (by omega) (by omega) (fun i hi hi' => ?_) fun a7 c7 w6 hI6 M6 hk6 => ?_
  ·have:=(lkI i hi').2
   simp at hi
   rcases hi with rfl | rfl
   ·exact hbi hi'
   ·omega
  have s6:=M6.size
  intro w10 A10
  have s10:=A10.mod.size
  have hL6:=yaE hL3 M6 (ybA hI3 hL3 (by decide))
  have hL10:=yaE hL6 A10.mod (by simpa using hbl)
  have hb7:b ∉ yaP a7:=fun hb => by
   rcases hk6 b hb with h | h
   ·exact hbi h
   ·omega
  have hI10:=yaE hI6 A10.mod (by simpa using hb7)
  refine yxO (y:=x) (f:=sl) hL10 (by omega) (by omega) (fun i hi hi' => ?_) fun a14 c14 w13 hL13 M13 hk13 => ?_
  ·have:=(lkL i hi').2
   simp at hi
   rcases hi with rfl | rfl
   ·exact hbl hi'
   ·omega
  intro w17 A17 h17
  have hb14:b ∉ yaP a14:=fun hb => by
   rcases hk13 b hb with h | h
   ·exact hbl h
   ·omega
  have hI13:=yaE hI10 M13 (ybA hL10 hI10 (by decide))
  refine ⟨rfl,_,⟨⟨a14,sl.n + 1,c14⟩,⟨a7,si.n + 1,c7⟩,h17,yaE hL13 A17.mod (by simpa using hb14),?_,rfl⟩,?_,fun k hk => ?_⟩
  ·rw [yxP,if_pos g]
   exact yaE hI13 A17.mod (by simpa using hb7)
  ·refine ((((A3.mod.trans M6).trans A10.mod).trans M13).trans A17.mod).less fun k hk _ => ?_
   simp only [List.mem_append,List.nil_append,List.mem_cons,List.not_mem_nil,or_false] at hk ⊢
   rcases hk with ((hk | hk) | hk) | hk <;> simp [hk]
  ·simp only [List.mem_append,List.mem_cons] at hk ⊢
   rcases hk with rfl | hk | hk
   ·exact .inl (.inl rfl)
   ·rcases hk13 k hk with h | h
    ·exact .inl (.inr (.inl h))
    ·exact .inr (by omega)
   ·rcases hk6 k hk with h | h
    ·exact .inl (.inr (.inr h))
    ·exact .inr (by omega)
 ·have g:¬ l.length % 8 = 0:=by
   intro e; rw [e] at g; simp at g
  intro w18 A18
  have s18:=A18.mod.size
  have hL18:=hL.keep0 A18.mod
  have hI18:=hI.keep0 A18.mod
  refine yxO (y:=x) (f:=sl) hL18 (by omega) (by omega) (fun i hi hi' => ?_) fun a22 c22 w21 hL21 M21 hk21 => ?_
  ·have:=(lkL i hi').2
   simp at hi
   rcases hi with rfl | rfl
   ·exact hbl hi'
   ·omega
  intro w25 A25 h25
  have hb22:b ∉ yaP a22:=fun hb => by
   rcases hk21 b hb with h | h
   ·exact hbl h
   ·omega
  have hI21:=yaE hI18 M21 (ybA hL18 hI18 (by decide))
  refine ⟨rfl,_,⟨⟨a22,sl.n + 1,c22⟩,si,h25,yaE hL21 A25.mod (by simpa using hb22),?_,rfl⟩,?_,fun k hk => ?_⟩
  ·rw [yxP,if_neg g]
   exact yaE hI21 A25.mod (by simpa using hbi)
  ·refine ((A18.mod.trans M21).trans A25.mod).less fun k hk _ => ?_
   simp only [List.mem_append,List.nil_append,List.mem_cons,List.not_mem_nil,or_false] at hk ⊢
   rcases hk with hk | hk <;> simp [hk]
  ·simp only [List.mem_append,List.mem_cons] at hk ⊢
   rcases hk with rfl | hk | hk
   ·exact .inl (.inl rfl)
   ·rcases hk21 k hk with h | h
    ·exact .inl (.inr (.inl h))
    ·exact .inr (by omega)
   ·exact .inl (.inr (.inr hk))
theorem ycX.types {w:World} {b:Nat} {base next:Int} {l:List PFound} {F:List Nat} (h:ycX w b base next l F):∀ k ∈ F,∀ cs T,w.heap[k]? = some (.cells cs T) → T = 180 ∨ T = 165 ∨ T = 3:=by
 obtain ⟨sl,si,hc,hl,hi,rfl⟩:=h
 intro k hk cs T hT
 rcases List.mem_cons.1 hk with rfl | hk
 ·rw [hc] at hT; cases hT; exact .inl rfl
 ·rcases List.mem_append.1 hk with hk | hk
  ·obtain ⟨_,_,cur,h1⟩:=yaS hl k hk
   rw [h1] at hT; cases hT; exact .inr (.inl rfl)
  ·obtain ⟨_,_,cur,h1⟩:=yaS hi k hk
   rw [h1] at hT; cases hT; exact .inr (.inr rfl)
theorem ybJ.trans {w w':World} {F F' F'':List Nat} (h:ybJ w F F') (h':ybJ w' F' F'') (hs:w.heap.size ≤ w'.heap.size):ybJ w F F'':=fun k hk => by
 rcases h' k hk with h1 | h1
 ·exact h k h1
 ·exact .inr (by omega)
theorem ybJ.refl (w:World) (F:List Nat):ybJ w F F:=fun k hk => .inl hk
theorem Mod.grow {w w' w'':World} {F F':List Nat} (M:Mod F w w') (h:ybJ w F F') (M':Mod F' w' w''):Mod F w w'' :=
 (M.trans M').less fun k hk hlt => by
  rcases List.mem_append.1 hk with hk | hk
  ·exact hk
  ·rcases h k hk with h1 | h1
   ·exact h1
   ·omega
def yt1 (l:List PRec):Int:=match l.find? fun r => decide (yjO r ≠ 0) with
 | none => 0
 | some r => yjO r
theorem yxQ {l:List PRec} {k:Nat} {r:PRec} (h:l[k]? = some r) (hr:yjO r ≠ 0) (hb:∀ y ∈ l.take k,yjO y = 0):yt1 l = yjO r:=by
 have e:l = l.take k ++ r :: l.drop (k + 1):=by
  obtain ⟨h1,h2⟩:=List.getElem?_eq_some_iff.1 h
  rw [← h2,← List.drop_eq_getElem_cons h1,List.take_append_drop]
 have:l.find? (fun r => decide (yjO r ≠ 0)) = some r:=by
  rw [e,List.find?_append,List.find?_eq_none.2 (by intro y hy; simpa using hb y hy)]
  simp [hr]
 rw [yt1,this]
theorem ysU {l:List PRec} (hb:∀ y ∈ l,yjO y = 0):yt1 l = 0:=by
 have:l.find? (fun r => decide (yjO r ≠ 0)) = none:=List.find?_eq_none.2 (by intro y hy; simpa using hb y hy)
 rw [yt1,this]
theorem yKm {w:World} {a:Option Addr} {n c:Nat} {l:List PRec} (h:ybD w 4 yhI a n l) (hl:l.length ≤ 1000000) :
  Calls pP 148 #[.slice a n c] w fun e w' => e = .returned (.int .i64 (yt1 l)) ∧ Mod [] w w':=by
 have hn:=h.1
 refine ya2 (yJ5 ?_)
 refine yB9 (fun mm x w' => ∃ k:Nat,x = k ∧ k ≤ l.length ∧ (∀ y ∈ l.take k,yjO y = 0) ∧ Mod [] w w' ∧ mm = l.length - k) l.length ⟨0,rfl,by omega,by simp,Mod.refl _,rfl⟩ ?_
 rintro mm x w1 ⟨k,rfl,hk,hb,M1,rfl⟩
 refine yaH (fun hlt => ?_) fun hge => ?_
 ·obtain ⟨r,hr⟩:∃ r,l[k]? = some r:=⟨_,List.getElem?_eq_getElem (by omega)⟩
  refine (h.keep0 M1).ix hr fun q hq => ya1 (by simpa [add_zero] using hq 0 _ rfl) (yaN (hq 1 _ rfl) (ya1 (hq 2 _ rfl) (yaN (hq 3 _ rfl) ?_)))
  intro b12 f12 w16 A16
  have N16:=M1.go0 A16.mod (by simp)
  refine (yh0 r w16).mono ?_
  rintro _ w17 ⟨rfl,M17⟩
  have N17:=N16.go0 M17 (by simp)
  refine ⟨_,rfl,yaG.of0 M17,yaD (fun g => ?_) fun g => ?_⟩
  ·exact ⟨by rw [yxQ hr (by simpa using g) hb],N17⟩
  ·refine yB8 (l.length - (k + 1)) (by omega) ⟨k + 1,by rw [yaJ (by omega) (by omega)]; omega,by omega,?_,N17,rfl⟩
   rw [yd2 hr]
   intro y hy
   rcases List.mem_append.1 hy with hy | hy
   ·exact hb y hy
   ·simp at hy; subst hy; simpa using g
 ·have hk:k = l.length:=by omega
  subst hk
  rw [List.take_length] at hb
  exact ⟨by rw [ysU hb],M1⟩
def ynQ:Int → List PRec → List PFound
 | _,[] => []
 | n,r :: rs => ⟨n,r⟩ :: ynQ (n + 1) rs
theorem yqE:∀ (n:Int) (l:List PRec) (r:PRec),ynQ n (l ++ [r]) = ynQ n l ++ [⟨n + l.length,r⟩]
 | n,[],r => by simp [ynQ]
 | n,x :: l,r => by
  rw [List.cons_append,ynQ,ynQ,yqE (n + 1) l r]
  have:n + 1 + (l.length:Int) = n + ((x :: l).length:Int):=by simp; omega
  rw [this]; rfl
theorem yqF:∀ (n:Int) (l:List PRec),(ynQ n l).length = l.length
 | _,[] => rfl
 | n,_ :: l => by simp [ynQ,yqF (n + 1) l]
def yAJ (next:Int) (l:List PFound) (rs:List PRec):Int:=if yt1 rs ≠ 0 then yt1 rs else if l.length + rs.length > 64 ∨ next + rs.length > 1099511627776 then 50 else 0
set_option maxHeartbeats 1000000 in
theorem ysV {w:World} {b:Nat} {base next:Int} {l:List PFound} {F:List Nat} (h:ycX w b base next l F) {a:Option Addr} {n c:Nat} {rs:List PRec} (hr:∀ w',Mod F w w' → ybD w' 4 yhI a n rs) (hrl:rs.length ≤ 1000000) (hl:l.length ≤ 64) (h0:0 ≤ next) (h1:next ≤ 1099511627776) :
  Calls pP 114 #[.pointer (some ⟨b,0,none⟩),.slice a n c] w fun e w' => e = .returned (.tuple #[.int .i64 (if yAJ next l rs = 0 then next else 0),.int .i64 (yAJ next l rs)]) ∧
   if yAJ next l rs = 0 then ∃ F',ycX w' b base (next + rs.length) (l ++ ynQ next rs) F' ∧ Mod F w w' ∧ ybJ w F F' else Mod [] w w' ∧ ycX w' b base next l F:=by
 obtain ⟨sl,si,hc,hL,hI,hF⟩:=id h
 have hr0:=hr w ((Mod.refl w).less (by simp))
 have hn:=hr0.1
 have hLn:=hL.1
 refine ya2 (yJ7 hc ?_)
 refine (yKm hr0 hrl).mono ?_
 rintro _ w3 ⟨rfl,M3⟩
 have h3:=h.keep0 M3
 refine ⟨_,rfl,yaG.of0 M3,yaD (fun g => ?_) fun g => ?_⟩
 ·have g:yt1 rs ≠ 0:=by simpa using g
  have e:yAJ next l rs = yt1 rs:=by rw [yAJ,if_pos g]
  intro w5 A5 _
  rw [e,if_neg g,if_neg g]
  exact ⟨rfl,M3.go0 A5.mod (by simp),h3.keep0 A5.mod⟩
 have g:yt1 rs = 0:=by simpa using g
 have e1:IntKind.wrap .i64 ((sl.n:Int) + (n:Int)) = (l.length:Int) + rs.length:=by rw [yaJ (by omega) (by omega)]; omega
 have e2:IntKind.wrap .i64 (next + (n:Int)) = next + rs.length:=by rw [yaJ (by omega) (by omega)]; omega
 rw [e1,e2]
 have bad:l.length + rs.length > 64 ∨ next + rs.length > 1099511627776 → yAJ next l rs = 50:=fun hg => by rw [yAJ,if_neg (by simpa using g),if_pos hg]
 refine yaH (fun g1 => ?_) fun g1 => ?_
 ·refine yaH (fun _ => ?_) fun g2 => by omega
  intro w5 A5 _
  rw [bad (.inl (by omega)),if_neg (by decide),if_neg (by decide)]
  exact ⟨rfl,M3.go0 A5.mod (by simp),h3.keep0 A5.mod⟩
 refine yaH (fun g2 => ?_) fun g2 => ?_
 ·intro w5 A5 _
  rw [bad (.inr (by omega)),if_neg (by decide),if_neg (by decide)]
  exact ⟨rfl,M3.go0 A5.mod (by simp),h3.keep0 A5.mod⟩
 have good:yAJ next l rs = 0:=by rw [yAJ,if_neg (by simpa using g),if_neg (by omega)]
 simp only [good,↓reduceIte]
 intro w5 A5 hc5
 have h5:=h3.keep0 A5.mod
 have K5:Mod [] w w5:=M3.go0 A5.mod (by simp)
 refine yCb (fun mm x x0 x1 a2 n2 c2 a3 n3 c3 w' => ∃ (k:Nat) (F':List Nat),x = k ∧ k ≤ rs.length ∧ x0 = base ∧ x1 = next + k ∧ w'.heap[b]? = some (.cells #[.int .i64 x0,.int .i64 x1,.slice a2 n2 c2,.slice a3 n3 c3] 180) ∧ ycX w' b base (next + k) (l ++ ynQ next (rs.take k)) F' ∧ Mod F w w' ∧ ybJ w F F' ∧ mm = rs.length - k) rs.length
  ⟨0,F,rfl,by omega,rfl,by omega,hc5,by simpa [ynQ] using h5,K5.less (by simp),ybJ.refl _ _,rfl⟩ ?_
 rintro mm x x0 x1 a2 n2 c2 a3 n3 c3 w1 ⟨k,F1,rfl,hk,rfl,rfl,hc1,hS1,M1,G1,rfl⟩
 intro _
 have s1:=M1.size
 refine yaH (fun hlt => ?_) fun hge => ?_
 ·obtain ⟨r,hrk⟩:∃ r,rs[k]? = some r:=⟨_,List.getElem?_eq_getElem (by omega)⟩
  have hcur:(l ++ ynQ next (rs.take k)).length ≤ 1000:=by rw [List.length_append,yqF,List.length_take]; omega
  refine (hr w1 M1).ix hrk fun q hq => ya1 (by simpa [add_zero] using hq 0 _ rfl) (yaN (hq 1 _ rfl) (ya1 (hq 2 _ rfl) (yaN (hq 3 _ rfl) ?_)))
  intro b18 f18 w19 A19 _
  have hS19:=hS1.keep0 A19.mod
  have l18:=A19.lt b18 (by simp)
  refine (ysT hS19 ⟨next + k,r⟩ hcur).mono ?_
  rintro _ w20 ⟨rfl,F2,hS20,M20,G20⟩
  have ltF:=hS1.lt
  refine ⟨rfl,yaG.of M20 (fun i hi _ hc => by simp at hi; subst hi; have:=ltF i hc; omega),?_⟩
  obtain ⟨sl',si',hc20,hL20,hI20,hF2⟩:=hS20
  refine ⟨_,_,_,_,_,_,_,_,hc20,?_⟩
  have e3:IntKind.wrap .i64 (next + (k:Int) + 1) = next + ((k + 1:Nat):Int):=by rw [yaJ (by omega) (by omega)]; omega
  rw [e3]
  intro w29 A29 h29
  have tl:(rs.take k).length = k:=by rw [List.length_take]; omega
  have hb20l:=ycT hL20 hc20 (by decide)
  have hb20i:=ycT hI20 hc20 (by decide)
  have hS29:ycX w29 b x0 (next + ((k + 1:Nat):Int)) (l ++ ynQ next (rs.take (k + 1))) F2:=by
   refine ⟨sl',si',h29,?_,?_,hF2⟩
   ·rw [yd2 hrk,yqE,tl,← List.append_assoc]
    exact yaE hL20 A29.mod (by simpa using hb20l)
   ·rw [yd2 hrk,yqE,tl,← List.append_assoc]
    exact yaE hI20 A29.mod (by simpa using hb20i)
  have hbF:b ∈ F:=h.self
  have M19:Mod F w w19:=(M1.trans A19.mod).less fun z hz _ => by simpa using hz
  have s19:=M19.size
  have G2:ybJ w F F2:=G1.trans G20 (by omega)
  have M20':Mod F w w20:=M19.grow G1 M20
  have M29:Mod F w w29:=(M20'.trans A29.mod).less fun z hz _ => by
   simp at hz
   rcases hz with hz | rfl
   ·exact hz
   ·exact hbF
  exact yCa (rs.length - (k + 1)) (by omega) ⟨k + 1,F2,by rw [yaJ (by omega) (by omega)]; omega,by omega,rfl,rfl,h29,hS29,M29,G2,rfl⟩
 ·have hk:k = rs.length:=by omega
  subst hk
  rw [List.take_length] at hS1
  exact ⟨rfl,F1,hS1,M1,G1⟩
theorem yG6 {i j:Nat} (hi:i ≤ 1000000) (hj:j ≤ 1000000):IntKind.wrap .i64 (Int.fdiv (IntKind.wrap .u64 (IntKind.wrap .i64 ((i:Int) + (j:Int)))) (2 ^ (min (Int.toNat 1) 64))) = (((i + j) / 2:Nat):Int):=by
 have e2:(2:Int) ^ (min (Int.toNat 1) 64) = 2:=by decide
 rw [e2,yaJ (x:=(i:Int) + (j:Int)) (by omega) (by omega),IntKind.wrap_u64,Int.fdiv_eq_ediv_of_nonneg _ (by decide),yaJ (by omega) (by omega)]
 omega
def yiZ (l:List PFound) (from_:Int):Nat:=(l.takeWhile fun f => decide (f.off < from_)).length
theorem yEF (l:List PFound) (from_:Int):yiZ l from_ ≤ l.length:=by
 unfold yiZ
 exact (List.takeWhile_sublist _).length_le
theorem yCm {l:List PFound} {from_:Int} {i:Nat} (hi:i ≤ l.length) (hb:∀ y ∈ l.take i,y.off < from_) (he:∀ x,l[i]? = some x → ¬ x.off < from_):yiZ l from_ = i:=by
 have e:l.takeWhile (fun f => decide (f.off < from_)) = l.take i ++ (l.drop i).takeWhile fun f => decide (f.off < from_):=by
  have h:=List.takeWhile_append_of_pos (p:=fun f:PFound => decide (f.off < from_)) (l₁:=l.take i) (l₂:=l.drop i) (fun a ha => decide_eq_true (hb a ha))
  rwa [List.take_append_drop] at h
 have e2:(l.drop i).takeWhile (fun f => decide (f.off < from_)) = []:=by
  cases hx:l[i]? with
  | none =>
   have:l.length ≤ i:=List.getElem?_eq_none_iff.1 hx
   rw [List.drop_of_length_le this]; rfl
  | some x =>
   obtain ⟨h1,h2⟩:=List.getElem?_eq_some_iff.1 hx
   rw [List.drop_eq_getElem_cons h1,h2,List.takeWhile_cons_of_neg (by simpa using he x hx)]
 rw [yiZ,e,e2,List.append_nil,List.length_take]
 omega
theorem yKn {w:World} {b b3 b4:Nat} {base next from_:Int} {l:List PFound} {sl si:Sl} (hc:w.heap[b]? = some (.cells #[.int .i64 base,.int .i64 next,.slice sl.a sl.n sl.c,.slice si.a si.n si.c] 180)) (hI:Row w 0 3 1 yd4 si.a si.n si.c (yqC l))
  {T3 T4:TypeId} (h3:w.heap[b3]? = some (.cells #[.pointer (some ⟨b,0,none⟩)] T3)) (h4:w.heap[b4]? = some (.cells #[.int .i64 from_] T4)) {i:Nat} {x:Int} (hx:(yqC l)[i]? = some x) :
  Calls pP 167 #[.int .i64 (i:Int),.pointer (some ⟨b3,0,none⟩),.pointer (some ⟨b4,0,none⟩)] w fun e w' => e = .returned (.bool (decide (x > from_))) ∧ Mod [] w w':=by
 refine ya2 (yKb ?_)
 refine yfY (x:=some ⟨b,0,none⟩) (by rw [yaY h3]; rfl) (ydW ?_)
 refine yaT (x:=si.a) (n:=si.n) (c:=si.c) (by rw [ycE,yaY hc]; rfl) ?_
 refine (hI.sl yeV).ix hx fun q hq => yaI (x:=x) (by simpa [add_zero] using hq 0 _ rfl) ?_
 refine yaI (x:=from_) (by rw [yaY h4]; rfl) ?_
 intro w9 A9
 exact ⟨rfl,A9.mod⟩
theorem yCn {w:World} {b b3 b4:Nat} {base next from_:Int} {l:List PFound} {sl si:Sl} (hl:l.length ≤ 1000) (hc:w.heap[b]? = some (.cells #[.int .i64 base,.int .i64 next,.slice sl.a sl.n sl.c,.slice si.a si.n si.c] 180)) (hI:Row w 0 3 1 yd4 si.a si.n si.c (yqC l))
  {T3 T4:TypeId} (h3:w.heap[b3]? = some (.cells #[.pointer (some ⟨b,0,none⟩)] T3)) (h4:w.heap[b4]? = some (.cells #[.int .i64 from_] T4)) :
  Calls pP 166 #[.int .i64 (si.n:Int),.func (.func 167) #[] #[.pointer (some ⟨b3,0,none⟩),.pointer (some ⟨b4,0,none⟩)]] w fun e w' => ∃ v,e = .returned v ∧ ∃ r:Nat,v = .int .i64 (r:Int) ∧ r ≤ (yqC l).length ∧ (r = 0 ∨ ∃ x,(yqC l)[r - 1]? = some x ∧ x ≤ from_) ∧ Mod [] w w':=by
 have hn:=hI.1
 have hil:(yqC l).length ≤ 1000:=by rw [yqD]; omega
 refine yKe ?_
 refine yCf (fun mm x5 x6 w' => ∃ i j:Nat,x5 = i ∧ x6 = j ∧ i ≤ j ∧ j ≤ (yqC l).length ∧ (i = 0 ∨ ∃ x,(yqC l)[i - 1]? = some x ∧ x ≤ from_) ∧ Mod [] w w' ∧ mm = j - i) si.n ⟨0,si.n,rfl,rfl,by omega,by omega,.inl rfl,Mod.refl _,rfl⟩ ?_
 rintro mm x5 x6 w1 ⟨i,j,rfl,rfl,hij,hj,hi,M1,rfl⟩
 refine yaH (fun hlt => ?_) fun hge => ?_
 ·rw [yG6 (by omega) (by omega)]
  generalize hh:(i + j) / 2 = h
  obtain ⟨x,hx⟩:∃ x,(yqC l)[h]? = some x:=⟨_,List.getElem?_eq_getElem (by omega)⟩
  refine ⟨by decide,(yKn (M1.keep0 hc) (hI.keep0 M1) (M1.keep0 h3) (M1.keep0 h4) hx).mono ?_⟩
  rintro _ w2 ⟨rfl,M2⟩
  have N2:=M1.go0 M2 (by simp)
  refine ⟨_,rfl,yaD (fun g => ?_) fun g => ?_⟩
  ·have g:¬ x > from_:=by simpa using g
   exact ysR (j - (h + 1)) (by omega) ⟨h + 1,j,by rw [yaJ (by omega) (by omega)]; omega,rfl,by omega,hj,.inr ⟨x,by simpa using hx,by omega⟩,N2,rfl⟩
  ·exact ysR (h - i) (by omega) ⟨i,h,rfl,rfl,by omega,by omega,hi,N2,rfl⟩
 ·have:i = j:=by omega
  subst this
  exact ⟨i,rfl,hj,hi,M1⟩
set_option maxHeartbeats 1000000 in
theorem yG7 {w:World} {b:Nat} {base next:Int} {l:List PFound} {F:List Nat} (h:ycX w b base next l F) (hl:l.length ≤ 1000) (hs:l.Pairwise fun a b => a.off < b.off) (from_:Int) :
  Calls pP 150 #[.pointer (some ⟨b,0,none⟩),.int .i64 from_] w fun e w' => e = .returned (.int .i64 (yiZ l from_:Nat)) ∧ Mod [] w w':=by
 obtain ⟨sl,si,hc,hL,hI,hF⟩:=h
 have hLn:=hL.1
 refine ya2 (yKa hc ?_)
 intro b3 f3 b4 f4 w22 A22 h22
 refine yaT (x:=si.a) (n:=si.n) (c:=si.c) (by rw [yaY h22]; rfl) ?_
 intro w26 A26 h26 h3 h4
 have K26:Mod [] w w26:=A22.mod.go0 A26.mod (by simp)
 refine (yCn (from_:=from_) hl h26 (hI.keep0 K26) h3 h4).mono ?_
 rintro _ w27 ⟨_,rfl,r,rfl,hr,hri,M27⟩
 have K27:=K26.go0 M27 (by simp)
 refine ⟨_,rfl,_,_,_,_,_,_,_,_,M27.keep0 h26,_,M27.keep0 h3,_,M27.keep0 h4,?_⟩
 rw [yqD] at hr
 have ei:IntKind.wrap .i64 ((if 0 > (IntKind.wrap .i64 ((r:Int) - 1)) then 0 else (IntKind.wrap .i64 ((r:Int) - 1))) * 8) = ((8 * (r - 1):Nat):Int):=by
  rw [yaJ (x:=(r:Int) - 1) (by omega) (by omega)]
  split
  ·rw [yaJ (by omega) (by omega)]; omega
  ·rw [yaJ (by omega) (by omega)]; omega
 rw [ei]
 have h0:∀ y ∈ l.take (8 * (r - 1)),y.off < from_:=fun y hy => by
  rcases hri with rfl | ⟨x,hx,hxf⟩
  ·simp at hy
  ·obtain ⟨j,hj⟩:=List.mem_iff_getElem?.1 hy
   rw [List.getElem?_take] at hj
   split at hj
   ·rename_i hjr
    have hlt:8 * (r - 1) < l.length:=by omega
    have hx2:=yEE (k:=r - 1) (List.getElem?_eq_getElem hlt)
    rw [hx] at hx2
    cases hx2
    obtain ⟨hj1,hj2⟩:=List.getElem?_eq_some_iff.1 hj
    have:=List.pairwise_iff_getElem.1 hs j (8 * (r - 1)) hj1 hlt hjr
    rw [hj2] at this
    omega
   ·cases hj
 refine yCd (fun mm x w' => ∃ i:Nat,x = i ∧ i ≤ l.length ∧ (∀ y ∈ l.take i,y.off < from_) ∧ Mod [] w w' ∧ mm = l.length - i) (l.length - 8 * (r - 1)) ⟨_,rfl,by omega,h0,K27,rfl⟩ ?_
 rintro mm x w1 ⟨i,rfl,hi,hb,M1,rfl⟩
 intro hc1 h31 h41
 refine ydW ?_
 refine yaT (x:=sl.a) (n:=sl.n) (c:=sl.c) (by rw [ycE,yaY hc1]; rfl) ?_
 refine yaH (fun hlt => ?_) fun hge => ?_
 ·refine ydW ?_
  refine yaT (x:=sl.a) (n:=sl.n) (c:=sl.c) (by rw [ycE,yaY hc1]; rfl) ?_
  obtain ⟨x,hx⟩:∃ x,l[i]? = some x:=⟨_,List.getElem?_eq_getElem (by omega)⟩
  refine ((hL.keep0 M1).sl yeI).ix hx fun q hq => yaI (x:=x.off) (by simpa [add_zero] using hq 0 _ rfl) ?_
  refine yaH (fun g => ?_) fun g => ?_
  ·intro w49 A49 _ _ _
   refine yCc (l.length - (i + 1)) (by omega) ⟨i + 1,by rw [yaJ (by omega) (by omega)]; omega,by omega,?_,M1.go0 A49.mod (by simp),rfl⟩
   rw [yd2 hx]
   intro y hy
   rcases List.mem_append.1 hy with hy | hy
   ·exact hb y hy
   ·simp at hy; subst hy; exact g
  ·intro w50 A50 _ _ _
   refine ⟨?_,M1.go0 A50.mod (by simp)⟩
   rw [yCm hi hb fun y hy => by rw [hx] at hy; cases hy; exact g]
 ·intro w51 A51 _ _ _
  refine ⟨?_,M1.go0 A51.mod (by simp)⟩
  rw [yCm hi hb fun y hy => by have:=(List.getElem?_eq_some_iff.1 hy).1; omega]
theorem ysW {α:Type} {w:World} {sz:Nat} {enc:α → List Value} {a:Option Addr} {n c:Nat} {l:List α} {k:Nat} {F:Option Addr → Nat → Nat → Prop} (h:ybD w sz enc a n l) (hk:k ≤ n) (hc:n ≤ c) (hF:∀ a' c',n - k ≤ c' → ybD w sz enc a' (n - k) (l.drop k) → F a' (n - k) c'):slV a c (k:Int) ((n:Nat):Int) (c:Int) sz F:=by
 obtain ⟨h1,h2,h3,h4,h5⟩:=ywK (F:=fun a' m c' => m ≤ c' → F a' m c') h hk hc fun a' c' hs hb => hF a' c' hb hs
 exact ⟨h1,h2,h3,h4,h5 (by omega)⟩
def yzE (l:List PFound) (from_ n:Int):List PFound:=(l.drop (yiZ l from_)).take n.toNat
set_option maxHeartbeats 1000000 in
theorem yzF {w:World} {b:Nat} {base next:Int} {l:List PFound} {F:List Nat} (h:ycX w b base next l F) (hl:l.length ≤ 1000) (hs:l.Pairwise fun a b => a.off < b.off) (from_ n:Int) :
  Calls pP 118 #[.pointer (some ⟨b,0,none⟩),.int .i64 from_,.int .i64 n] w fun e w' => ∃ v,e = .returned v ∧ ∃ s':Sl,v = .slice s'.a s'.n s'.c ∧ Row w' w.heap.size 165 5 yk0 s'.a s'.n s'.c (yzE l from_ n) ∧ Mod [] w w':=by
 obtain ⟨sl,si,hc,hL,hI,hF⟩:=id h
 have hLn:=hL.1
 have hLc:sl.n ≤ sl.c:=hL.cap
 refine yKf hc ?_
 intro w1 A1 h1
 refine (yG7 (h.keep0 A1.mod) hl hs from_).mono ?_
 rintro _ w2 ⟨rfl,M2⟩
 have K2:=A1.mod.go0 M2 (by simp)
 have hk:=yEF l from_
 refine ⟨_,rfl,_,_,_,_,_,_,_,_,M2.keep0 h1,rfl,?_⟩
 have hS2:=(hL.keep0 K2).sl yeI
 refine ysW hS2 (by omega) hLc fun a' c' hcb hs' => ?_
 have em:(if (if ((sl.n - yiZ l from_:Nat):Int) < n then ((sl.n - yiZ l from_:Nat):Int) else n) > 0 then (if ((sl.n - yiZ l from_:Nat):Int) < n then ((sl.n - yiZ l from_:Nat):Int) else n) else 0) = ((min n.toNat (sl.n - yiZ l from_):Nat):Int):=by
  split <;> split <;> omega
 rw [em]
 refine ywJ hs' (by omega) hcb fun a2 c2 hs2 => ?_
 have ed:(l.drop (yiZ l from_)).take (min n.toNat (sl.n - yiZ l from_)) = yzE l from_ n:=by
  unfold yzE
  rw [List.take_eq_take_iff]
  rw [List.length_drop]; omega
 rw [ed] at hs2
 refine (ysA (s:=⟨a2,min n.toNat (sl.n - yiZ l from_),c2⟩) hs2 (by rw [← ed,List.length_take,List.length_drop]; omega)).mono ?_
 rintro _ w33 ⟨_,rfl,s',rfl,hR,M33⟩
 refine ⟨_,_,_,rfl,_,_,_,_,_,_,_,_,M33.keep0 (M2.keep0 h1),s',rfl,hR.rebase K2.size,K2.go0 M33 (by simp)⟩
end Go.Proofs.YtkepmmocldnnfaaGreat
namespace Go.Proofs.YtkepmmocldnnfaaGreat
open Go Go.RowKit Go.Maps Go.MapKept
set_option linter.unusedVariables false
set_option linter.unusedSimpArgs false
section
variable {κ β:Type} [DecidableEq κ] {P:Program} {t T e:TypeId} {ek:κ → Value} {ev:β → Value} {w:World} {b:Nat} {L:List (κ × β)} {k:κ} {l:Lit}
theorem yaX.keepM {w':World} {S:List Nat} (h:yaX P t ek ev w b L) (M:Mod S w w') (hb:b ∉ S):yaX P t ek ev w' b L:=h.of_block (M.block _ h.lt hb)
theorem yaX.keepM0 {w':World} (h:yaX P t ek ev w b L) (M:Mod [] w w'):yaX P t ek ev w' b L:=h.keepM M (by simp)
theorem yaX.setU (h:yaX P t ek ev w b L) (K:Keyed P t) (hi:∀ a b,ek a = ek b → a = b) (ht:P.underlying T = some (.map t e)) (v:β) (hk:keyOf P t (ek k) = some l) {es bs:List Nat} {ts:List (Nat × TypeId)} {F:World → Prop} (hbs:b ∉ bs)
  (hF:∀ w',yaX P t ek ev w' b (put L k v) → Mod [b] w w' → F w'):yc7 P (Instr.mapUpdate T (.map (some b)) (ek k) (ev v)) w fun w' => yb9 es ts bs w w' ∧ F w':=by
 obtain ⟨o,ho1,ho2⟩:=h.update K hi ht v hk
 exact ⟨_,ho1,yaG.of ycB (fun b' hb _ hc => hbs (by simp at hc; subst hc; exact hb)),hF _ ho2 ycB⟩
theorem yaX.lkT (h:yaX P t ek ev w b L) (K:Keyed P t) (hi:∀ a b,ek a = ek b → a = b) (ht:P.underlying T = some (.map t e)) {d:β} (hz:∀ w',(zeroValue e).run P w' = .ok (ev d) w') (hk:keyOf P t (ek k) = some l) :
  ∀ w',Mod [] w w' → (Instr.lookup T (.map (some b)) (ek k) true).run P w' = .ok (.tuple #[ev ((lkp L k).getD d),.bool (lkp L k).isSome]) w':=fun w' M => by
 have:=(h.keepM0 M).look (T:=T) true K hi ht (hz w') hk
 have e:(lkp L k).elim (ev d) ev = ev ((lkp L k).getD d):=by cases lkp L k <;> rfl
 rw [e] at this
 exact this
theorem yaX.lkF (h:yaX P t ek ev w b L) (K:Keyed P t) (hi:∀ a b,ek a = ek b → a = b) (ht:P.underlying T = some (.map t e)) {d:β} (hz:∀ w',(zeroValue e).run P w' = .ok (ev d) w') (hk:keyOf P t (ek k) = some l) :
  ∀ w',Mod [] w w' → (Instr.lookup T (.map (some b)) (ek k) false).run P w' = .ok (ev ((lkp L k).getD d)) w':=fun w' M => by
 have:=(h.keepM0 M).look (T:=T) false K hi ht (hz w') hk
 have e:(lkp L k).elim (ev d) ev = ev ((lkp L k).getD d):=by cases lkp L k <;> rfl
 rw [e] at this
 exact this
theorem yaX.lkP (h:yaX P t ek ev w b L) (K:Keyed P t) (hi:∀ a b,ek a = ek b → a = b) (ht:P.underlying T = some (.map t e)) {z:Value} (hz:∀ w',(zeroValue e).run P w' = .ok z w') (hk:keyOf P t (ek k) = some l) :
  ∀ w',Mod [] w w' → (Instr.lookup T (.map (some b)) (ek k) false).run P w' = .ok ((lkp L k).elim z ev) w':=fun w' M => by
 have:=(h.keepM0 M).look (T:=T) false K hi ht (hz w') hk
 exact this
end
abbrev hkb:Bool → Value:=fun t => .bool t
abbrev hks:ByteArray → Value:=fun s => .string s
theorem ybW:∀ a b:ByteArray,hks a = hks b → a = b:=by intro a b h; simpa [hks] using h
theorem ye0:Keyed pP 9:=string_keyed Tryz.underlying9
theorem yb1 {s:ByteArray} (h:s.size ≤ maxLen):keyOf pP 9 (hks s) = some (.string s.data.toList):=Go.WideMaps.keyOf_string_mk Tryz.underlying9 h
abbrev hkp:PPart → Value:=fun p => .agg #[.string p.t,.int .i64 p.n]
theorem yCo:∀ a b:PPart,hkp a = hkp b → a = b:=by rintro ⟨a,b⟩ ⟨c,d⟩ h; simp [hkp] at h; simp [h]
theorem yKo:Keyed pP 26 :=
 Keyed.of_law (deep_law_laid (by kernel_rfl) (m:=2) (by omega) (of_decide_eq_true (by kernel_rfl)) (by kernel_rfl) (by rw [Tryz.underlying26]))
set_option maxRecDepth 100000 in
theorem yCp {p:PPart} (h1:p.t.size ≤ maxLen) (h2:s64 p.n):∃ l,keyOf pP 26 (hkp p) = some l:=by
 obtain ⟨a,b⟩:=p
 have hk:Tryz.prog.keyType 26 = true:=by kernel_rfl
 have hc:Tryz.prog.cellsOf 26 = 2:=by kernel_rfl
 have hc1:Tryz.prog.cellsOf 3 = 1:=by kernel_rfl
 have hc2:Tryz.prog.cellsOf 9 = 1:=by kernel_rfl
 have hf:(hkp ⟨a,b⟩).formed pP 26 = true:=by simp [Value.formed,Tryz.underlying26,hc,hkp]
 obtain ⟨s,hs⟩:∃ s,Tryz.prog.types.size = s + 1:=⟨Tryz.prog.types.size - 1,(Nat.succ_pred_eq_of_pos (of_decide_eq_true (by kernel_rfl))).symm⟩
 have hl:∃ l,Tryz.prog.keyLits (Tryz.prog.types.size + 1) 26 (hkp ⟨a,b⟩).cells.toList = some l:=by
  rw [hs]
  simp [Program.keyLits,Tryz.underlying26,Tryz.underlying3,Tryz.underlying9,hc,hc1,hc2,hkp,Value.cells,List.range,List.range.loop,hfr h2,show a.size ≤ maxLen from h1]
 obtain ⟨l,hl⟩:=hl
 exact ⟨.string (keyBytes l),by unfold keyOf; simp only [Tryz.underlying26,hk,hf,Bool.and_self,if_true,hl,Option.map_some]⟩
abbrev hko:ByteArray × PPart → Value:=fun k => .agg #[.string k.1,.string k.2.t,.int .i64 k.2.n]
theorem ymS:∀ a b:ByteArray × PPart,hko a = hko b → a = b:=by rintro ⟨x,a,b⟩ ⟨y,c,d⟩ h; simp [hko] at h; simp [h]
theorem yEG:Keyed pP 216 :=
 Keyed.of_law (deep_law_laid (by kernel_rfl) (m:=3) (by omega) (of_decide_eq_true (by kernel_rfl)) (by kernel_rfl) (by rw [Tryz.underlying216]))
set_option maxRecDepth 100000 in
theorem yCq {k:ByteArray × PPart} (h0:k.1.size ≤ maxLen) (h1:k.2.t.size ≤ maxLen) (h2:s64 k.2.n):∃ l,keyOf pP 216 (hko k) = some l:=by
 obtain ⟨g,a,b⟩:=k
 have hk:Tryz.prog.keyType 216 = true:=by kernel_rfl
 have hc:Tryz.prog.cellsOf 216 = 3:=by kernel_rfl
 have hc1:Tryz.prog.cellsOf 3 = 1:=by kernel_rfl
 have hc2:Tryz.prog.cellsOf 9 = 1:=by kernel_rfl
 have hc3:Tryz.prog.cellsOf 26 = 2:=by kernel_rfl
 have hf:(hko ⟨g,a,b⟩).formed pP 216 = true:=by simp [Value.formed,Tryz.underlying216,hc,hko]
 obtain ⟨s,hs⟩:∃ s,Tryz.prog.types.size = s + 2:=⟨Tryz.prog.types.size - 2,(Nat.sub_add_cancel (of_decide_eq_true (by kernel_rfl))).symm⟩
 have hl:∃ l,Tryz.prog.keyLits (Tryz.prog.types.size + 1) 216 (hko ⟨g,a,b⟩).cells.toList = some l:=by
  rw [hs]
  simp [Program.keyLits,Tryz.underlying216,Tryz.underlying26,Tryz.underlying3,Tryz.underlying9,hc,hc1,hc2,hc3,hko,Value.cells,List.range,List.range.loop,hfr h2,show g.size ≤ maxLen from h0,show a.size ≤ maxLen from h1]
  rw [if_pos (by intro i hi; match i,hi with | 0,_ => simp | 1,_ => simp)]
  simp
 obtain ⟨l,hl⟩:=hl
 exact ⟨.string (keyBytes l),by unfold keyOf; simp only [Tryz.underlying216,hk,hf,Bool.and_self,if_true,hl,Option.map_some]⟩
abbrev hkd:Int × PPart → Value:=fun k => .agg #[.int .i64 k.1,.string k.2.t,.int .i64 k.2.n]
theorem ymT:∀ a b:Int × PPart,hkd a = hkd b → a = b:=by rintro ⟨x,a,b⟩ ⟨y,c,d⟩ h; simp [hkd] at h; simp [h]
theorem yEH:Keyed pP 197 :=
 Keyed.of_law (deep_law_laid (by kernel_rfl) (m:=3) (by omega) (of_decide_eq_true (by kernel_rfl)) (by kernel_rfl) (by rw [Tryz.underlying197]))
set_option maxRecDepth 100000 in
theorem yCr {k:Int × PPart} (h0:s64 k.1) (h1:k.2.t.size ≤ maxLen) (h2:s64 k.2.n):∃ l,keyOf pP 197 (hkd k) = some l:=by
 obtain ⟨g,a,b⟩:=k
 have hk:Tryz.prog.keyType 197 = true:=by kernel_rfl
 have hc:Tryz.prog.cellsOf 197 = 3:=by kernel_rfl
 have hc1:Tryz.prog.cellsOf 3 = 1:=by kernel_rfl
 have hc2:Tryz.prog.cellsOf 9 = 1:=by kernel_rfl
 have hc3:Tryz.prog.cellsOf 26 = 2:=by kernel_rfl
 have hf:(hkd ⟨g,a,b⟩).formed pP 197 = true:=by simp [Value.formed,Tryz.underlying197,hc,hkd]
 obtain ⟨s,hs⟩:∃ s,Tryz.prog.types.size = s + 2:=⟨Tryz.prog.types.size - 2,(Nat.sub_add_cancel (of_decide_eq_true (by kernel_rfl))).symm⟩
 have hl:∃ l,Tryz.prog.keyLits (Tryz.prog.types.size + 1) 197 (hkd ⟨g,a,b⟩).cells.toList = some l:=by
  rw [hs]
  simp [Program.keyLits,Tryz.underlying197,Tryz.underlying26,Tryz.underlying3,Tryz.underlying9,hc,hc1,hc2,hc3,hkd,Value.cells,List.range,List.range.loop,hfr h2,hfr h0,show a.size ≤ maxLen from h1]
  rw [if_pos (by intro i hi; match i,hi with | 0,_ => simp | 1,_ => simp)]
  simp
 obtain ⟨l,hl⟩:=hl
 exact ⟨.string (keyBytes l),by unfold keyOf; simp only [Tryz.underlying197,hk,hf,Bool.and_self,if_true,hl,Option.map_some]⟩
end Go.Proofs.YtkepmmocldnnfaaGreat
namespace Go.Proofs.YtkepmmocldnnfaaGreat
open Go Go.RowKit Go.Maps Go.MapKept
set_option linter.unusedVariables false
set_option linter.unusedSimpArgs false
def ykN (n:Int):Prop:=0 ≤ n ∧ n ≤ 1099511627776
instance (n:Int):Decidable (ykN n):=by unfold ykN; infer_instance
theorem yCs (n:Int) (w:World):Calls pP 98 #[.int .i64 n] w fun e w' => e = .returned (.bool (decide (ykN n))) ∧ w' = w:=by
 refine ya2 (yFs ?_)
 refine yaH (fun g => ⟨congrArg Value.bool ?_,rfl⟩) fun g => ⟨congrArg Value.bool (decide_eq_false (by unfold ykN; omega)).symm,rfl⟩
 exact decide_eq_decide.2 ⟨fun h => ⟨by omega,h⟩,fun h => h.2⟩
theorem ysX (base:Int) (w:World):Calls pP 61 #[.int .i64 base] w fun e w' => ∃ v,e = .returned v ∧ Mod [] w w' ∧
  if ykN base then ∃ b F,v = .tuple #[.pointer (some ⟨b,0,none⟩),.int .i64 0] ∧ ycX w' b base base [] F ∧ (∀ k ∈ F,w.heap.size ≤ k) else v = .tuple #[.pointer none,.int .i64 1]:=by
 refine yFt ?_
 refine (yCs base w).mono ?_
 rintro _ w1 ⟨rfl,rfl⟩
 refine ⟨_,rfl,?_⟩
 by_cases g:ykN base
 ·refine brF (by simp [g]) ?_
  intro b6 f6 w7 A7 h7
  refine ⟨A7.mod,?_⟩
  rw [if_pos g]
  exact ⟨b6,_,rfl,⟨ybM,ybM,h7,Row.nil ..,Row.nil ..,rfl⟩,by simp [ybM,yaP]; omega⟩
 ·refine brT (by simp [g]) ⟨Mod.refl _,?_⟩
  rw [if_neg g]
theorem yg7 {w:World} {b:Nat} {base next:Int} {l:List PFound} {F:List Nat} (h:ycX w b base next l F) :
  Calls pP 117 #[.pointer (some ⟨b,0,none⟩)] w fun e w' => e = .returned (.tuple #[.int .i64 base,.int .i64 next]) ∧ Mod [] w w':=by
 obtain ⟨sl,si,hc,hL,hI,hF⟩:=h
 refine ya2 (yKh hc ?_)
 intro w1 A1 h1
 exact ⟨rfl,A1.mod⟩
theorem yCt {w:World} {b:Nat} {base next:Int} {l:List PFound} {F:List Nat} (h:ycX w b base next l F) :
  Calls pP 113 #[.pointer (some ⟨b,0,none⟩)] w fun e w' => e = .returned (.int .i64 (l.length:Nat)) ∧ Mod [] w w':=by
 obtain ⟨sl,si,hc,hL,hI,hF⟩:=h
 refine ya2 (yKi hc ?_)
 intro w1 A1 h1
 exact ⟨by rw [hL.1],A1.mod⟩
theorem yCu {w:World} {b:Nat} {base next:Int} {l:List PFound} {F:List Nat} (h:ycX w b base next l F) (hl:l.length ≤ 1000000) :
  Calls pP 122 #[.pointer (some ⟨b,0,none⟩)] w fun e w' => ∃ v,e = .returned v ∧ ∃ s':Sl,v = .slice s'.a s'.n s'.c ∧ Row w' w.heap.size 165 5 yk0 s'.a s'.n s'.c l ∧ Mod [] w w':=by
 obtain ⟨sl,si,hc,hL,hI,hF⟩:=h
 refine yKj hc ?_
 refine (ysA (hL.sl yeI) hl).mono ?_
 rintro _ w33 ⟨_,rfl,s',rfl,hR,M33⟩
 refine ⟨_,_,_,rfl,yaG.of0 M33,?_⟩
 intro w9 A9 h9
 exact ⟨s',rfl,hR.keep0 A9.mod,M33.go0 A9.mod (by simp)⟩
theorem yxR (w:World):(zeroValue 4).run pP w = .ok (hkb false) w:=by kernel_rfl
def yi0 (offs:List Int) (l:List PFound):List PFound:=l.filter fun f => decide (f.off ∈ offs)
theorem ysY (offs:List Int) (l:List PFound):(yi0 offs l).length ≤ l.length:=List.length_filter_le _ _
set_option maxHeartbeats 1000000 in
theorem yzG {w:World} {b:Nat} {base next:Int} {l:List PFound} {F:List Nat} (h:ycX w b base next l F) (hl:l.length ≤ 1000) {a:Option Addr} {n c:Nat} {offs:List Int} (ho:ybD w 1 yd4 a n offs) (hol:offs.length ≤ 1000000) (ho6:∀ x ∈ offs,s64 x) (hl6:∀ y ∈ l,s64 y.off) :
  Calls pP 123 #[.pointer (some ⟨b,0,none⟩),.slice a n c] w fun e w' => e = .returned (.int .i64 ((l.length:Int) - ((yi0 offs l).length:Int))) ∧ ∃ F',ycX w' b base next (yi0 offs l) F' ∧ Mod F w w' ∧ ybJ w F F':=by
 obtain ⟨sl,si,hc,hL,hI,rfl⟩:=id h
 have lb:=yaL hc
 have hon:=ho.1
 have hLn:=hL.1
 refine ya2 (yKg hc ?_)
 refine ybH fun m w4 c4 M4 f4 => ?_
 have ne:m ≠ b:=by omega
 refine yCh (fun mm x w' => ∃ (k:Nat) (L:List (Int × Bool)),x = k ∧ k ≤ offs.length ∧ yaX pP 3 hki hkb w' m L ∧ (∀ x,(lkp L x).getD false = decide (x ∈ offs.take k)) ∧ Mod [] w w' ∧ mm = offs.length - k) offs.length ⟨0,[],rfl,by omega,yaX.of_new c4,by simp [lkp],M4,rfl⟩ ?_
 rintro mm x w1 ⟨k,L,rfl,hk,hM,hLk,M1,rfl⟩
 refine yaH (fun hlt => ?_) fun hge => ?_
 ·obtain ⟨q,hq⟩:∃ q,offs[k]? = some q:=⟨_,List.getElem?_eq_getElem (by omega)⟩
  refine (ho.keep0 M1).ix hq fun ad had => yaI (x:=q) (by simpa [add_zero] using had 0 _ rfl) ?_
  refine hM.setU yiX yc4 Tryz.underlying258 (v:=true) (k:=q) (ydD (ho6 q (List.mem_of_getElem? hq))) (by simpa using ne) fun w' hM' M' => ?_
  refine yCg (offs.length - (k + 1)) (by omega) ⟨k + 1,_,by rw [yaJ (by omega) (by omega)]; omega,by omega,hM',fun x => ?_,M1.go0 M' (by simp; omega),rfl⟩
  rw [ycP,yd2 hq]
  by_cases e:x = q
  ·simp [e]
  ·rw [if_neg e,hLk]; simp [e]
 have hk:k = offs.length:=by omega
 subst hk
 rw [List.take_length] at hLk
 intro w47 A47 h47
 have N47:Mod [b] w w47:=(M1.trans A47.mod).less (by simp)
 have hbl:=ycT hL hc (by decide)
 refine yCj (fun mm x x0 x1 a2 n2 c2 a3 n3 c3 w' => ∃ (k:Nat) (F':List Nat),x = k ∧ k ≤ l.length ∧ x0 = base ∧ x1 = next ∧ w'.heap[b]? = some (.cells #[.int .i64 x0,.int .i64 x1,.slice a2 n2 c2,.slice a3 n3 c3] 180) ∧ ycX w' b base next (yi0 offs (l.take k)) F' ∧ (∀ z ∈ F',z = b ∨ w.heap.size ≤ z) ∧ (∀ z ∈ F',z ≠ m) ∧ yaX pP 3 hki hkb w' m L ∧ Row w' 0 165 5 yk0 sl.a sl.n sl.c l ∧ Mod [b] w w' ∧ m < w'.heap.size ∧ mm = l.length - k) l.length
  ⟨0,[b],rfl,by omega,rfl,rfl,h47,(by rw [show yi0 offs (l.take 0) = [] by simp [yi0]]; exact ⟨ybM,ybM,h47,Row.nil ..,Row.nil ..,rfl⟩),by simp,by simp; exact fun e => ne e.symm,hM.keepM A47.mod (by simpa using ne),yaE hL N47 (by simpa using hbl),N47,by have:=hM.lt; have:=A47.mod.size; omega,rfl⟩ ?_
 rintro mm x x0 x1 a2 n2 c2 a3 n3 c3 w2 ⟨k,F1,rfl,hk,rfl,rfl,hc2,hS2,hF1,hFm,hM2,hL2,N2,lm,rfl⟩
 intro _
 have s2:=N2.size
 refine yaH (fun hlt => ?_) fun hge => ?_
 ·obtain ⟨r,hr⟩:∃ r,l[k]? = some r:=⟨_,List.getElem?_eq_getElem (by omega)⟩
  refine (hL2.sl yeI).ix hr fun q hq => yaI (x:=r.off) (by simpa [add_zero] using hq 0 _ rfl) (ya1 (hq 1 _ rfl) (yaN (hq 2 _ rfl) (ya1 (hq 3 _ rfl) (yaN (hq 4 _ rfl) ?_))))
  intro b24 f24 w27 A27 h27
  have l24:=A27.lt b24 (by simp)
  have hM27:=hM2.keepM0 A27.mod
  have hS27:=hS2.keep0 A27.mod
  refine ⟨_,hM27.lkF yiX yc4 Tryz.underlying258 yxR (ydD (hl6 r (List.mem_of_getElem? hr))),?_⟩
  rw [hLk]
  have ek:yi0 offs (l.take (k + 1)) = yi0 offs (l.take k) ++ (if r.off ∈ offs then [r] else []):=by
   rw [yd2 hr,yi0,List.filter_append]
   by_cases e:r.off ∈ offs <;> simp [e,yi0]
  refine yaH (fun g => ?_) fun g => ?_
  ·rw [if_pos g] at ek
   refine (ysT hS27 r (Nat.le_trans (ysY _ _) (by rw [List.length_take]; omega))).mono ?_
   rintro _ w38 ⟨rfl,F2,hS38,M38,G38⟩
   have s38:=M38.size
   have ltF:=hS2.lt
   refine ⟨rfl,yaG.of M38 (fun i hi _ hc => by simp at hi; subst hi; have:=ltF i hc; omega),?_⟩
   obtain ⟨sl',si',hc38,hL38,hI38,hF2⟩:=id hS38
   refine ⟨_,_,_,_,_,_,_,_,hc38,?_⟩
   have s27:=A27.mod.size
   refine ysS (l.length - (k + 1)) (by omega) ⟨k + 1,F2,by rw [yaJ (by omega) (by omega)]; omega,by omega,rfl,rfl,hc38,by rw [ek]; exact hS38,fun z hz => ?_,fun z hz => ?_,hM27.keepM M38 (fun hz => hFm m hz rfl),?_,?_,by omega,rfl⟩
   ·rcases G38 z hz with h1 | h1
    ·exact hF1 z h1
    ·exact .inr (by omega)
   ·rcases G38 z hz with h1 | h1
    ·exact hFm z h1
    ·omega
   ·refine yaE (hL2.keep0 A27.mod) M38 fun z hz hz' => ?_
    have:=yaQ hL z hz'
    rcases hF1 z hz with rfl | h1
    ·exact hbl hz'
    ·omega
   ·exact ((N2.trans A27.mod).trans M38).less fun z hz hz' => by
     simp only [List.append_nil,List.mem_append,List.mem_cons,List.not_mem_nil,or_false] at hz ⊢
     rcases hz with hz | hz
     ·exact hz
     ·rcases hF1 z hz with h1 | h1
      ·exact h1
      ·omega
  ·rw [if_neg g,List.append_nil] at ek
   have s27:=A27.mod.size
   exact ysS (l.length - (k + 1)) (by omega) ⟨k + 1,F1,by rw [yaJ (by omega) (by omega)]; omega,by omega,rfl,rfl,A27.mod.keep0 hc2,by rw [ek]; exact hS27,hF1,hFm,hM27,hL2.keep0 A27.mod,(N2.trans A27.mod).less (by simp),by omega,rfl⟩
 ·have hk:k = l.length:=by omega
  subst hk
  rw [List.take_length] at hS2
  obtain ⟨sl',si',hc3,hL3,hI3,hF2⟩:=id hS2
  rw [hc2] at hc3
  cases hc3
  have:=hL3.1
  have hkl:=ysY offs l
  refine ⟨?_,F1,hS2,N2.less (by simp),fun z hz => ?_⟩
  ·rw [yaJ (by omega) (by omega),hLn,this]
  ·rcases hF1 z hz with rfl | h1
   ·exact .inl (by simp)
   ·exact .inr h1
end Go.Proofs.YtkepmmocldnnfaaGreat
namespace Go.Proofs.YtkepmmocldnnfaaGreat
open Go Go.RowKit
set_option linter.all false
section
set_option maxRecDepth 100000
variable {R:VWP} {w w0:World} {m:Nat} {i0 i1 i2 i3 i4 i5 i6 i7 i8 i9 j0 j1 j2 j3 j4 j5 j6 j7 j8 j9 k0 k1 k2 k3 k4 k5 k6 k7 k8 k9 l0 l1 l2 l3 l4 l5 l6 l7 l8 l9:Int} {s0 s1 s2 s3 s4 s5 s6 s7 s8 s9 t0 t1 t2 t3 t4 t5 t6 t7 t8 t9:BA} {n0 n1 n2 n3 n4 n5 n6 n7 n8 n9 o0 o1 o2 o3 o4 o5 o6 o7 o8 o9 p0 p1 p2 p3 p4 p5 p6 p7 p8 p9:Nat} {q0 q1 q2 q3 q4 q5 q6 q7 q8 q9 r0 r1 r2 r3 r4 r5 r6 r7 r8 r9:OA} {B0 B1 B2 B3 B4 B5 B6 B7 B8 B9:Bool} {M0 M1 M2 M3:Option Nat} {V0 V1 V2 V3 V4 V5:Value} {A0 A1 A2:Addr}
theorem yKp {b0:Nat} {o1_a:OA} {o1_n o1_c:Nat} (hb:w.heap[b0]? = some (.cells #[.int .i64 i0,.slice o1_a o1_n o1_c] 116)) (h :
 ixA o1_a o1_n (IntKind.wrap .i64 ((o1_n:Int) - 1)) 1 fun q1 =>
 ykY w q1 fun p2 =>
 ∀ w3,Adv [] [] w w3 → w3.heap[b0]? = some (.cells #[.int .i64 i0,.slice o1_a o1_n o1_c] 116) →
 R (.pointer p2) w3) :
 CR pP 112 #[(.pointer (some ⟨b0,0,none⟩))] w R :=
 yaO Tryz.wide_mixed (an:=[]) Tryz.func112 rfl rfl (by kernel_rfl) rfl hb (Eq.mpr (by kernel_rfl) h)
def yvB:LA:=⟨[0,0,1,0,1],[0,1,13,14,15],[(0,0,0)],1,[]⟩
def yxS:List LA:=[yvB]
abbrev yKq:=dnF pP yxS (code Tryz.f67)
abbrev yMR:=ya0 pP yxS (code Tryz.f67)
abbrev yKr (p:List Nat) (K:List Kh) (R:VWP):=ya0 pP yxS (code Tryz.f67) p K (ybO pP Tryz.f67 [0] R)
def yo0 (a9:OA) (b1 b0:Nat) (a4:OA) (a6 a5:Nat) (a7:Int) (bm0:Nat) (a3:Int) (a0:OA) (a2 a1:Nat):Int → List Value × List TB:=fun a8 => ([(.pointer (some ⟨bm0,0,none⟩)),.slice a9 b1 b0,.slice a4 a6 a5,.int .i64 a7,.int .i64 a8],[⟨bm0,116,[.int .i64 a3,.slice a0 a2 a1],false⟩])
abbrev yFT (a8:OA) (b0 a9:Nat) (a4:OA) (a6 a5:Nat) (a7:Int) (bm0:Nat) (a3:Int) (a0:OA) (a2 a1:Nat) (I:Nat → Int → World → Prop) (m:Nat):Kh:=KG (yo0 a8 b0 a9 a4 a6 a5 a7 bm0 a3 a0 a2 a1) (U1 I) m
theorem yCv {I:Nat → Int → World → Prop} (m':Nat) (h1:m' < m) (h2:I m' i2 w):KS (yFT q0 n0 n1 q1 n2 n3 i0 n4 i1 q2 n5 n6 I m) (yo0 q0 n0 n1 q1 n2 n3 i0 n4 i1 q2 n5 n6 i2) w:=⟨m',h1,_,rfl,rfl,h2⟩
theorem yCw {a6:OA} {a7:OA} {a0:OA} (I:Nat → Int → World → Prop) (m0:Nat) (h0:I m0 i2 w0)
 (hr:∀ m a5 w,I m a5 w →
 brB (decide (a5 < i0)) (
 ixA a7 n2 a5 4 fun q7 =>
 yaR w q7 fun t8 => yaK w (Addr.add q7 1) fun s9 => yaR w (Addr.add q7 2) fun v2 => yaK w (Addr.add q7 3) fun v1 =>
 ∀ b7,w.heap.size ≤ b7 →
 ∀ c6,Adv [] [b7] w c6 →
 Calls pP 111 #[(.agg (Z11 t8 s9 v2 v1))] c6 fun e c7 => ∃ d7,e = .returned (.int .i64 d7) ∧ yaG [n4,b7] c6 c7 ∧
 brB (d7 != 0) (
 ∀ c8,Adv [] [] c7 c8 → c8.heap[n4]? = some (.cells #[.int .i64 i1,.slice a0 n5 n6] 116) →
 R (.tuple #[.int .i64 0,.int .i64 d7]) c8)
 (
 KS (yFT a6 n0 n1 a7 n2 n3 i0 n4 i1 a0 n5 n6 I m) (yo0 a6 n0 n1 a7 n2 n3 i0 n4 i1 a0 n5 n6 (IntKind.wrap .i64 (a5 + 1))) c7))
 (
 ∀ c9,Adv [] [] w c9 → c9.heap[n4]? = some (.cells #[.int .i64 i1,.slice a0 n5 n6] 116) →
 Calls pP 70 #[(.pointer (some ⟨n4,0,none⟩))] c9 fun e b3 => ∃ v3 d8,e = .returned (.tuple #[.int .i64 v3,.int .i64 d8]) ∧ ∃ b0 b6 b9 b8,b3.heap[n4]? = some (.cells #[.int .i64 b0,.slice b6 b9 b8] 116) ∧
 brB (decide ((n0:Int) > b0)) (
 R (.tuple #[.int .i64 0,.int .i64 2]) b3)
 (
 brB (decide ((IntKind.wrap .i64 (d8 + (n0:Int))) > 1099511627776)) (
 R (.tuple #[.int .i64 0,.int .i64 50]) b3)
 (
 brB (decide ((n0:Int) > 0)) (
 ∀ d0,Adv [] [] b3 d0 → d0.heap[n4]? = some (.cells #[.int .i64 b0,.slice b6 b9 b8] 116) →
 Calls pP 112 #[(.pointer (some ⟨n4,0,none⟩))] d0 fun e e5 => ∃ e2,e = .returned (.pointer e2) ∧ ∃ f1 h7 u6 u2,e5.heap[n4]? = some (.cells #[.int .i64 f1,.slice h7 u6 u2] 116) ∧ (((.int .i64 f1):Value) = (.int .i64 b0)) ∧
 Calls pP 113 #[.pointer e2] e5 fun e d1 => ∃ f2,e = .returned (.int .i64 f2) ∧ ∃ f3 h8 u7 u3,d1.heap[n4]? = some (.cells #[.int .i64 f3,.slice h8 u7 u3] 116) ∧ (((.int .i64 f3):Value) = (.int .i64 b0)) ∧
 brB (decide ((IntKind.wrap .i64 (f2 + (n0:Int))) > b0)) (
 Calls pP 61 #[.int .i64 d8] d1 fun e e6 => ∃ e3 v4,e = .returned (.tuple #[.pointer e3,.int .i64 v4]) ∧ ∃ f4 d9 e1 e0,e6.heap[n4]? = some (.cells #[.int .i64 f4,.slice d9 e1 e0] 116) ∧
 al e6 (.cells #[.pointer e3] 111) fun u1 e7 =>
 ybN pP (Builtin.append_ #[114,114] 114 #[.slice d9 e1 e0,(.slice (some ⟨u1,0,none⟩) 1 1)]) e7 fun h9 u9 u4 e8 => yaG [n4] e7 e8 ∧
 ∀ d2,Adv [n4] [] e8 d2 → d2.heap[n4]? = some (.cells #[.int .i64 f4,.slice h9 u9 u4] 116) →
 Calls pP 112 #[(.pointer (some ⟨n4,0,none⟩))] d2 fun e e9 => ∃ e4,e = .returned (.pointer e4) ∧ ∃ v5 u0 v0 u5,e9.heap[n4]? = some (.cells #[.int .i64 v5,.slice u0 v0 u5] 116) ∧
 Calls pP 114 #[.pointer e4,.slice a6 n0 n1] e9 fun e f0 => ∃ f5 f6,e = .returned (.tuple #[.int .i64 f5,.int .i64 f6]) ∧ ∃ v6 f7 g7 g2,f0.heap[n4]? = some (.cells #[.int .i64 v6,.slice f7 g7 g2] 116) ∧
 R (.tuple #[.int .i64 f5,.int .i64 f6]) f0)
 (
 Calls pP 112 #[(.pointer (some ⟨n4,0,none⟩))] d1 fun e c2 => ∃ c0,e = .returned (.pointer c0) ∧ ∃ h3 f8 g8 g3,c2.heap[n4]? = some (.cells #[.int .i64 h3,.slice f8 g8 g3] 116) ∧
 Calls pP 114 #[.pointer c0,.slice a6 n0 n1] c2 fun e c3 => ∃ d3 d4,e = .returned (.tuple #[.int .i64 d3,.int .i64 d4]) ∧ ∃ h4 f9 g9 g4,c3.heap[n4]? = some (.cells #[.int .i64 h4,.slice f9 g9 g4] 116) ∧
 R (.tuple #[.int .i64 d3,.int .i64 d4]) c3))
 (
 ∀ b4,Adv [] [] b3 b4 → b4.heap[n4]? = some (.cells #[.int .i64 b0,.slice b6 b9 b8] 116) →
 Calls pP 112 #[(.pointer (some ⟨n4,0,none⟩))] b4 fun e c4 => ∃ c1,e = .returned (.pointer c1) ∧ ∃ h5 g0 h1 g5,c4.heap[n4]? = some (.cells #[.int .i64 h5,.slice g0 h1 g5] 116) ∧
 Calls pP 114 #[.pointer c1,.slice a6 n0 n1] c4 fun e c5 => ∃ d5 d6,e = .returned (.tuple #[.int .i64 d5,.int .i64 d6]) ∧ ∃ h6 g1 h2 g6,c5.heap[n4]? = some (.cells #[.int .i64 h6,.slice g1 h2 g6] 116) ∧
 R (.tuple #[.int .i64 d5,.int .i64 d6]) c5))))) :
 yaU yvB (yKq 397 [0,0,1,0,1]) (yKr [1,0,1,0] [] R) (yo0 a6 n0 n1 a7 n2 n3 i0 n4 i1 a0 n5 n6 i2) w0 :=
 lrule (yo0 a6 n0 n1 a7 n2 n3 i0 n4 i1 a0 n5 n6) (U1 I) h0 (by rintro m a5 w h; exact ⟨by kernel_rfl,by kernel_rfl,fun js => Eq.mpr (by kernel_rfl) (hr m a5 w h)⟩)
theorem yKs {b0:Nat} {o1_n o1_c:Nat} {a0 a2:Nat} (hb:w.heap[b0]? = some (.cells #[.int .i64 i0,.slice q0 o1_n o1_c] 116)) (h :
 yaU yvB (yKq 397 [0,0,1,0,1]) (yKr [1,0,1,0] [] R) (yo0 q1 a0 a2 q1 a0 a2 (a0:Int) b0 i0 q0 o1_n o1_c 0) w) :
 CR pP 67 #[(.pointer (some ⟨b0,0,none⟩)),.slice q1 a0 a2] w R :=
 yaO Tryz.wide_mixed (an:=yxS) Tryz.func67 rfl rfl (by kernel_rfl) rfl hb (Eq.mpr (by kernel_rfl) h)
def yvC:LA:=⟨[0,0,1,0,1,1,1,1],[1,2,10,31,32,33],[],1,[0]⟩
def yxT:List LA:=[yvC]
abbrev yKt:=dnF pP yxT (code Tryz.f69)
abbrev yMS:=ya0 pP yxT (code Tryz.f69)
abbrev yKu (p:List Nat) (K:List Kh) (R:VWP):=ya0 pP yxT (code Tryz.f69) p K (ybO pP Tryz.f69 [0] R)
def ykO (b2 b3:Int) (a5:OA) (a9 a7:Nat) (b0:Int) (bm0:Nat):(Option Addr) × Nat × Nat × Int × Int × (Option Addr) × Nat × Nat → List Value × List TB:=fun (a4,a8,a6,b1,a3,a0,a2,a1) => ([.int .i64 b2,.int .i64 b3,.slice a4 a8 a6,.slice a5 a9 a7,.int .i64 b0,.int .i64 b1],[⟨bm0,116,[.int .i64 a3,.slice a0 a2 a1],true⟩])
abbrev yxU (a4 a5:Int) (a0:OA) (a2 a1:Nat) (a3:Int) (bm0:Nat) (I:Nat → Option Addr → Nat → Nat → Int → Int → Option Addr → Nat → Nat → World → Prop) (m:Nat):Kh:=KG (ykO a4 a5 a0 a2 a1 a3 bm0) (U8 I) m
theorem ymU {I:Nat → Option Addr → Nat → Nat → Int → Int → Option Addr → Nat → Nat → World → Prop} (m':Nat) (h1:m' < m) (h2:I m' q1 n3 n4 i3 i4 q2 n5 n6 w):KS (yxU i0 i1 q0 n0 n1 i2 n2 I m) (ykO i0 i1 q0 n0 n1 i2 n2 (q1,n3,n4,i3,i4,q2,n5,n6)) w:=⟨m',h1,_,rfl,rfl,h2⟩
theorem yCx (I:Nat → Option Addr → Nat → Nat → Int → Int → Option Addr → Nat → Nat → World → Prop) (m0:Nat) (h0:I m0 q1 n3 n4 i3 i4 q2 n5 n6 w0)
 (hr:∀ m a8 a1 a9 a5 b3 b0 b2 b1 w,I m a8 a1 a9 a5 b3 b0 b2 b1 w →
 w.heap[n2]? = some (.cells #[.int .i64 b3,.slice b0 b2 b1] 116) →
 brB (decide (a5 < i2)) (
 ixA q0 n0 a5 1 fun e1 =>
 ykY w e1 fun d4 =>
 Calls pP 117 #[.pointer d4] w fun e c1 => ∃ e2 d6,e = .returned (.tuple #[.int .i64 e2,.int .i64 d6]) ∧ ∃ c7 c3 c5 c4,c1.heap[n2]? = some (.cells #[.int .i64 c7,.slice c3 c5 c4] 116) ∧
 brB (decide (d6 > i0)) (
 brB (decide ((a1:Int) < i1)) (
 Calls pP 118 #[.pointer d4,.int .i64 i0,(.int .i64 (IntKind.wrap .i64 (i1 - (a1:Int))))] c1 fun e c6 => ∃ c8 d2 d0,e = .returned (.slice c8 d2 d0) ∧ ∃ d7 c9 d3 d1,c6.heap[n2]? = some (.cells #[.int .i64 d7,.slice c9 d3 d1] 116) ∧
 ybN pP (Builtin.append_ #[41,41] 41 #[.slice a8 a1 a9,.slice c8 d2 d0]) c6 fun d8 e0 d9 d5 => yaG [n2] c6 d5 ∧
 KS (yxU i0 i1 q0 n0 n1 i2 n2 I m) (ykO i0 i1 q0 n0 n1 i2 n2 (d8,e0,d9,(IntKind.wrap .i64 (a5 + 1)),d7,c9,d3,d1)) d5)
 (
 KS (yxU i0 i1 q0 n0 n1 i2 n2 I m) (ykO i0 i1 q0 n0 n1 i2 n2 (a8,a1,a9,(IntKind.wrap .i64 (a5 + 1)),c7,c3,c5,c4)) c1))
 (
 KS (yxU i0 i1 q0 n0 n1 i2 n2 I m) (ykO i0 i1 q0 n0 n1 i2 n2 (a8,a1,a9,(IntKind.wrap .i64 (a5 + 1)),c7,c3,c5,c4)) c1))
 (
 R (.tuple #[.slice a8 a1 a9,.int .i64 0]) w)) :
 yaU yvC (yKt 394 [0,0,1,0,1,1,1,1]) (yKu [1,1,1,1,0,1,0] [] R) (ykO i0 i1 q0 n0 n1 i2 n2 (q1,n3,n4,i3,i4,q2,n5,n6)) w0 :=
 lrule (ykO i0 i1 q0 n0 n1 i2 n2) (U8 I) h0 (by rintro m ⟨a8,a1,a9,a5,b3,b0,b2,b1⟩ w h; exact ⟨by kernel_rfl,by kernel_rfl,fun js => Eq.mpr (by kernel_rfl) (hr m a8 a1 a9 a5 b3 b0 b2 b1 w h)⟩)
theorem yKv {b0:Nat} {o1_n o1_c:Nat} (hb:w.heap[b0]? = some (.cells #[.int .i64 i0,.slice q0 o1_n o1_c] 116)) (h :
 ∀ w9,Adv [] [] w w9 → w9.heap[b0]? = some (.cells #[.int .i64 i0,.slice q0 o1_n o1_c] 116) →
 Calls pP 70 #[(.pointer (some ⟨b0,0,none⟩))] w9 fun e a2 => ∃ a6 a7,e = .returned (.tuple #[.int .i64 a6,.int .i64 a7]) ∧ ∃ a8 a3 a1 a5,a2.heap[b0]? = some (.cells #[.int .i64 a8,.slice a3 a1 a5] 116) ∧
 brB (decide (i1 < a6)) (
 R (.tuple #[.slice none 0 0,.int .i64 60]) a2)
 (
 brB (decide (i1 > a7)) (
 R (.tuple #[.slice none 0 0,.int .i64 61]) a2)
 (
 yaU yvC (yKt 394 [0,0,1,0,1,1,1,1]) (yKu [1,1,1,1,0,1,0] [] R) (ykO i1 i2 a3 a1 a5 (a1:Int) b0 (none,0,0,0,a8,a3,a1,a5)) a2))) :
 CR pP 69 #[(.pointer (some ⟨b0,0,none⟩)),.int .i64 i1,.int .i64 i2] w R :=
 yaO Tryz.wide_mixed (an:=yxT) Tryz.func69 rfl rfl (by kernel_rfl) rfl hb (Eq.mpr (by kernel_rfl) h)
theorem yKw {b0:Nat} {o1_a:OA} {o1_n o1_c:Nat} (hb:w.heap[b0]? = some (.cells #[.int .i64 i0,.slice o1_a o1_n o1_c] 116)) (h :
 ixA o1_a o1_n 0 1 fun q6 =>
 ykY w q6 fun p7 =>
 Calls pP 117 #[.pointer p7] w fun e w8 => ∃ x9 b2,e = .returned (.tuple #[.int .i64 x9,.int .i64 b2]) ∧ yaG [b0] w w8 ∧
 ∀ a0,Adv [] [] w8 a0 → a0.heap[b0]? = some (.cells #[.int .i64 i0,.slice o1_a o1_n o1_c] 116) →
 Calls pP 112 #[(.pointer (some ⟨b0,0,none⟩))] a0 fun e a2 => ∃ a1,e = .returned (.pointer a1) ∧ ∃ b3 a5 a9 a7,a2.heap[b0]? = some (.cells #[.int .i64 b3,.slice a5 a9 a7] 116) ∧
 Calls pP 117 #[.pointer a1] a2 fun e a3 => ∃ b4 a4,e = .returned (.tuple #[.int .i64 b4,.int .i64 a4]) ∧ ∃ b5 a6 b1 a8,a3.heap[b0]? = some (.cells #[.int .i64 b5,.slice a6 b1 a8] 116) ∧
 R (.tuple #[.int .i64 x9,.int .i64 a4]) a3) :
 CR pP 70 #[(.pointer (some ⟨b0,0,none⟩))] w R :=
 yaO Tryz.wide_mixed (an:=[]) Tryz.func70 rfl rfl (by kernel_rfl) rfl hb (Eq.mpr (by kernel_rfl) h)
def yvD:LA:=⟨[0,0,0,1,1],[0,1,5],[(0,0,0)],1,[]⟩
def yxV:List LA:=[yvD]
abbrev yKx:=dnF pP yxV (code Tryz.f71)
abbrev yMT:=ya0 pP yxV (code Tryz.f71)
abbrev yKy (p:List Nat) (K:List Kh) (R:VWP):=ya0 pP yxV (code Tryz.f71) p K (ybO pP Tryz.f71 [0] R)
def yo1 (a4:Int) (bm0:Nat) (a3:Int) (a0:OA) (a2 a1:Nat):Int → List Value × List TB:=fun a5 => ([(.pointer (some ⟨bm0,0,none⟩)),.int .i64 a4,.int .i64 a5],[⟨bm0,116,[.int .i64 a3,.slice a0 a2 a1],false⟩])
abbrev yFU (a4:Int) (bm0:Nat) (a3:Int) (a0:OA) (a2 a1:Nat) (I:Nat → Int → World → Prop) (m:Nat):Kh:=KG (yo1 a4 bm0 a3 a0 a2 a1) (U1 I) m
theorem yCy {I:Nat → Int → World → Prop} (m':Nat) (h1:m' < m) (h2:I m' i2 w):KS (yFU i0 n0 i1 q0 n1 n2 I m) (yo1 i0 n0 i1 q0 n1 n2 i2) w:=⟨m',h1,_,rfl,rfl,h2⟩
theorem yCz {bm0:Nat} {a2:OA} {a1 a0:Nat} (I:Nat → Int → World → Prop) (m0:Nat) (h0:I m0 i2 w0)
 (hr:∀ m a4 w,I m a4 w →
 brB (decide (a4 < (IntKind.wrap .i64 ((a1:Int) - 1)))) (
 ixA a2 a1 a4 1 fun q6 =>
 ykY w q6 fun p7 =>
 Calls pP 117 #[.pointer p7] w fun e w8 => ∃ x9 b7,e = .returned (.tuple #[.int .i64 x9,.int .i64 b7]) ∧ yaG [bm0] w w8 ∧
 brB (decide (b7 > i0)) (
 slV a2 a0 a4 a1 a0 1 fun b8 c2 c0 =>
 Calls pP 119 #[.slice b8 c2 c0] w8 fun e b5 => ∃ a9 b3 b1,e = .returned (.slice a9 b3 b1) ∧ yaG [bm0] w8 b5 ∧
 ∀ a6,Adv [bm0] [] b5 a6 → a6.heap[bm0]? = some (.cells #[.int .i64 i1,.slice a9 b3 b1] 116) →
 R (.int .i64 a4) a6)
 (
 KS (yFU i0 bm0 i1 a2 a1 a0 I m) (yo1 i0 bm0 i1 a2 a1 a0 (IntKind.wrap .i64 (a4 + 1))) w8))
 (
 slV a2 a0 a4 a1 a0 1 fun b9 c3 c1 =>
 Calls pP 119 #[.slice b9 c3 c1] w fun e b6 => ∃ b0 b4 b2,e = .returned (.slice b0 b4 b2) ∧ yaG [bm0] w b6 ∧
 ∀ a7,Adv [bm0] [] b6 a7 → a7.heap[bm0]? = some (.cells #[.int .i64 i1,.slice b0 b4 b2] 116) →
 R (.int .i64 a4) a7)) :
 yaU yvD (yKx 397 [0,0,0,1,1]) (yKy [1,1,0,0] [] R) (yo1 i0 bm0 i1 a2 a1 a0 i2) w0 :=
 lrule (yo1 i0 bm0 i1 a2 a1 a0) (U1 I) h0 (by rintro m a4 w h; exact ⟨by kernel_rfl,by kernel_rfl,fun js => Eq.mpr (by kernel_rfl) (hr m a4 w h)⟩)
theorem yKz {b0:Nat} {o1_n o1_c:Nat} (hb:w.heap[b0]? = some (.cells #[.int .i64 i0,.slice q0 o1_n o1_c] 116)) (h :
 yaU yvD (yKx 397 [0,0,0,1,1]) (yKy [1,1,0,0] [] R) (yo1 i1 b0 i0 q0 o1_n o1_c 0) w) :
 CR pP 71 #[(.pointer (some ⟨b0,0,none⟩)),.int .i64 i1] w R :=
 yaO Tryz.wide_mixed (an:=yxV) Tryz.func71 rfl rfl (by kernel_rfl) rfl hb (Eq.mpr (by kernel_rfl) h)
theorem yKA (h :
 brB (Option.isNone q0) (
 R (.slice none 0 0) w)
 (
 al w (.cells #[] 111) fun b7 w8 =>
 ybN pP (Builtin.append_ #[114,114] 114 #[(.slice (some ⟨b7,0,none⟩) 0 0),.slice q0 n0 n1]) w8 fun a3 a5 a4 w9 =>
 R (.slice a3 a5 a4) w9)) :
 CR pP 119 #[.slice q0 n0 n1] w R :=
 yaB Tryz.wide_mixed (an:=[]) Tryz.func119 rfl rfl (by kernel_rfl) rfl (Eq.mpr (by kernel_rfl) h)
theorem yKB (h :
 ∀ b2,w.heap.size ≤ b2 →
 ∀ w3,Adv [] [b2] w w3 → w3.heap[b2]? = some (.cells #[.slice q0 n0 n1] 114) →
 R (.func (.func 152) #[] #[(.pointer (some ⟨b2,0,none⟩))]) w3) :
 CR pP 120 #[.slice q0 n0 n1] w R :=
 yaB Tryz.wide_mixed (an:=[]) Tryz.func120 rfl rfl (by kernel_rfl) rfl (Eq.mpr (by kernel_rfl) h)
theorem yKC (h :
 ∀ b2,w.heap.size ≤ b2 →
 ∀ w3,Adv [] [b2] w w3 → w3.heap[b2]? = some (.cells #[.slice q0 n0 n1] 41) →
 R (.func (.func 153) #[] #[(.pointer (some ⟨b2,0,none⟩))]) w3) :
 CR pP 121 #[.slice q0 n0 n1] w R :=
 yaB Tryz.wide_mixed (an:=[]) Tryz.func121 rfl rfl (by kernel_rfl) rfl (Eq.mpr (by kernel_rfl) h)
end
end Go.Proofs.YtkepmmocldnnfaaGreat
namespace Go.Proofs.YtkepmmocldnnfaaGreat
open Go Go.RowKit Go.Maps Go.MapKept
set_option linter.unusedVariables false
set_option linter.unusedSimpArgs false
def ye1 (F F':List Nat):Prop:=∀ k ∈ F,k ∉ F'
theorem ye1.symm {F F':List Nat} (h:ye1 F F'):ye1 F' F:=fun k hk hk' => h k hk' hk
theorem ye1.grow {w:World} {F F' G:List Nat} (h:ye1 F G) (hg:ybJ w F F') (hG:∀ k ∈ G,k < w.heap.size):ye1 F' G:=fun k hk hk' => by
 rcases hg k hk with h1 | h1
 ·exact h k h1 hk'
 ·have:=hG k hk'; omega
section
variable {α:Type} {fp:α → List Nat} {qs:List α} {q q':α} {w:World} {i j k:Nat}
theorem yi1 {a b:α} (h:qs.Pairwise fun a b => ye1 (fp a) (fp b)) (hij:i ≠ j) (hi:qs[i]? = some a) (hj:qs[j]? = some b):ye1 (fp a) (fp b):=by
 obtain ⟨hi1,hi2⟩:=List.getElem?_eq_some_iff.1 hi
 obtain ⟨hj1,hj2⟩:=List.getElem?_eq_some_iff.1 hj
 rcases Nat.lt_or_ge i j with hl | hl
 ·have:=List.pairwise_iff_getElem.1 h i j hi1 hj1 hl
  rw [hi2,hj2] at this; exact this
 ·have:=List.pairwise_iff_getElem.1 h j i hj1 hi1 (by omega)
  rw [hi2,hj2] at this; exact this.symm
theorem yi2 (h:qs.Pairwise fun a b => ye1 (fp a) (fp b)) (hk:qs[k]? = some q) (hlt:∀ x ∈ qs,∀ z ∈ fp x,z < w.heap.size) (hg:ybJ w (fp q) (fp q')):(qs.set k q').Pairwise fun a b => ye1 (fp a) (fp b):=by
 refine List.pairwise_iff_getElem.2 fun i j hi hj hij => ?_
 rw [List.length_set] at hi hj
 rw [List.getElem_set,List.getElem_set]
 have at_:∀ m (hm:m < qs.length),k ≠ m → ye1 (fp q') (fp qs[m]):=fun m hm hkm =>
  (yi1 h hkm hk (List.getElem?_eq_getElem hm)).grow hg (hlt _ (List.getElem_mem hm))
 by_cases h1:k = i
 ·rw [if_pos h1,if_neg (by omega)]; exact at_ j hj (by omega)
 ·rw [if_neg h1]
  by_cases h2:k = j
  ·rw [if_pos h2]; exact (at_ i hi h1).symm
  ·rw [if_neg h2]; exact List.pairwise_iff_getElem.1 h i j hi hj hij
theorem ysZ (h:qs.Pairwise fun a b => ye1 (fp a) (fp b)) (hlt:∀ x ∈ qs,∀ z ∈ fp x,z < w.heap.size) (hn:∀ z ∈ fp q',w.heap.size ≤ z):(qs ++ [q']).Pairwise fun a b => ye1 (fp a) (fp b) :=
 List.pairwise_append.2 ⟨h,by simp,fun a ha b hb => by
  simp at hb; subst hb
  intro z hz hz'
  have:=hlt a ha z hz
  have:=hn z hz'
  omega⟩
theorem yeC {x:α} (hx:x ∈ qs.set k q'):x = q' ∨ ∃ j,j ≠ k ∧ qs[j]? = some x:=by
 obtain ⟨j,hj⟩:=List.mem_iff_getElem?.1 hx
 rw [List.getElem?_set] at hj
 split at hj
 ·split at hj
  ·cases hj; exact .inl rfl
  ·cases hj
 ·rename_i hne; exact .inr ⟨j,fun e => hne e.symm,hj⟩
end
structure SegS where
 base:Int
 next:Int
 l:List PFound
 deriving DecidableEq
structure SegV where
 p:Nat
 s:SegS
 F:List Nat
def yh4 (q:SegV):List Value:=[.pointer (some ⟨q.p,0,none⟩)]
theorem yeW (q:SegV):(yh4 q).length = 1:=rfl
theorem ys0 (q:SegV):∀ u ∈ yh4 q,u.oneCell' = true:=by simp [yh4,Value.oneCell']
def ydR (w:World) (b:Nat) (room:Int) (L:List SegS) (F:List Nat):Prop :=
 ∃ (sl:Sl) (qs:List SegV),w.heap[b]? = some (.cells #[.int .i64 room,.slice sl.a sl.n sl.c] 116) ∧ Row w 0 111 1 yh4 sl.a sl.n sl.c qs ∧ (∀ q ∈ qs,ycX w q.p q.s.base q.s.next q.s.l q.F) ∧ qs.Pairwise (fun a b => ye1 a.F b.F) ∧ L = qs.map (·.s) ∧ F = b :: (yaP sl.a ++ qs.flatMap (·.F))
theorem ydR.lt {w:World} {b:Nat} {room:Int} {L:List SegS} {F:List Nat} (h:ydR w b room L F):∀ k ∈ F,k < w.heap.size:=by
 obtain ⟨sl,qs,hc,hR,hS,hP,rfl,rfl⟩:=h
 intro k hk
 rcases List.mem_cons.1 hk with rfl | hk
 ·exact yaL hc
 ·rcases List.mem_append.1 hk with hk | hk
  ·exact (yaQ hR k hk).2
  ·obtain ⟨q,hq,hk⟩:=List.mem_flatMap.1 hk
   exact (hS q hq).lt k hk
theorem ydR.keep {w w':World} {b:Nat} {room:Int} {L:List SegS} {F S:List Nat} (h:ydR w b room L F) (M:Mod S w w') (hS':∀ k ∈ S,k ∉ F):ydR w' b room L F:=by
 obtain ⟨sl,qs,hc,hR,hS,hP,rfl,rfl⟩:=h
 refine ⟨sl,qs,M.keep hc (fun hb => hS' b hb (by simp)),yaE hR M (fun k hk hk' => hS' k hk (by simp [hk'])),fun q hq => (hS q hq).keep M fun k hk hk' => hS' k hk ?_,hP,rfl,rfl⟩
 simp only [List.mem_cons,List.mem_append,List.mem_flatMap]
 exact .inr (.inr ⟨q,hq,hk'⟩)
theorem ydR.keep0 {w w':World} {b:Nat} {room:Int} {L:List SegS} {F:List Nat} (h:ydR w b room L F) (M:Mod [] w w'):ydR w' b room L F:=h.keep M (by simp)
structure SegOk (room:Int) (s:SegS):Prop where
 lo:0 ≤ s.base
 mid:s.base ≤ s.next
 hi:s.next ≤ 1099511627776
 len:(s.l.length:Int) ≤ room
 off:∀ f ∈ s.l,s.base ≤ f.off ∧ f.off < s.next
 inc:s.l.Pairwise fun a b => a.off < b.off
structure LogOk (room:Int) (L:List SegS):Prop where
 ne:L ≠ []
 r1:1 ≤ room
 r2:room ≤ 64
 segs:∀ s ∈ L,SegOk room s
 chain:∀ (i:Nat) (s t:SegS),L[i]? = some s → L[i + 1]? = some t → t.base = s.next
def ykP (L:List SegS):Int:=(L.head?.map (·.base)).getD 0
def yfU (L:List SegS):Int:=(L.getLast?.map (·.next)).getD 0
def yt2:List SegS:=[⟨0,0,[]⟩]
theorem yG8 {room:Int} (h1:1 ≤ room) (h2:room ≤ 64):LogOk room yt2 :=
 ⟨by simp [yt2],h1,h2,fun s hs => by
  simp [yt2] at hs; subst hs
  exact ⟨by simp,by simp,by simp,by simp; omega,by simp,by simp⟩,fun i s t hs ht => by
  cases i <;> simp [yt2] at hs ht⟩
theorem LogOk.lst {room:Int} {L:List SegS} (h:LogOk room L):∃ s,L[L.length - 1]? = some s ∧ yfU L = s.next ∧ SegOk room s:=by
 have hl:L.length - 1 < L.length:=by have:=List.length_pos_iff.2 h.ne; omega
 refine ⟨L[L.length - 1],List.getElem?_eq_getElem hl,?_,h.segs _ (List.getElem_mem hl)⟩
 rw [yfU,List.getLast?_eq_getElem?,List.getElem?_eq_getElem hl]; rfl
theorem LogOk.fst {room:Int} {L:List SegS} (h:LogOk room L):∃ s,L[0]? = some s ∧ ykP L = s.base ∧ SegOk room s:=by
 have hl:0 < L.length:=List.length_pos_iff.2 h.ne
 refine ⟨L[0],List.getElem?_eq_getElem hl,?_,h.segs _ (List.getElem_mem hl)⟩
 rw [ykP,List.head?_eq_getElem?,List.getElem?_eq_getElem hl]; rfl
theorem ys1 (room:Int) (w:World):Calls pP 33 #[.int .i64 room] w fun e w' => ∃ v,e = .returned v ∧ Mod [] w w' ∧
  if 1 ≤ room ∧ room ≤ 64 then ∃ b F,v = .tuple #[.pointer (some ⟨b,0,none⟩),.int .i64 0] ∧ ydR w' b room yt2 F ∧ (∀ k ∈ F,w.heap.size ≤ k) else v = .tuple #[.pointer none,.int .i64 1]:=by
 refine yFu ?_
 refine (yBL room w).mono ?_
 rintro _ w1 ⟨rfl,rfl⟩
 refine ⟨_,rfl,?_⟩
 by_cases g:1 ≤ room ∧ room ≤ 64
 ·refine brF (by simp [g]) ?_
  refine (ysX 0 w1).mono ?_
  rintro _ w2 ⟨_,rfl,M2,h2⟩
  rw [if_pos (by unfold ykN; omega)] at h2
  obtain ⟨p,F,rfl,h2,hF⟩:=h2
  have s2:=M2.size
  refine ⟨_,_,rfl,ybH fun b14 w15 c15 M15 f15 => ?_⟩
  have s15:=M15.size
  intro b16 f16 w17 A17 h17
  have N:=(M2.go0 M15 (by simp)).go0 A17.mod (by simp)
  refine ⟨N,?_⟩
  rw [if_pos g]
  refine ⟨b16,_,rfl,⟨⟨some ⟨b14,0,none⟩,1,1⟩,[⟨p,⟨0,0,[]⟩,F⟩],h17,Row.one (x:=(⟨p,⟨0,0,[]⟩,F⟩:SegV)) rfl (Nat.zero_le _) (A17.mod.keep0 c15),by simpa using h2.keep0 (M15.go0 A17.mod (by simp)),by simp,rfl,rfl⟩,?_⟩
  simp [yaP]
  refine ⟨by omega,by omega,hF⟩
 ·refine brT (by simp [g]) ⟨Mod.refl _,?_⟩
  rw [if_neg g]
theorem yfM {w:World} {b:Nat} {room:Int} {sl:Sl} {qs:List SegV} {q:SegV} (hc:w.heap[b]? = some (.cells #[.int .i64 room,.slice sl.a sl.n sl.c] 116)) (hR:Row w 0 111 1 yh4 sl.a sl.n sl.c qs) (hq:qs[qs.length - 1]? = some q) (hl:qs.length ≤ 1000000) :
  Calls pP 112 #[.pointer (some ⟨b,0,none⟩)] w fun e w' => e = .returned (.pointer (some ⟨q.p,0,none⟩)) ∧ Mod [] w w':=by
 have hn:=hR.1
 have hlt:=(List.getElem?_eq_some_iff.1 hq).1
 refine ya2 (yKp hc ?_)
 have e:IntKind.wrap .i64 ((sl.n:Int) - 1) = ((qs.length - 1:Nat):Int):=by rw [yaJ (by omega) (by omega)]; omega
 rw [e]
 refine (hR.sl yeW).ix hq fun ad had => yfY (x:=some ⟨q.p,0,none⟩) (by simpa [add_zero] using had 0 _ rfl) ?_
 intro w3 A3 h3
 exact ⟨rfl,A3.mod⟩
theorem yfN {w:World} {b:Nat} {room:Int} {L:List SegS} {F:List Nat} (h:ydR w b room L F) (ok:LogOk room L) (hl:L.length ≤ 1000000) :
  Calls pP 70 #[.pointer (some ⟨b,0,none⟩)] w fun e w' => e = .returned (.tuple #[.int .i64 (ykP L),.int .i64 (yfU L)]) ∧ Mod [] w w':=by
 obtain ⟨s0,hs0,hs,_⟩:=ok.fst
 obtain ⟨s1,hs1,he,_⟩:=ok.lst
 obtain ⟨sl,qs,hc,hR,hS,hP,rfl,hF⟩:=h
 rw [List.length_map] at hs1 hl
 obtain ⟨q0,hq0,rfl⟩:∃ q,qs[0]? = some q ∧ q.s = s0:=by rw [List.getElem?_map] at hs0; exact Option.map_eq_some_iff.1 hs0
 obtain ⟨q1,hq1,rfl⟩:∃ q,qs[qs.length - 1]? = some q ∧ q.s = s1:=by rw [List.getElem?_map] at hs1; exact Option.map_eq_some_iff.1 hs1
 rw [hs,he]
 refine ya2 (yKw hc ?_)
 refine (hR.sl yeW).ix (i:=0) hq0 fun ad had => yfY (x:=some ⟨q0.p,0,none⟩) (by simpa [add_zero] using had 0 _ rfl) ?_
 refine (yg7 (hS q0 (List.mem_of_getElem? hq0))).mono ?_
 rintro _ w8 ⟨rfl,M8⟩
 refine ⟨_,_,rfl,yaG.of0 M8,?_⟩
 intro w25 A25 h25
 have N25:=M8.go0 A25.mod (by simp)
 refine (yfM h25 (hR.keep0 N25) hq1 hl).mono ?_
 rintro _ w26 ⟨rfl,M26⟩
 have N26:=N25.go0 M26 (by simp)
 refine ⟨_,rfl,_,_,_,_,M26.keep0 h25,?_⟩
 refine (yg7 ((hS q1 (List.mem_of_getElem? hq1)).keep0 N26)).mono ?_
 rintro _ w32 ⟨rfl,M32⟩
 exact ⟨_,_,rfl,_,_,_,_,M32.keep0 (M26.keep0 h25),rfl,N26.go0 M32 (by simp)⟩
end Go.Proofs.YtkepmmocldnnfaaGreat
namespace Go.Proofs.YtkepmmocldnnfaaGreat
open Go Go.RowKit Go.Maps Go.MapKept
set_option linter.unusedVariables false
set_option linter.unusedSimpArgs false
theorem Row.same {α:Type} {w:World} {base T sz:Nat} {enc:α → List Value} {a:Option Addr} {n c:Nat} {l l':List α} (h:Row w base T sz enc a n c l) (e:l'.map enc = l.map enc):Row w base T sz enc a n c l':=by
 obtain ⟨hn,ho⟩:=h
 have e1:l'.length = l.length:=by simpa using congrArg List.length e
 have e2:l'.flatMap enc = l.flatMap enc:=by rw [List.flatMap_def,List.flatMap_def,e]
 exact ⟨by omega,by rw [e2]; exact ho⟩
theorem ykQ {α β:Type} {f:α → β} {l:List α} {k:Nat} {q q':α} (h:l[k]? = some q) (e:f q' = f q):(l.set k q').map f = l.map f:=by
 obtain ⟨h1,h2⟩:=List.getElem?_eq_some_iff.1 h
 rw [List.map_set,e,← h2]
 have:(l.map f)[k]'(by simpa using h1) = f l[k]:=by simp
 rw [← this,List.set_getElem_self]
theorem yFV:(Tryz.prog.info? 111).map (fun i => (i.zero,i.size,i.bytes)) = some (some (.pointer none),1,8):=by kernel_rfl
theorem yEI {w:World} {B:Nat} {f:Sl} {l:List SegV} {y:SegV} {bs:List Nat} {F:Option Addr → Nat → Nat → World → Prop} (hR:Row w B 111 1 yh4 f.a f.n f.c l) (hl:l.length ≤ 1000000) (hB:B ≤ w.heap.size) (hbs:∀ b ∈ bs,b ∉ yaP f.a)
  (hF:∀ a' c' w',Row w' B 111 1 yh4 a' (f.n + 1) c' (l ++ [y]) → Mod (yaP f.a) w w' → (∀ k ∈ yaP a',k ∈ yaP f.a ∨ w.heap.size ≤ k) → F a' (f.n + 1) c' w') :
  al w (.cells (yh4 y).toArray 111) fun b w1 => ybN pP (Builtin.append_ #[114,114] 114 #[.slice f.a f.n f.c,.slice (some ⟨b,0,none⟩) 1 1]) w1 fun a n c w2 => yaG bs w1 w2 ∧ F a n c w2:=by
 refine ybH fun b w1 c1 M1 f1 => ?_
 have s1:=M1.size
 obtain ⟨i0,hi0,hz0,hz1,hz2⟩:=info_parts yFV
 refine ydQ (x:=y) (hR.keep0 M1) Tryz.underlying114 hi0 hz0 hz1 hz2 rfl (by decide) c1 rfl (ys0 _) (by omega) (by unfold maxLen; omega) (by omega) fun a' c' w8 hR8 hM8 hk8 => ?_
 have M8:=hM8 _ (yb0 f.a)
 refine ⟨yaG.of M8 fun b hb _ => hbs b hb,hF a' c' w8 hR8 ?_ fun k hk => ?_⟩
 ·exact (M1.trans M8).less fun k hk _ => by simpa using hk
 ·rcases hk8 k hk with h | h
  ·exact .inl h
  ·exact .inr (by omega)
def ye8 (s:SegS) (rs:List PRec):SegS:=⟨s.base,s.next + rs.length,s.l ++ ynQ s.next rs⟩
def ynR (room:Int) (L:List SegS) (rs:List PRec):Int:=if yt1 rs ≠ 0 then yt1 rs else if (rs.length:Int) > room then 2 else if yfU L + rs.length > 1099511627776 then 50 else 0
def ygO (room:Int) (L:List SegS) (rs:List PRec):List SegS:=match L[L.length - 1]? with
 | none => L
 | some s => if 0 < rs.length ∧ (s.l.length:Int) + rs.length > room then L ++ [ye8 ⟨s.next,s.next,[]⟩ rs] else L.set (L.length - 1) (ye8 s rs)
theorem ylI:∀ (n:Int) (rs:List PRec),∀ f ∈ ynQ n rs,n ≤ f.off ∧ f.off < n + rs.length
 | _,[],f,hf => by simp [ynQ] at hf
 | n,r :: rs,f,hf => by
  rw [ynQ] at hf
  rcases List.mem_cons.1 hf with rfl | hf
  ·simp; omega
  ·have:=ylI (n + 1) rs f hf
   simp; omega
theorem yxW:∀ (n:Int) (rs:List PRec),(ynQ n rs).Pairwise fun a b => a.off < b.off
 | _,[] => by simp [ynQ]
 | n,r :: rs => by
  rw [ynQ]
  refine List.pairwise_cons.2 ⟨fun f hf => ?_,yxW (n + 1) rs⟩
  have:=ylI (n + 1) rs f hf
  simp only; omega
theorem SegOk.app {room:Int} {s:SegS} (h:SegOk room s) {rs:List PRec} (h1:(s.l.length:Int) + rs.length ≤ room) (h2:s.next + rs.length ≤ 1099511627776):SegOk room (ye8 s rs):=by
 have:=h.mid
 refine ⟨h.lo,by simp [ye8]; omega,h2,by simp [ye8,yqF]; omega,fun f hf => ?_,?_⟩
 ·rcases List.mem_append.1 hf with hf | hf
  ·have:=h.off f hf
   simp only [ye8]; omega
  ·have:=ylI _ _ f hf
   simp only [ye8]; omega
 ·refine List.pairwise_append.2 ⟨h.inc,yxW _ _,fun a ha b hb => ?_⟩
  have:=h.off a ha
  have:=ylI _ _ b hb
  omega
theorem LogOk.set {room:Int} {L:List SegS} (h:LogOk room L) {k:Nat} {s s':SegS} (hk:L[k]? = some s) (ho:SegOk room s') (hb:s'.base = s.base) (hn:k + 1 < L.length → s'.next = s.next):LogOk room (L.set k s'):=by
 obtain ⟨hk1,hk2⟩:=List.getElem?_eq_some_iff.1 hk
 refine ⟨by simp; exact h.ne,h.r1,h.r2,fun x hx => ?_,fun i x y hx hy => ?_⟩
 ·rcases List.mem_or_eq_of_mem_set hx with hx | rfl
  ·exact h.segs x hx
  ·exact ho
 ·rw [List.getElem?_set] at hx hy
  by_cases e1:k = i
  ·subst e1
   rw [if_pos rfl,if_pos hk1] at hx
   rw [if_neg (by omega)] at hy
   cases hx
   have hlt:=(List.getElem?_eq_some_iff.1 hy).1
   rw [hn hlt]
   exact h.chain k s y hk hy
  ·rw [if_neg e1] at hx
   by_cases e2:k = i + 1
   ·subst e2
    rw [if_pos rfl,if_pos hk1] at hy
    cases hy
    rw [hb]; exact h.chain i x s hx hk
   ·rw [if_neg e2] at hy
    exact h.chain i x y hx hy
theorem LogOk.push {room:Int} {L:List SegS} (h:LogOk room L) {t:SegS} (ho:SegOk room t) (hb:t.base = yfU L):LogOk room (L ++ [t]):=by
 obtain ⟨s1,hs1,he,_⟩:=h.lst
 have hpos:=List.length_pos_iff.2 h.ne
 refine ⟨by simp,h.r1,h.r2,fun x hx => ?_,fun i x y hx hy => ?_⟩
 ·rcases List.mem_append.1 hx with hx | hx
  ·exact h.segs x hx
  ·simp at hx; subst hx; exact ho
 ·have hlt:=(List.getElem?_eq_some_iff.1 hy).1
  rw [List.length_append,List.length_singleton] at hlt
  rw [List.getElem?_append_left (by omega)] at hx
  by_cases e:i + 1 < L.length
  ·rw [List.getElem?_append_left e] at hy
   exact h.chain i x y hx hy
  ·have e:i = L.length - 1:=by omega
   subst e
   rw [hs1] at hx; cases hx
   rw [show L.length - 1 + 1 = L.length by omega,List.getElem?_append_right (Nat.le_refl _),Nat.sub_self] at hy
   cases hy
   rw [hb,he]
theorem LogOk.app {room:Int} {L:List SegS} (h:LogOk room L) {rs:List PRec} (he:ynR room L rs = 0):LogOk room (ygO room L rs):=by
 obtain ⟨s1,hs1,hend,ho⟩:=h.lst
 have hr:(rs.length:Int) ≤ room ∧ yfU L + rs.length ≤ 1099511627776:=by
  unfold ynR at he
  split at he
  ·contradiction
  ·split at he
   ·cases he
   ·split at he
    ·cases he
    ·omega
 rw [ygO,hs1]
 simp only
 split
 ·have:=h.r1
  have o1:SegOk room ⟨s1.next,s1.next,[]⟩:=⟨by have:=ho.lo; have:=ho.mid; simp only; omega,Int.le_refl _,ho.hi,by simp; omega,by simp,by simp⟩
  exact h.push (o1.app (by simpa using hr.1) (by simp only; omega)) hend.symm
 ·rename_i hn
  have e:(s1.l.length:Int) + rs.length ≤ room:=by
   by_cases g:0 < rs.length
   ·omega
   ·have:=ho.len; omega
  exact h.set hs1 (ho.app e (by omega)) rfl (fun hlt => by have:=(List.getElem?_eq_some_iff.1 hs1).1; omega)
theorem yzH (room:Int) (L:List SegS) (rs:List PRec):(ygO room L rs).length ≤ L.length + 1:=by
 unfold ygO
 split
 ·omega
 ·split <;> simp
set_option maxHeartbeats 1000000 in
theorem ys2 {w:World} {b:Nat} {room:Int} {sl:Sl} {qs:List SegV} {q:SegV} (hc:w.heap[b]? = some (.cells #[.int .i64 room,.slice sl.a sl.n sl.c] 116)) (hR:Row w 0 111 1 yh4 sl.a sl.n sl.c qs) (hS:∀ q ∈ qs,ycX w q.p q.s.base q.s.next q.s.l q.F) (hP:qs.Pairwise (fun a b => ye1 a.F b.F)) {k:Nat} (hq:qs[k]? = some q)
  {a:Option Addr} {n c:Nat} {rs:List PRec} (hr:∀ w',Mod q.F w w' → ybD w' 4 yhI a n rs) (hrl:rs.length ≤ 1000000) (ho:SegOk 64 q.s) (hE:yAJ q.s.next q.s.l rs = 0) :
  Calls pP 114 #[.pointer (some ⟨q.p,0,none⟩),.slice a n c] w fun e w' => e = .returned (.tuple #[.int .i64 q.s.next,.int .i64 0]) ∧ w'.heap[b]? = some (.cells #[.int .i64 room,.slice sl.a sl.n sl.c] 116) ∧
   ∃ F',ydR w' b room ((qs.map (·.s)).set k (ye8 q.s rs)) F' ∧ Mod (b :: (yaP sl.a ++ qs.flatMap (·.F))) w w' ∧ ybJ w (b :: (yaP sl.a ++ qs.flatMap (·.F))) F':=by
 have hqm:=List.mem_of_getElem? hq
 have hSq:=hS q hqm
 have:=ho.lo
 have:=ho.mid
 have:=ho.hi
 have:=ho.len
 refine (ysV hSq hr hrl (by omega) (by omega) (by omega)).mono ?_
 rintro _ w' ⟨rfl,h⟩
 rw [if_pos hE] at h
 obtain ⟨F1,hS1,M1,G1⟩:=h
 have s1:=M1.size
 rw [if_pos hE,hE]
 have inF:∀ x ∈ qs,∀ z ∈ x.F,z ∈ b :: (yaP sl.a ++ qs.flatMap (·.F)):=fun x hx z hz => by
  simp only [List.mem_cons,List.mem_append,List.mem_flatMap]; exact .inr (.inr ⟨x,hx,hz⟩)
 have hb:b ∉ q.F:=fun hb => by
  rcases hSq.types b hb _ _ hc with e | e | e <;> exact absurd e (by decide)
 have hrow:∀ z ∈ q.F,z ∉ yaP sl.a:=fun z hz hz' => by
  obtain ⟨_,_,cur,h1⟩:=yaS hR z hz'
  rcases hSq.types z hz _ _ h1 with e | e | e <;> exact absurd e (by decide)
 have hc':=M1.keep hc hb
 have ltA:∀ x ∈ qs,∀ z ∈ x.F,z < w.heap.size:=fun x hx => (hS x hx).lt
 refine ⟨rfl,hc',_,⟨sl,qs.set k ⟨q.p,ye8 q.s rs,F1⟩,hc',(yaE hR M1 hrow).same (ykQ hq rfl),fun x hx => ?_,?_,by rw [List.map_set],rfl⟩,M1.less fun z hz _ => inF q hqm z hz,fun z hz => ?_⟩
 ·rcases yeC hx with rfl | ⟨j,hj,hxj⟩
  ·exact hS1
  ·exact (hS x (List.mem_of_getElem? hxj)).keep M1 fun z hz => (yi1 hP (fun e => hj e.symm) hq hxj) z hz
 ·exact yi2 hP hq ltA G1
 ·simp only [List.mem_cons,List.mem_append,List.mem_flatMap] at hz
  rcases hz with rfl | hz | ⟨x,hx,hz⟩
  ·exact .inl (by simp)
  ·exact .inl (by simp [hz])
  ·rcases yeC hx with rfl | ⟨j,hj,hxj⟩
   ·rcases G1 z hz with h1 | h1
    ·exact .inl (inF q hqm z h1)
    ·exact .inr h1
   ·exact .inl (inF x (List.mem_of_getElem? hxj) z hz)
end Go.Proofs.YtkepmmocldnnfaaGreat
namespace Go.Proofs.YtkepmmocldnnfaaGreat
open Go Go.RowKit Go.Maps Go.MapKept
set_option linter.unusedVariables false
set_option linter.unusedSimpArgs false
theorem ys3 {next:Int} {l:List PFound} {rs:List PRec} (h0:yt1 rs = 0) (h1:l.length + rs.length ≤ 64) (h2:next + rs.length ≤ 1099511627776):yAJ next l rs = 0:=by
 rw [yAJ,if_neg (by simpa using h0),if_neg (by omega)]
theorem SegOk.wide {room:Int} {s:SegS} (h:SegOk room s) (hr:room ≤ 64):SegOk 64 s:=⟨h.lo,h.mid,h.hi,by have:=h.len; omega,h.off,h.inc⟩
set_option maxRecDepth 10000 in
set_option maxHeartbeats 2000000 in
theorem ys4 {w:World} {b:Nat} {room:Int} {L:List SegS} {F:List Nat} (h:ydR w b room L F) (ok:LogOk room L) (hl:L.length ≤ 100000) {a:Option Addr} {n c:Nat} {rs:List PRec} (hr:∀ w',Mod F w w' → ybD w' 4 yhI a n rs) (hrl:rs.length ≤ 1000000) :
  Calls pP 67 #[.pointer (some ⟨b,0,none⟩),.slice a n c] w fun e w' => e = .returned (.tuple #[.int .i64 (if ynR room L rs = 0 then yfU L else 0),.int .i64 (ynR room L rs)]) ∧
   ∃ F',ydR w' b room (if ynR room L rs = 0 then ygO room L rs else L) F' ∧ Mod F w w' ∧ ybJ w F F':=by
 obtain ⟨s1,hs1,hend,ho⟩:=ok.lst
 have r1:=ok.r1
 have r2:=ok.r2
 have hlo:=ho.lo
 have hmid:=ho.mid
 have hhi:=ho.hi
 have hlen:=ho.len
 have h':=h
 obtain ⟨sl,qs,hc,hR,hS,hP,rfl,rfl⟩:=h
 have hr0:=hr w ((Mod.refl w).less (by simp))
 have hn:=hr0.1
 have hRn:=hR.1
 rw [List.length_map] at hs1 hl
 obtain ⟨q1,hq1,rfl⟩:∃ q,qs[qs.length - 1]? = some q ∧ q.s = s1:=by rw [List.getElem?_map] at hs1; exact Option.map_eq_some_iff.1 hs1
 have hq1m:=List.mem_of_getElem? hq1
 have ltA:∀ x ∈ qs,∀ z ∈ x.F,z < w.heap.size:=fun x hx => (hS x hx).lt
 have ltF:=h'.lt
 refine ya2 (yKs hc ?_)
 refine yCw (fun mm x w' => ∃ k:Nat,x = k ∧ k ≤ rs.length ∧ (∀ y ∈ rs.take k,yjO y = 0) ∧ Mod [] w w' ∧ mm = rs.length - k) rs.length ⟨0,rfl,by omega,by simp,Mod.refl _,rfl⟩ ?_
 rintro mm x w1 ⟨k,rfl,hk,hb,M1,rfl⟩
 refine yaH (fun hlt => ?_) fun hge => ?_
 ·obtain ⟨r,hrk⟩:∃ r,rs[k]? = some r:=⟨_,List.getElem?_eq_getElem (by omega)⟩
  refine (hr0.keep0 M1).ix hrk fun q hq => ya1 (by simpa [add_zero] using hq 0 _ rfl) (yaN (hq 1 _ rfl) (ya1 (hq 2 _ rfl) (yaN (hq 3 _ rfl) ?_)))
  intro b12 f12 w16 A16
  have N16:=M1.go0 A16.mod (by simp)
  refine (yh0 r w16).mono ?_
  rintro _ w17 ⟨rfl,M17⟩
  have N17:=N16.go0 M17 (by simp)
  refine ⟨_,rfl,yaG.of0 M17,yaD (fun g => ?_) fun g => ?_⟩
  ·have g:yjO r ≠ 0:=by simpa using g
   have e:=yxQ hrk g hb
   have el:ynR room (qs.map (·.s)) rs = yjO r:=by rw [ynR,e,if_pos g]
   intro w19 A19 _
   have N19:=N17.go0 A19.mod (by simp)
   rw [el,if_neg g,if_neg g]
   exact ⟨rfl,_,h'.keep0 N19,N19.less (by simp),ybJ.refl _ _⟩
  ·exact yCv (rs.length - (k + 1)) (by omega) ⟨k + 1,by rw [yaJ (by omega) (by omega)]; omega,by omega,fun y hy => by
    rw [yd2 hrk] at hy
    rcases List.mem_append.1 hy with hy | hy
    ·exact hb y hy
    ·simp at hy; subst hy; simpa using g,N17,rfl⟩
 have hk:k = rs.length:=by omega
 subst hk
 rw [List.take_length] at hb
 have he0:=ysU hb
 intro w28 A28 h28
 have N28:=M1.go0 A28.mod (by simp)
 refine (yfN (h'.keep0 N28) ok (by simp; omega)).mono ?_
 rintro _ w29 ⟨rfl,M29⟩
 have N29:=N28.go0 M29 (by simp)
 refine ⟨_,_,rfl,_,_,_,_,M29.keep0 h28,?_⟩
 have h29:=h'.keep0 N29
 have e2:IntKind.wrap .i64 (yfU (qs.map (·.s)) + (n:Int)) = yfU (qs.map (·.s)) + rs.length:=by rw [yaJ (by omega) (by omega)]; omega
 refine yaH (fun g1 => ?_) fun g1 => ?_
 ·have el:ynR room (qs.map (·.s)) rs = 2:=by rw [ynR,if_neg (by simpa using he0),if_pos (by omega)]
  rw [el,if_neg (by decide),if_neg (by decide)]
  exact ⟨rfl,_,h29,N29.less (by simp),ybJ.refl _ _⟩
 rw [e2]
 refine yaH (fun g2 => ?_) fun g2 => ?_
 ·have el:ynR room (qs.map (·.s)) rs = 50:=by rw [ynR,if_neg (by simpa using he0),if_neg (by omega),if_pos (by omega)]
  rw [el,if_neg (by decide),if_neg (by decide)]
  exact ⟨rfl,_,h29,N29.less (by simp),ybJ.refl _ _⟩
 have el:ynR room (qs.map (·.s)) rs = 0:=by rw [ynR,if_neg (by simpa using he0),if_neg (by omega),if_neg (by omega)]
 rw [el,if_pos rfl,if_pos rfl]
 have hApp:ygO room (qs.map (·.s)) rs = if 0 < rs.length ∧ (q1.s.l.length:Int) + rs.length > room then qs.map (·.s) ++ [ye8 ⟨q1.s.next,q1.s.next,[]⟩ rs] else (qs.map (·.s)).set (qs.length - 1) (ye8 q1.s rs):=by
  rw [ygO,List.length_map,hs1]
 have inF:∀ x ∈ qs,∀ z ∈ x.F,z ∈ b :: (yaP sl.a ++ qs.flatMap (·.F)):=fun x hx z hz => by
  simp only [List.mem_cons,List.mem_append,List.mem_flatMap]; exact .inr (.inr ⟨x,hx,hz⟩)
 have tail:∀ {w3:World},Mod [] w w3 → ¬ (0 < rs.length ∧ (q1.s.l.length:Int) + rs.length > room) → Calls pP 114 #[.pointer (some ⟨q1.p,0,none⟩),.slice a n c] w3 fun e w' => e = .returned (.tuple #[.int .i64 (yfU (qs.map (·.s))),.int .i64 0]) ∧ w'.heap[b]? = some (.cells #[.int .i64 room,.slice sl.a sl.n sl.c] 116) ∧
   ∃ F',ydR w' b room (ygO room (qs.map (·.s)) rs) F' ∧ Mod (b :: (yaP sl.a ++ qs.flatMap (·.F))) w w' ∧ ybJ w (b :: (yaP sl.a ++ qs.flatMap (·.F))) F':=by
  intro w3 N3 hno
  have s3:=N3.size
  refine (ys2 (N3.keep0 hc) (hR.keep0 N3) (fun q hq => (hS q hq).keep0 N3) hP hq1 (fun w' M => hr w' ?_) hrl (ho.wide r2) (ys3 he0 (by omega) (by omega))).mono ?_
  ·exact (N3.trans M).less fun z hz _ => inF q1 hq1m z (by simpa using hz)
  ·rintro _ w' ⟨rfl,hc',F',hL',M',G'⟩
   rw [hApp,if_neg hno,hend]
   exact ⟨rfl,hc',F',hL',(N3.trans M').less fun z hz _ => by simpa using hz,fun z hz => by
    rcases G' z hz with h1 | h1
    ·exact .inl h1
    ·exact .inr (by omega)⟩
 refine yaH (fun g3 => ?_) fun g3 => ?_
 ·intro w36 A36 h36
  have N36:=N29.go0 A36.mod (by simp)
  refine (yfM h36 (hR.keep0 N36) hq1 (by omega)).mono ?_
  rintro _ w37 ⟨rfl,M37⟩
  have N37:=N36.go0 M37 (by simp)
  refine ⟨_,rfl,_,_,_,_,M37.keep0 h36,rfl,?_⟩
  refine (yCt ((hS q1 hq1m).keep0 N37)).mono ?_
  rintro _ w43 ⟨rfl,M43⟩
  have N43:=N37.go0 M43 (by simp)
  have s43:=N43.size
  refine ⟨_,rfl,_,_,_,_,M43.keep0 (M37.keep0 h36),rfl,?_⟩
  have e4:IntKind.wrap .i64 ((q1.s.l.length:Int) + (n:Int)) = q1.s.l.length + rs.length:=by rw [yaJ (by omega) (by omega)]; omega
  rw [e4]
  refine yaH (fun g4 => ?_) fun g4 => ?_
  ·have hN:=ysX (yfU (qs.map (·.s))) w43
   refine hN.mono ?_
   intro e5 w56 hv
   obtain ⟨v5,hv5,M56,hv⟩:=hv
   subst hv5
   have hmay:ykN (yfU (qs.map (·.s))):=⟨by omega,by omega⟩
   rw [if_pos hmay] at hv
   obtain ⟨p,Fn,rfl,hSn,hFn⟩:=hv
   have N56:=N43.go0 M56 (by simp)
   have s56:=M56.size
   refine ⟨_,_,rfl,_,_,_,_,M56.keep0 (M43.keep0 (M37.keep0 h36)),?_⟩
   have hR56:=hR.keep0 N56
   have hbr:b ∉ yaP sl.a:=ycT hR hc (by decide)
   have ltR:=yaQ hR
   refine yEI (y:=⟨p,⟨yfU (qs.map (·.s)),yfU (qs.map (·.s)),[]⟩,Fn⟩) hR56 (by omega) (by omega) (by simpa using hbr) fun a72 c74 w71 hR71 M71 hk71 => ?_
   have s71:=M71.size
   intro w89 A89 h89
   have s89:=A89.mod.size
   have N71:Mod (yaP sl.a) w w71:=(N56.trans M71).less fun z hz _ => by simpa using hz
   have N89:Mod (b :: yaP sl.a) w w89:=(N71.trans A89.mod).less fun z hz _ => by simp at hz ⊢; rcases hz with h1 | h1 <;> simp [h1]
   have hb72:b ∉ yaP a72:=fun hb => by
    rcases hk71 b hb with h1 | h1
    ·exact hbr h1
    ·have:=yaL hc; omega
   have hR89:=yaE hR71 A89.mod (by simpa using hb72)
   have apR:∀ q ∈ qs,∀ z ∈ b :: yaP sl.a,z ∉ q.F:=fun q hq z hz hz' => by
    rcases List.mem_cons.1 hz with rfl | hz
    ·rcases (hS q hq).types z hz' _ _ hc with e | e | e <;> exact absurd e (by decide)
    ·obtain ⟨_,_,cur,h1⟩:=yaS hR z hz
     rcases (hS q hq).types z hz' _ _ h1 with e | e | e <;> exact absurd e (by decide)
   have hS89:∀ q ∈ qs ++ [(⟨p,⟨yfU (qs.map (·.s)),yfU (qs.map (·.s)),[]⟩,Fn⟩:SegV)],ycX w89 q.p q.s.base q.s.next q.s.l q.F:=by
    intro q hq
    rcases List.mem_append.1 hq with hq | hq
    ·exact (hS q hq).keep N89 (apR q hq)
    ·simp at hq; subst hq
     have ltb:=yaL hc
     have hSn71:ycX w71 p (yfU (qs.map (·.s))) (yfU (qs.map (·.s))) [] Fn:=hSn.keep M71 fun z hz hz' => by
      have:=hFn z hz'; have:=(ltR z hz).2; omega
     exact hSn71.keep A89.mod fun z hz hz' => by
      simp at hz; subst hz
      have:=hFn z hz'; omega
   have hP89:(qs ++ [(⟨p,⟨yfU (qs.map (·.s)),yfU (qs.map (·.s)),[]⟩,Fn⟩:SegV)]).Pairwise (fun a b => ye1 a.F b.F) :=
    ysZ (w:=w) hP ltA (fun z hz => by have:=hFn z hz; omega)
   have hq89:(qs ++ [(⟨p,⟨yfU (qs.map (·.s)),yfU (qs.map (·.s)),[]⟩,Fn⟩:SegV)])[qs.length]? = some ⟨p,⟨yfU (qs.map (·.s)),yfU (qs.map (·.s)),[]⟩,Fn⟩:=by simp
   refine (yfM (sl:=⟨a72,sl.n + 1,c74⟩) h89 hR89 (q:=⟨p,⟨yfU (qs.map (·.s)),yfU (qs.map (·.s)),[]⟩,Fn⟩) (by simp) (by simp; omega)).mono ?_
   rintro _ w90 ⟨rfl,M90⟩
   have s90:=M90.size
   refine ⟨_,rfl,_,_,_,_,M90.keep0 h89,?_⟩
   refine (ys2 (sl:=⟨a72,sl.n + 1,c74⟩) (M90.keep0 h89) (hR89.keep0 M90) (fun q hq => (hS89 q hq).keep0 M90) hP89 hq89 (fun w' M => hr w' ?_) hrl (⟨by simp only; omega,Int.le_refl _,by simp only; omega,by simp,by simp,by simp⟩) (ys3 he0 (by simp; omega) (by simp only; omega))).mono ?_
   ·exact ((N89.trans M90).trans M).less fun z hz hz' => by
     simp only [List.append_nil,List.mem_append,List.mem_cons] at hz
     rcases hz with (rfl | hz) | hz
     ·simp
     ·simp [hz]
     ·have:=hFn z hz; omega
   ·rintro _ w96 ⟨rfl,hc96,F96,hL96,M96,G96⟩
    refine ⟨_,_,rfl,_,_,_,_,hc96,?_⟩
    rw [hApp,if_pos ⟨by omega,by omega⟩]
    have eL:((qs ++ [(⟨p,⟨yfU (qs.map (·.s)),yfU (qs.map (·.s)),[]⟩,Fn⟩:SegV)]).map (·.s)).set qs.length (ye8 ⟨yfU (qs.map (·.s)),yfU (qs.map (·.s)),[]⟩ rs) = qs.map (·.s) ++ [ye8 ⟨q1.s.next,q1.s.next,[]⟩ rs]:=by
     rw [List.map_append,List.set_append_right _ _ (by simp)]
     simp [hend]
    rw [eL] at hL96
    have G:∀ z ∈ b :: (yaP a72 ++ (qs ++ [(⟨p,⟨yfU (qs.map (·.s)),yfU (qs.map (·.s)),[]⟩,Fn⟩:SegV)]).flatMap (·.F)),z ∈ b :: (yaP sl.a ++ qs.flatMap (·.F)) ∨ w.heap.size ≤ z:=fun z hz => by
     simp only [List.flatMap_append,List.mem_cons,List.mem_append,List.flatMap_cons,List.flatMap_nil,List.append_nil] at hz ⊢
     rcases hz with rfl | hz | hz | hz
     ·exact .inl (.inl rfl)
     ·rcases hk71 z hz with h1 | h1
      ·exact .inl (.inr (.inl h1))
      ·exact .inr (by omega)
     ·exact .inl (.inr (.inr hz))
     ·have:=hFn z hz; exact .inr (by omega)
    refine ⟨rfl,F96,hL96,?_,fun z hz => ?_⟩
    ·exact ((N89.trans M90).trans M96).less fun z hz hz' => by
      simp only [List.append_nil,List.mem_append] at hz
      rcases hz with hz | hz
      ·simp only [List.mem_cons,List.mem_append] at hz ⊢
       rcases hz with h1 | h1 <;> simp [h1]
      ·rcases G z hz with h1 | h1
       ·exact h1
       ·omega
    ·rcases G96 z hz with h1 | h1
     ·exact G z h1
     ·exact .inr (by omega)
  ·refine (yfM (M43.keep0 (M37.keep0 h36)) (hR.keep0 N43) hq1 (by omega)).mono ?_
   rintro _ w116 ⟨rfl,M116⟩
   refine ⟨_,rfl,_,_,_,_,M116.keep0 (M43.keep0 (M37.keep0 h36)),?_⟩
   refine (tail (N43.go0 M116 (by simp)) (by omega)).mono ?_
   rintro _ w122 ⟨rfl,hc122,hR122⟩
   exact ⟨_,_,rfl,_,_,_,_,hc122,rfl,hR122⟩
 ·intro w143 A143 h143
  have N143:=N29.go0 A143.mod (by simp)
  refine (yfM h143 (hR.keep0 N143) hq1 (by omega)).mono ?_
  rintro _ w144 ⟨rfl,M144⟩
  refine ⟨_,rfl,_,_,_,_,M144.keep0 h143,?_⟩
  refine (tail (N143.go0 M144 (by simp)) (by omega)).mono ?_
  rintro _ w150 ⟨rfl,hc150,hR150⟩
  exact ⟨_,_,rfl,_,_,_,_,hc150,rfl,hR150⟩
end Go.Proofs.YtkepmmocldnnfaaGreat
