/- Part 4 of the proof of PBReads. -/
import Derived.Test.YteldhjiiocmicaaGreatPBReadsK3
namespace Go.Proofs.YteldhjiiocmicaaGreat
open Go Go.RowKit
set_option linter.all false
section
set_option maxRecDepth 100000
variable {R:VWP} {w w0:World} {m:Nat} {i0 i1 i2 i3 i4 i5 i6 i7 i8 i9 j0 j1 j2 j3 j4 j5 j6 j7 j8 j9 k0 k1 k2 k3 k4 k5 k6 k7 k8 k9 l0 l1 l2 l3 l4 l5 l6 l7 l8 l9:Int} {s0 s1 s2 s3 s4 s5 s6 s7 s8 s9 t0 t1 t2 t3 t4 t5 t6 t7 t8 t9:BA} {n0 n1 n2 n3 n4 n5 n6 n7 n8 n9 o0 o1 o2 o3 o4 o5 o6 o7 o8 o9 p0 p1 p2 p3 p4 p5 p6 p7 p8 p9:Nat} {q0 q1 q2 q3 q4 q5 q6 q7 q8 q9 r0 r1 r2 r3 r4 r5 r6 r7 r8 r9:OA} {B0 B1 B2 B3 B4 B5 B6 B7 B8 B9:Bool} {M0 M1 M2 M3:Option Nat} {V0 V1 V2 V3 V4 V5:Value} {A0 A1 A2:Addr}
theorem yLe (h :
 al w (.map #[] 0) fun b4 w5 =>
 ∀ b6,w5.heap.size ≤ b6 →
 ∀ w7,Adv [] [b6] w5 w7 → w7.heap[b6]? = some (.cells #[.int .i64 0,.bool false,(.map (some b4))] 190) →
 R (.pointer (some ⟨b6,0,none⟩)) w7) :
 CR pP 50 #[] w R :=
 yaB Tryz.wide_mixed (an:=[]) Tryz.func50 rfl rfl (by kernel_rfl) rfl (Eq.mpr (by kernel_rfl) h)
theorem yLf (h :
 brB (decide (i0 ≥ 0)) (
 R (.bool (decide (i0 ≤ 1099511627776))) w)
 (
 R (.bool false) w)) :
 CR pP 108 #[.int .i64 i0] w R :=
 yaB Tryz.wide_mixed (an:=[]) Tryz.func108 rfl rfl (by kernel_rfl) rfl (Eq.mpr (by kernel_rfl) h)
def ywE:LA:=⟨[0,0,1,0,1,1],[1,3,9,10,11],[(1,0,0)],1,[]⟩
def yyR:List LA:=[ywE]
abbrev yLg:=dnF pP yyR (code Tryz.f106)
abbrev yNC:=yaR pP yyR (code Tryz.f106)
abbrev yLh (p:List Nat) (K:List Kh) (R:VWP):=yaR pP yyR (code Tryz.f106) p K (ybE pP Tryz.f106 [] R)
def ym3 (a8:OA) (b2 b0:Nat) (a9:OA) (b3 b1:Nat) (a6:Int) (bm0:Nat) (a3:BA) (a0:OA) (a2 a1:Nat) (a4 a5:Int):Int → List Value × List TB:=fun a7 => ([(.pointer (some ⟨bm0,0,none⟩)),.slice a8 b2 b0,.slice a9 b3 b1,.int .i64 a6,.int .i64 a7],[⟨bm0,122,[.string a3,.slice a0 a2 a1,.int .i64 a4,.int .i64 a5],false⟩])
abbrev yDh (a7:OA) (b1 a9:Nat) (a8:OA) (b2 b0:Nat) (a6:Int) (bm0:Nat) (a3:BA) (a0:OA) (a2 a1:Nat) (a4 a5:Int) (I:Nat → Int → World → Prop) (m:Nat):Kh:=KG (ym3 a7 b1 a9 a8 b2 b0 a6 bm0 a3 a0 a2 a1 a4 a5) (U1 I) m
theorem ytY {I:Nat → Int → World → Prop} (m':Nat) (h1:m' < m) (h2:I m' i3 w):KS (yDh q0 n0 n1 q1 n2 n3 i0 n4 s0 q2 n5 n6 i1 i2 I m) (ym3 q0 n0 n1 q1 n2 n3 i0 n4 s0 q2 n5 n6 i1 i2 i3) w:=⟨m',h1,_,rfl,rfl,h2⟩
theorem yDi {a9:OA} {b0:OA} {a1:BA} {a3:OA} (I:Nat → Int → World → Prop) (m0:Nat) (h0:I m0 i3 w0)
 (hr:∀ m a6 w,I m a6 w →
 brB (decide (a6 < i0)) (
 ixA b0 n2 a6 1 fun q5 =>
 ya7 w q5 fun s6 =>
 Calls pP 122 #[.string s6] w fun e b5 => ∃ b9,e = .returned (.bool b9) ∧ yaF [n4] w b5 ∧
 brB (!b9) (
 R (.bool false) b5)
 (
 brB (decide (a6 > 0)) (
 ixA a9 n0 (IntKind.wrap .i64 (a6 - 1)) 1 fun c4 =>
 ya7 b5 c4 fun b8 =>
 brB ((Op.bytesLess s6.toList b8.toList) || (s6.toList == b8.toList)) (
 R (.bool false) b5)
 (
 KS (yDh a9 n0 n1 b0 n2 n3 i0 n4 a1 a3 n5 n6 i1 i2 I m) (ym3 a9 n0 n1 b0 n2 n3 i0 n4 a1 a3 n5 n6 i1 i2 (IntKind.wrap .i64 (a6 + 1))) b5))
 (
 KS (yDh a9 n0 n1 b0 n2 n3 i0 n4 a1 a3 n5 n6 i1 i2 I m) (ym3 a9 n0 n1 b0 n2 n3 i0 n4 a1 a3 n5 n6 i1 i2 (IntKind.wrap .i64 (a6 + 1))) b5)))
 (
 Calls pP 122 #[.string a1] w fun e b2 => ∃ c0,e = .returned (.bool c0) ∧ yaF [n4] w b2 ∧
 brB c0 (
 brB (decide ((n0:Int) > 0)) (
 brB (decide ((n0:Int) ≤ 8)) (
 brB (decide (i1 > 0)) (
 Calls pP 108 #[.int .i64 i1] b2 fun e b6 => ∃ c1,e = .returned (.bool c1) ∧ yaF [n4] b2 b6 ∧
 brB c1 (
 Calls pP 108 #[.int .i64 i2] b6 fun e c3 => ∃ c2,e = .returned (.bool c2) ∧ yaF [n4] b6 c3 ∧
 R (.bool c2) c3)
 (
 R (.bool false) b6))
 (
 R (.bool false) b2))
 (
 R (.bool false) b2))
 (
 R (.bool false) b2))
 (
 R (.bool false) b2))) :
 yaO ywE (yLg 396 [0,0,1,0,1,1]) (yLh [1,1,0,1,0] [] R) (ym3 a9 n0 n1 b0 n2 n3 i0 n4 a1 a3 n5 n6 i1 i2 i3) w0 :=
 lrule (ym3 a9 n0 n1 b0 n2 n3 i0 n4 a1 a3 n5 n6 i1 i2) (U1 I) h0 (by rintro m a6 w h; exact ⟨by kernel_rfl,by kernel_rfl,fun js => Eq.mpr (by kernel_rfl) (hr m a6 w h)⟩)
theorem yLi (h :
 ∀ b2,w.heap.size ≤ b2 →
 ∀ a6,Adv [] [b2] w a6 →
 yaO ywE (yLg 396 [0,0,1,0,1,1]) (yLh [1,1,0,1,0] [] R) (ym3 q0 n0 n1 q0 n0 n1 (n0:Int) b2 s0 q0 n0 n1 i0 i1 0) a6) :
 CR pP 106 #[(.agg (Z3 s0 q0 n0 n1 i0 i1))] w R :=
 yaB Tryz.wide_mixed (an:=yyR) Tryz.func106 rfl rfl (by kernel_rfl) rfl (Eq.mpr (by kernel_rfl) h)
theorem yLj (h :
 ∀ b3,w.heap.size ≤ b3 →
 ∀ b4,w.heap.size ≤ b4 →
 ∀ a6,Adv [] [b4,b3] w a6 →
 Calls pP 144 #[.slice q0 n0 n1] a6 fun e b0 => ∃ a7 a9 a8,e = .returned (.slice a7 a9 a8) ∧ yaF [b3,b4] a6 b0 ∧
 ∀ b1,Adv [b4,b3] [] b0 b1 →
 R (.agg (Z3 s0 a7 a9 a8 i0 i1)) b1) :
 CR pP 107 #[(.agg (Z3 s0 q0 n0 n1 i0 i1))] w R :=
 yaB Tryz.wide_mixed (an:=[]) Tryz.func107 rfl rfl (by kernel_rfl) rfl (Eq.mpr (by kernel_rfl) h)
theorem yLk {b0:Nat} {a0:BA} {a3 a2:Nat} (hb:w.heap[b0]? = some (.cells #[.int .i64 i0,.bool B0,(.map M0)] 190)) (h :
 ∀ b2,w.heap.size ≤ b2 →
 ∀ w3,Adv [] [b2] w w3 →
 ∃ s4 a5 n6 c7 x8 x9 b3,(∀ w',Mod [] w3 w' → (Instr.lookup 188 (.map M0) (.string a0) true).run pP w' = .ok (.tuple #[(.agg (Z3 s4 a5 n6 c7 x8 x9)),.bool b3]) w') ∧
 ∀ a6,w3.heap.size ≤ a6 →
 ∀ c4,Adv [] [a6] w3 c4 →
 Calls pP 106 #[(.agg (Z3 a0 q0 a3 a2 i1 i2))] c4 fun e a7 => ∃ h5,e = .returned (.bool h5) ∧ yaF [b0,b2,a6] c4 a7 ∧
 brB (!h5) (
 ∀ c5,Adv [] [] a7 c5 → c5.heap[b0]? = some (.cells #[.int .i64 i0,.bool B0,(.map M0)] 190) →
 R (.tuple #[.int .i64 0,.int .i64 1]) c5)
 (
 ∃ u1,(∀ w',Mod [] a7 w' → (Builtin.len_ #[188] 3 #[(.map M0)]).run pP w' = .ok (.int .i64 u1) w') ∧
 brB (decide (u1 > 0)) (
 brB (!(B0 == B1)) (
 ∀ c6,Adv [] [] a7 c6 → c6.heap[b0]? = some (.cells #[.int .i64 i0,.bool B0,(.map M0)] 190) →
 R (.tuple #[.int .i64 0,.int .i64 112]) c6)
 (
 ∃ u2,(∀ w',Mod [] a7 w' → (Builtin.len_ #[188] 3 #[(.map M0)]).run pP w' = .ok (.int .i64 u2) w') ∧
 brB (decide (u2 ≥ 8)) (
 brB (!b3) (
 brB (!b3) (
 ∀ c8,Adv [] [] a7 c8 → c8.heap[b0]? = some (.cells #[.int .i64 i0,.bool B0,(.map M0)] 190) →
 R (.tuple #[.int .i64 0,.int .i64 2]) c8)
 (
 ∀ c9,Adv [] [] a7 c9 →
 Calls pP 107 #[(.agg (Z3 a0 q0 a3 a2 i1 i2))] c9 fun e d0 => ∃ g9 f4 g4 f9 u3 u4,e = .returned (.agg (Z3 g9 f4 g4 f9 u3 u4)) ∧ yaF [b0,b2,a6] c9 d0 ∧ (((.string a0):Value) = (.string a0)) ∧ (((.map M0):Value) = (.map M0)) ∧
 ∃ w1 u5,∃ b5,(Instr.mapEntry 188 (.map M0) (.string a0)).run pP d0 = .ok (.tuple #[w1,.int .i64 u5]) b5 ∧ yaF [b0,b2,a6] d0 b5 ∧
 ydM pP (Instr.entryStore 188 (.map M0) (.int .i64 u5) (.agg (Z3 g9 f4 g4 f9 u3 u4))) b5 fun h6 => yaF [b0,b2,a6] b5 h6 ∧
 ∀ d1,Adv [b0] [] h6 d1 → d1.heap[b0]? = some (.cells #[(.int .i64 (IntKind.wrap .i64 (i0 + 1))),.bool B1,(.map M0)] 190) →
 R (.tuple #[(.int .i64 (IntKind.wrap .i64 (i0 + 1))),.int .i64 0]) d1))
 (
 brB (decide (i0 ≥ 1099511627776)) (
 ∀ d2,Adv [] [] a7 d2 → d2.heap[b0]? = some (.cells #[.int .i64 i0,.bool B0,(.map M0)] 190) →
 R (.tuple #[.int .i64 0,.int .i64 2]) d2)
 (
 ∀ d3,Adv [] [] a7 d3 →
 Calls pP 107 #[(.agg (Z3 a0 q0 a3 a2 i1 i2))] d3 fun e d4 => ∃ h0 f5 g5 g0 u6 u7,e = .returned (.agg (Z3 h0 f5 g5 g0 u6 u7)) ∧ yaF [b0,b2,a6] d3 d4 ∧ (((.string a0):Value) = (.string a0)) ∧ (((.map M0):Value) = (.map M0)) ∧
 ∃ w2 u9,∃ b6,(Instr.mapEntry 188 (.map M0) (.string a0)).run pP d4 = .ok (.tuple #[w2,.int .i64 u9]) b6 ∧ yaF [b0,b2,a6] d4 b6 ∧
 ydM pP (Instr.entryStore 188 (.map M0) (.int .i64 u9) (.agg (Z3 h0 f5 g5 g0 u6 u7))) b6 fun h7 => yaF [b0,b2,a6] b6 h7 ∧
 ∀ d5,Adv [b0] [] h7 d5 → d5.heap[b0]? = some (.cells #[(.int .i64 (IntKind.wrap .i64 (i0 + 1))),.bool B1,(.map M0)] 190) →
 R (.tuple #[(.int .i64 (IntKind.wrap .i64 (i0 + 1))),.int .i64 0]) d5)))
 (
 brB (decide (i0 ≥ 1099511627776)) (
 ∀ d6,Adv [] [] a7 d6 → d6.heap[b0]? = some (.cells #[.int .i64 i0,.bool B0,(.map M0)] 190) →
 R (.tuple #[.int .i64 0,.int .i64 2]) d6)
 (
 ∀ d7,Adv [] [] a7 d7 →
 Calls pP 107 #[(.agg (Z3 a0 q0 a3 a2 i1 i2))] d7 fun e d8 => ∃ h1 f6 g6 g1 v0 v1,e = .returned (.agg (Z3 h1 f6 g6 g1 v0 v1)) ∧ yaF [b0,b2,a6] d7 d8 ∧ (((.string a0):Value) = (.string a0)) ∧ (((.map M0):Value) = (.map M0)) ∧
 ∃ w4 v2,∃ b7,(Instr.mapEntry 188 (.map M0) (.string a0)).run pP d8 = .ok (.tuple #[w4,.int .i64 v2]) b7 ∧ yaF [b0,b2,a6] d8 b7 ∧
 ydM pP (Instr.entryStore 188 (.map M0) (.int .i64 v2) (.agg (Z3 h1 f6 g6 g1 v0 v1))) b7 fun h8 => yaF [b0,b2,a6] b7 h8 ∧
 ∀ d9,Adv [b0] [] h8 d9 → d9.heap[b0]? = some (.cells #[(.int .i64 (IntKind.wrap .i64 (i0 + 1))),.bool B1,(.map M0)] 190) →
 R (.tuple #[(.int .i64 (IntKind.wrap .i64 (i0 + 1))),.int .i64 0]) d9))))
 (
 ∃ v3,(∀ w',Mod [] a7 w' → (Builtin.len_ #[188] 3 #[(.map M0)]).run pP w' = .ok (.int .i64 v3) w') ∧
 brB (decide (v3 ≥ 8)) (
 brB (!b3) (
 brB (!b3) (
 ∀ e0,Adv [] [] a7 e0 → e0.heap[b0]? = some (.cells #[.int .i64 i0,.bool B0,(.map M0)] 190) →
 R (.tuple #[.int .i64 0,.int .i64 2]) e0)
 (
 ∀ e1,Adv [] [] a7 e1 →
 Calls pP 107 #[(.agg (Z3 a0 q0 a3 a2 i1 i2))] e1 fun e e2 => ∃ h2 f7 g7 g2 v4 v5,e = .returned (.agg (Z3 h2 f7 g7 g2 v4 v5)) ∧ yaF [b0,b2,a6] e1 e2 ∧ (((.string a0):Value) = (.string a0)) ∧ (((.map M0):Value) = (.map M0)) ∧
 ∃ w5 v6,∃ b8,(Instr.mapEntry 188 (.map M0) (.string a0)).run pP e2 = .ok (.tuple #[w5,.int .i64 v6]) b8 ∧ yaF [b0,b2,a6] e2 b8 ∧
 ydM pP (Instr.entryStore 188 (.map M0) (.int .i64 v6) (.agg (Z3 h2 f7 g7 g2 v4 v5))) b8 fun h9 => yaF [b0,b2,a6] b8 h9 ∧
 ∀ e3,Adv [b0] [] h9 e3 → e3.heap[b0]? = some (.cells #[(.int .i64 (IntKind.wrap .i64 (i0 + 1))),.bool B1,(.map M0)] 190) →
 R (.tuple #[(.int .i64 (IntKind.wrap .i64 (i0 + 1))),.int .i64 0]) e3))
 (
 brB (decide (i0 ≥ 1099511627776)) (
 ∀ e4,Adv [] [] a7 e4 → e4.heap[b0]? = some (.cells #[.int .i64 i0,.bool B0,(.map M0)] 190) →
 R (.tuple #[.int .i64 0,.int .i64 2]) e4)
 (
 ∀ e5,Adv [] [] a7 e5 →
 Calls pP 107 #[(.agg (Z3 a0 q0 a3 a2 i1 i2))] e5 fun e e6 => ∃ h3 f8 g8 g3 v7 v8,e = .returned (.agg (Z3 h3 f8 g8 g3 v7 v8)) ∧ yaF [b0,b2,a6] e5 e6 ∧ (((.string a0):Value) = (.string a0)) ∧ (((.map M0):Value) = (.map M0)) ∧
 ∃ w6 v9,∃ b9,(Instr.mapEntry 188 (.map M0) (.string a0)).run pP e6 = .ok (.tuple #[w6,.int .i64 v9]) b9 ∧ yaF [b0,b2,a6] e6 b9 ∧
 ydM pP (Instr.entryStore 188 (.map M0) (.int .i64 v9) (.agg (Z3 h3 f8 g8 g3 v7 v8))) b9 fun u0 => yaF [b0,b2,a6] b9 u0 ∧
 ∀ e7,Adv [b0] [] u0 e7 → e7.heap[b0]? = some (.cells #[(.int .i64 (IntKind.wrap .i64 (i0 + 1))),.bool B1,(.map M0)] 190) →
 R (.tuple #[(.int .i64 (IntKind.wrap .i64 (i0 + 1))),.int .i64 0]) e7)))
 (
 brB (decide (i0 ≥ 1099511627776)) (
 ∀ e8,Adv [] [] a7 e8 → e8.heap[b0]? = some (.cells #[.int .i64 i0,.bool B0,(.map M0)] 190) →
 R (.tuple #[.int .i64 0,.int .i64 2]) e8)
 (
 ∀ e9,Adv [] [] a7 e9 →
 Calls pP 107 #[(.agg (Z3 a0 q0 a3 a2 i1 i2))] e9 fun e f0 => ∃ h4 c0 c2 c1 f1 f2,e = .returned (.agg (Z3 h4 c0 c2 c1 f1 f2)) ∧ yaF [b0,b2,a6] e9 f0 ∧ (((.string a0):Value) = (.string a0)) ∧ (((.map M0):Value) = (.map M0)) ∧
 ∃ w0 f3,∃ b1,(Instr.mapEntry 188 (.map M0) (.string a0)).run pP f0 = .ok (.tuple #[w0,.int .i64 f3]) b1 ∧ yaF [b0,b2,a6] f0 b1 ∧
 ydM pP (Instr.entryStore 188 (.map M0) (.int .i64 f3) (.agg (Z3 h4 c0 c2 c1 f1 f2))) b1 fun c3 => yaF [b0,b2,a6] b1 c3 ∧
 ∀ b4,Adv [b0] [] c3 b4 → b4.heap[b0]? = some (.cells #[(.int .i64 (IntKind.wrap .i64 (i0 + 1))),.bool B1,(.map M0)] 190) →
 R (.tuple #[(.int .i64 (IntKind.wrap .i64 (i0 + 1))),.int .i64 0]) b4))))) :
 CR pP 51 #[(.pointer (some ⟨b0,0,none⟩)),(.agg (Z3 a0 q0 a3 a2 i1 i2)),.bool B1] w R :=
 yaJ Tryz.wide_mixed (an:=[]) Tryz.func51 rfl rfl (by kernel_rfl) rfl hb (Eq.mpr (by kernel_rfl) h)
theorem yLl {b0:Nat} {a0:BA} (hb:w.heap[b0]? = some (.cells #[.int .i64 i0,.bool B0,(.map M0)] 190)) (h :
 Calls pP 108 #[.int .i64 i2] w fun e w3 => ∃ t4,e = .returned (.bool t4) ∧ yaF [b0] w w3 ∧
 brB (!t4) (
 ∀ w5,Adv [] [] w3 w5 → w5.heap[b0]? = some (.cells #[.int .i64 i0,.bool B0,(.map M0)] 190) →
 R (.int .i64 1) w5)
 (
 ∀ a6,Adv [] [] w3 a6 → a6.heap[b0]? = some (.cells #[.int .i64 i0,.bool B0,(.map M0)] 190) →
 Calls pP 109 (Z13 (some ⟨b0,0,none⟩) a0 i1) a6 fun e a3 => ∃ a7,e = .returned (.int .i64 a7) ∧ ∃ b6 b4,∃ m17:Option Nat,a3.heap[b0]? = some (.cells #[.int .i64 b6,.bool b4,(.map m17)] 190) ∧
 brB (a7 != 0) (
 R (.int .i64 a7) a3)
 (
 ∃ b3 a9 b2 b1 b7 a8,(∀ w',Mod [] a3 w' → (Instr.lookup 188 (.map m17) (.string a0) false).run pP w' = .ok (.agg (Z3 b3 a9 b2 b1 b7 a8)) w') ∧
 ∀ a5,a3.heap.size ≤ a5 →
 ∀ a4,Adv [] [a5] a3 a4 → a4.heap[b0]? = some (.cells #[.int .i64 b6,.bool b4,(.map m17)] 190) →
 ydM pP (Instr.mapUpdate 188 (.map m17) (.string a0) (.agg (Z3 b3 a9 b2 b1 b7 (if i2 > a8 then i2 else a8)))) a4 fun b5 => yaF [b0,a5] a4 b5 ∧
 R (.int .i64 0) b5))) :
 CR pP 52 #[(.pointer (some ⟨b0,0,none⟩)),.string a0,.int .i64 i1,.int .i64 i2] w R :=
 yaJ Tryz.wide_mixed (an:=[]) Tryz.func52 rfl rfl (by kernel_rfl) rfl hb (Eq.mpr (by kernel_rfl) h)
theorem yLm {b0:Nat} (hb:w.heap[b0]? = some (.cells #[.int .i64 i0,.bool B0,(.map M0)] 190)) (h :
 ∀ w7,Adv [] [] w w7 → w7.heap[b0]? = some (.cells #[.int .i64 i0,.bool B0,(.map M0)] 190) →
 Calls pP 109 (Z13 (some ⟨b0,0,none⟩) s0 i1) w7 fun e w8 => ∃ x9,e = .returned (.int .i64 x9) ∧ ∃ a6 a4,∃ m12:Option Nat,w8.heap[b0]? = some (.cells #[.int .i64 a6,.bool a4,(.map m12)] 190) ∧
 brB (x9 != 0) (
 R (.int .i64 x9) w8)
 (
 yHr pP (Builtin.delete_ #[188,9] 0 #[(.map m12),.string s0]) w8 fun a8 a2 => yaF [b0] w8 a2 ∧
 Calls pP 89 #[(.pointer (some ⟨b0,0,none⟩))] a2 fun e a3 => e = .returned (.tuple #[]) ∧ ∃ a7 a5,∃ m24:Option Nat,a3.heap[b0]? = some (.cells #[.int .i64 a7,.bool a5,(.map m24)] 190) ∧
 R (.int .i64 0) a3)) :
 CR pP 53 (Z13 (some ⟨b0,0,none⟩) s0 i1) w R :=
 yaJ Tryz.wide_mixed (an:=[]) Tryz.func53 rfl rfl (by kernel_rfl) rfl hb (Eq.mpr (by kernel_rfl) h)
theorem yLn {b0:Nat} (hb:w.heap[b0]? = some (.cells #[.int .i64 i0,.bool B0,(.map M0)] 190)) (h :
 ∀ w1,Adv [b0] [] w w1 → w1.heap[b0]? = some (.cells #[(.int .i64 (if 1099511627776 < (IntKind.wrap .i64 (i0 + 1)) then 1099511627776 else (IntKind.wrap .i64 (i0 + 1)))),.bool B0,(.map M0)] 190) →
 R (.tuple #[]) w1) :
 CR pP 89 #[(.pointer (some ⟨b0,0,none⟩))] w R :=
 yaJ Tryz.wide_mixed (an:=[]) Tryz.func89 rfl rfl (by kernel_rfl) rfl hb (Eq.mpr (by kernel_rfl) h)
theorem yLo {b0:Nat} {a0:BA} (hb:w.heap[b0]? = some (.cells #[.int .i64 i0,.bool B0,(.map M0)] 190)) (h :
 ∃ s9 a7 a9 a8 b1 b2 a6,(∀ w',Mod [] w w' → (Instr.lookup 188 (.map M0) (.string a0) true).run pP w' = .ok (.tuple #[(.agg (Z3 s9 a7 a9 a8 b1 b2)),.bool a6]) w') ∧
 ∀ a2,w.heap.size ≤ a2 →
 brB (!a6) (
 ∀ a3,Adv [] [a2] w a3 → a3.heap[b0]? = some (.cells #[.int .i64 i0,.bool B0,(.map M0)] 190) →
 R (.int .i64 110) a3)
 (
 brB (i1 != i0) (
 ∀ a4,Adv [] [a2] w a4 → a4.heap[b0]? = some (.cells #[.int .i64 i0,.bool B0,(.map M0)] 190) →
 R (.int .i64 111) a4)
 (
 ∀ a5,Adv [] [a2] w a5 → a5.heap[b0]? = some (.cells #[.int .i64 i0,.bool B0,(.map M0)] 190) →
 R (.int .i64 0) a5))) :
 CR pP 109 (Z13 (some ⟨b0,0,none⟩) a0 i1) w R :=
 yaJ Tryz.wide_mixed (an:=[]) Tryz.func109 rfl rfl (by kernel_rfl) rfl hb (Eq.mpr (by kernel_rfl) h)
def ywF:LA:=⟨[0,0,1,0,1,1,1],[2,6,14,15,16],[(2,1,0)],4,[0,1,2,3]⟩
def yyS:List LA:=[ywF]
abbrev yLp:=dnF pP yyS (code Tryz.f40)
abbrev yND:=yaR pP yyS (code Tryz.f40)
abbrev yLq (p:List Nat) (K:List Kh) (R:VWP):=yaR pP yyS (code Tryz.f40) p K (ybE pP Tryz.f40 [0] R)
def yo3 (b1:OA) (b3 b2:Nat) (a6:OA) (a8 a7:Nat) (a9:Int) (bm0:Nat) (a4:Int) (a2:Bool) (a0:Option Nat) (bm1:Nat) (a1:OA) (bm2:Nat) (a5:Int) (bm3:Nat) (a3:Value):Int → List Value × List TB:=fun b0 => ([(.pointer (some ⟨bm1,0,none⟩)),.slice b1 b3 b2,.slice a6 a8 a7,.int .i64 a9,.int .i64 b0],[⟨bm0,190,[.int .i64 a4,.bool a2,(.map a0)],true⟩,⟨bm1,63,[.pointer a1],true⟩,⟨bm2,3,[.int .i64 a5],true⟩,⟨bm3,191,[a3],true⟩])
abbrev yGp (b0:OA) (b2 b1:Nat) (a6:OA) (a8 a7:Nat) (a9:Int) (bm0:Nat) (a4:Int) (a2:Bool) (a0:Option Nat) (bm1:Nat) (a1:OA) (bm2:Nat) (a5:Int) (bm3:Nat) (a3:Value) (I:Nat → Int → World → Prop) (m:Nat):Kh:=KG (yo3 b0 b2 b1 a6 a8 a7 a9 bm0 a4 a2 a0 bm1 a1 bm2 a5 bm3 a3) (U1 I) m
theorem yDj {I:Nat → Int → World → Prop} (m':Nat) (h1:m' < m) (h2:I m' i3 w):KS (yGp q0 n0 n1 q1 n2 n3 i0 n4 i1 B0 M0 n5 q2 n6 i2 n7 V0 I m) (yo3 q0 n0 n1 q1 n2 n3 i0 n4 i1 B0 M0 n5 q2 n6 i2 n7 V0 i3) w:=⟨m',h1,_,rfl,rfl,h2⟩
theorem yDk (I:Nat → Int → World → Prop) (m0:Nat) (h0:I m0 i3 w0)
 (hr:∀ m a6 w,I m a6 w →
 w.heap[n4]? = some (.cells #[.int .i64 i1,.bool B0,(.map M0)] 190) →
 w.heap[n5]? = some (.cells #[.pointer q2] 63) →
 w.heap[n6]? = some (.cells #[.int .i64 i2] 3) →
 w.heap[n7]? = some (.cells #[V0] 191) →
 brB (decide (a6 < i0)) (
 ixA q1 n2 a6 1 fun b8 =>
 ya7 w b8 fun c0 =>
 yb7 q2 fun b9 =>
 yd4 w (Addr.add b9 2) fun m58 =>
 yHr pP (Builtin.delete_ #[188,9] 0 #[(.map m58),.string c0]) w fun c5 b6 => yaF [n4,n5,n6,n7] w b6 ∧
 KS (yGp q0 n0 n1 q1 n2 n3 i0 n4 i1 B0 M0 n5 q2 n6 i2 n7 V0 I m) (yo3 q0 n0 n1 q1 n2 n3 i0 n4 i1 B0 M0 n5 q2 n6 i2 n7 V0 (IntKind.wrap .i64 (a6 + 1))) b6)
 (
 brB (decide ((n0:Int) > 0)) (
 Calls pP 89 #[.pointer q2] w fun e b4 => e = .returned (.tuple #[]) ∧ ∃ c3 c1,∃ m71:Option Nat,b4.heap[n4]? = some (.cells #[.int .i64 c3,.bool c1,(.map m71)] 190) ∧ ∃ b7,b4.heap[n5]? = some (.cells #[.pointer b7] 63) ∧ ∃ c4,b4.heap[n6]? = some (.cells #[.int .i64 c4] 3) ∧ ∃ c2,b4.heap[n7]? = some (.cells #[c2] 191) ∧
 R (.slice q0 n0 n1) b4)
 (
 R (.slice q0 n0 n1) w))) :
 yaO ywF (yLp 395 [0,0,1,0,1,1,1]) (yLq [1,1,1,0,1,0] [] R) (yo3 q0 n0 n1 q1 n2 n3 i0 n4 i1 B0 M0 n5 q2 n6 i2 n7 V0 i3) w0 :=
 lrule (yo3 q0 n0 n1 q1 n2 n3 i0 n4 i1 B0 M0 n5 q2 n6 i2 n7 V0) (U1 I) h0 (by rintro m a6 w h; exact ⟨by kernel_rfl,by kernel_rfl,fun js => Eq.mpr (by kernel_rfl) (hr m a6 w h)⟩)
theorem yLr {b0:Nat} (hb:w.heap[b0]? = some (.cells #[.int .i64 i0,.bool B0,(.map M0)] 190)) (h :
 ∀ b3,w.heap.size ≤ b3 →
 ∀ b4,w.heap.size ≤ b4 →
 ∀ b6,w.heap.size ≤ b6 →
 ∀ a0,Adv [] [b6,b4,b3] w a0 → a0.heap[b0]? = some (.cells #[.int .i64 i0,.bool B0,(.map M0)] 190) →
 a0.heap[b3]? = some (.cells #[(.pointer (some ⟨b0,0,none⟩))] 63) →
 a0.heap[b4]? = some (.cells #[.int .i64 i1] 3) →
 Calls pP 87 #[(.pointer (some ⟨b0,0,none⟩))] a0 fun e a3 => ∃ a8 b1 a9,e = .returned (.slice a8 b1 a9) ∧ yaV [b0,b3,b4] [(b6,191)] [b6] a0 a3 ∧ ∃ c0 b7,∃ m35:Option Nat,a3.heap[b0]? = some (.cells #[.int .i64 c0,.bool b7,(.map m35)] 190) ∧ ∃ b2,a3.heap[b3]? = some (.cells #[.pointer b2] 63) ∧ ∃ c1,a3.heap[b4]? = some (.cells #[.int .i64 c1] 3) ∧
 ∀ a1,Adv [] [] a3 a1 → a1.heap[b0]? = some (.cells #[.int .i64 c0,.bool b7,(.map m35)] 190) →
 a1.heap[b3]? = some (.cells #[.pointer b2] 63) →
 a1.heap[b4]? = some (.cells #[.int .i64 c1] 3) →
 a1.heap[b6]? = some (.cells #[(.func (.func 85) #[] #[(.pointer (some ⟨b4,0,none⟩)),(.pointer (some ⟨b3,0,none⟩))])] 191) →
 Calls pP 86 #[.slice a8 b1 a9,(.func (.func 88) #[] #[(.pointer (some ⟨b6,0,none⟩))])] a1 fun e a4 => ∃ a6 a5 a7,e = .returned (.slice a6 a5 a7) ∧ ∃ c2 b8,∃ m45:Option Nat,a4.heap[b0]? = some (.cells #[.int .i64 c2,.bool b8,(.map m45)] 190) ∧ ∃ b5,a4.heap[b3]? = some (.cells #[.pointer b5] 63) ∧ ∃ c3,a4.heap[b4]? = some (.cells #[.int .i64 c3] 3) ∧ ∃ b9,a4.heap[b6]? = some (.cells #[b9] 191) ∧
 yaO ywF (yLp 395 [0,0,1,0,1,1,1]) (yLq [1,1,1,0,1,0] [] R) (yo3 a6 a5 a7 a6 a5 a7 (a5:Int) b0 c2 b8 m45 b3 b5 b4 c3 b6 b9 0) a4) :
 CR pP 40 #[(.pointer (some ⟨b0,0,none⟩)),.int .i64 i1] w R :=
 yaJ Tryz.wide_mixed (an:=yyS) Tryz.func40 rfl rfl (by kernel_rfl) rfl hb (Eq.mpr (by kernel_rfl) h)
theorem yLs {a0:BA} (h :
 ya1 .i64 w A0 fun x1 =>
 ygI w A1 fun p2 =>
 yb7 p2 fun q3 =>
 yd4 w (Addr.add q3 2) fun m4 =>
 ∃ s5 a6 n7 c8 x9 a2,(∀ w',Mod [] w w' → (Instr.lookup 188 (.map m4) (.string a0) false).run pP w' = .ok (.agg (Z3 s5 a6 n7 c8 x9 a2)) w') ∧
 ygI w A1 fun a8 =>
 yb7 a8 fun a9 =>
 yd4 w (Addr.add a9 2) fun m13 =>
 ∃ b0 a4 a7 a5 a3 b1,(∀ w',Mod [] w w' → (Instr.lookup 188 (.map m13) (.string a0) false).run pP w' = .ok (.agg (Z3 b0 a4 a7 a5 a3 b1)) w') ∧
 ∀ a1,Adv [] [] w a1 →
 R (.bool (decide (x1 ≥ (IntKind.wrap .i64 (a2 + a3))))) a1) :
 CR pP 85 #[.string a0,(.pointer (some A0)),(.pointer (some A1))] w R :=
 yaB Tryz.wide_mixed (an:=[]) Tryz.func85 rfl rfl (by kernel_rfl) rfl (Eq.mpr (by kernel_rfl) h)
theorem yLt {b0:Nat} (hb:w.heap[b0]? = some (.cells #[.int .i64 i0,.bool B0,(.map M0)] 190)) (h :
 Calls pP 137 #[(.map M0)] w fun e w7 => ∃ v8,e = .returned v8 ∧ yaF [b0] w w7 ∧
 Calls pP 74 #[v8] w7 fun e w9 => ∃ a1 a3 a2,e = .returned (.slice a1 a3 a2) ∧ yaF [b0] w7 w9 ∧
 ∀ a0,Adv [] [] w9 a0 → a0.heap[b0]? = some (.cells #[.int .i64 i0,.bool B0,(.map M0)] 190) →
 R (.slice a1 a3 a2) a0) :
 CR pP 87 #[(.pointer (some ⟨b0,0,none⟩))] w R :=
 yaJ Tryz.wide_mixed (an:=[]) Tryz.func87 rfl rfl (by kernel_rfl) rfl hb (Eq.mpr (by kernel_rfl) h)
def ywG:LA:=⟨[0,0,1,0,1,1],[0,3,7,8,9],[(0,0,0)],1,[0]⟩
def yyT:List LA:=[ywG]
abbrev yLu:=dnF pP yyT (code Tryz.f77)
abbrev yNE:=yaR pP yyT (code Tryz.f77)
abbrev yLv (p:List Nat) (K:List Kh) (R:VWP):=yaR pP yyT (code Tryz.f77) p K (ybE pP Tryz.f77 [0] R)
def yo4 (a4:OA) (a8 a6:Nat) (a9:Int) (bm0:Nat):(Option Addr) × Nat × Nat × Int × Int × Bool × (Option Nat) → List Value × List TB:=fun (a3,a7,a5,b0,a2,a1,a0) => ([(.pointer (some ⟨bm0,0,none⟩)),.slice a3 a7 a5,.slice a4 a8 a6,.int .i64 a9,.int .i64 b0],[⟨bm0,190,[.int .i64 a2,.bool a1,(.map a0)],true⟩])
abbrev yGq (a0:OA) (a2 a1:Nat) (a3:Int) (bm0:Nat) (I:Nat → Option Addr → Nat → Nat → Int → Int → Bool → Option Nat → World → Prop) (m:Nat):Kh:=KG (yo4 a0 a2 a1 a3 bm0) (U7 I) m
theorem yDl {I:Nat → Option Addr → Nat → Nat → Int → Int → Bool → Option Nat → World → Prop} (m':Nat) (h1:m' < m) (h2:I m' q1 n3 n4 i1 i2 B0 M0 w):KS (yGq q0 n0 n1 i0 n2 I m) (yo4 q0 n0 n1 i0 n2 (q1,n3,n4,i1,i2,B0,M0)) w:=⟨m',h1,_,rfl,rfl,h2⟩
theorem yDm (I:Nat → Option Addr → Nat → Nat → Int → Int → Bool → Option Nat → World → Prop) (m0:Nat) (h0:I m0 q1 n3 n4 i1 i2 B0 M0 w0)
 (hr:∀ (m:Nat) (a7:OA) (b0 a9:Nat) (a5 a2:Int) (a1:Bool) (a0:Option Nat) (w:World),I m a7 b0 a9 a5 a2 a1 a0 w →
 w.heap[n2]? = some (.cells #[.int .i64 a2,.bool a1,(.map a0)] 190) →
 brB (decide (a5 < i0)) (
 ixA q0 n0 a5 1 fun d9 =>
 ya7 w d9 fun e0 =>
 ∃ c4 b8 c2 c0 d0 d1,(∀ w',Mod [] w w' → (Instr.lookup 188 (.map a0) (.string e0) false).run pP w' = .ok (.agg (Z3 c4 b8 c2 c0 d0 d1)) w') ∧
 Calls pP 107 #[(.agg (Z3 c4 b8 c2 c0 d0 d1))] w fun e c7 => ∃ c5 b9 c3 c1 d2 d3,e = .returned (.agg (Z3 c5 b9 c3 c1 d2 d3)) ∧ ∃ d4 c6,∃ m58:Option Nat,c7.heap[n2]? = some (.cells #[.int .i64 d4,.bool c6,(.map m58)] 190) ∧
 al c7 (.cells (Z3 c5 b9 c3 c1 d2 d3) 122) fun d6 c8 =>
 ybC pP (Builtin.append_ #[163,163] 163 #[.slice a7 b0 a9,(.slice (some ⟨d6,0,none⟩) 1 1)]) c8 fun d5 d8 d7 c9 => yaF [n2] c8 c9 ∧
 KS (yGq q0 n0 n1 i0 n2 I m) (yo4 q0 n0 n1 i0 n2 (d5,d8,d7,(IntKind.wrap .i64 (a5 + 1)),d4,c6,m58)) c9)
 (
 R (.slice a7 b0 a9) w)) :
 yaO ywG (yLu 396 [0,0,1,0,1,1]) (yLv [1,1,0,1,0] [] R) (yo4 q0 n0 n1 i0 n2 (q1,n3,n4,i1,i2,B0,M0)) w0 :=
 lrule (yo4 q0 n0 n1 i0 n2) (U7 I) h0 (by rintro m ⟨a7,b0,a9,a5,a2,a1,a0⟩ w h; exact ⟨by kernel_rfl,by kernel_rfl,fun js => Eq.mpr (by kernel_rfl) (hr m a7 b0 a9 a5 a2 a1 a0 w h)⟩)
theorem yLw {b0:Nat} (hb:w.heap[b0]? = some (.cells #[.int .i64 i0,.bool B0,(.map M0)] 190)) (h :
 ∀ w9,Adv [] [] w w9 → w9.heap[b0]? = some (.cells #[.int .i64 i0,.bool B0,(.map M0)] 190) →
 Calls pP 87 #[(.pointer (some ⟨b0,0,none⟩))] w9 fun e a4 => ∃ a1 a0 a2,e = .returned (.slice a1 a0 a2) ∧ ∃ a5 a3,∃ m16:Option Nat,a4.heap[b0]? = some (.cells #[.int .i64 a5,.bool a3,(.map m16)] 190) ∧
 yaO ywG (yLu 396 [0,0,1,0,1,1]) (yLv [1,1,0,1,0] [] R) (yo4 a1 a0 a2 (a0:Int) b0 (none,0,0,0,a5,a3,m16)) a4) :
 CR pP 77 #[(.pointer (some ⟨b0,0,none⟩))] w R :=
 yaJ Tryz.wide_mixed (an:=yyT) Tryz.func77 rfl rfl (by kernel_rfl) rfl hb (Eq.mpr (by kernel_rfl) h)
def ywH:LA:=⟨[0,0,1,0,1,1],[0,1,2,3,10,18,19,20],[(0,0,0)],1,[0]⟩
def yyU:List LA:=[ywH]
abbrev yLx:=dnF pP yyU (code Tryz.f54)
abbrev yNF:=yaR pP yyU (code Tryz.f54)
abbrev yLy (p:List Nat) (K:List Kh) (R:VWP):=yaR pP yyU (code Tryz.f54) p K (ybE pP Tryz.f54 [0] R)
def yo5 (b4:BA) (b5:Int) (b1:OA) (b3 b2:Nat) (a4:OA) (a8 a6:Nat) (a9:Int) (bm0:Nat) (a2:Int) (a1:Bool) (a0:Option Nat):(Option Addr) × Nat × Nat × Int → List Value × List TB:=fun (a3,a7,a5,b0) => ([(.pointer (some ⟨bm0,0,none⟩)),.string b4,.int .i64 b5,.slice b1 b3 b2,.slice a3 a7 a5,.slice a4 a8 a6,.int .i64 a9,.int .i64 b0],[⟨bm0,190,[.int .i64 a2,.bool a1,(.map a0)],true⟩])
abbrev yGr (b0:BA) (b1:Int) (a7:OA) (a9 a8:Nat) (a3:OA) (a5 a4:Nat) (a6:Int) (bm0:Nat) (a2:Int) (a1:Bool) (a0:Option Nat) (I:Nat → Option Addr → Nat → Nat → Int → World → Prop) (m:Nat):Kh:=KG (yo5 b0 b1 a7 a9 a8 a3 a5 a4 a6 bm0 a2 a1 a0) (U4 I) m
theorem yDn {I:Nat → Option Addr → Nat → Nat → Int → World → Prop} (m':Nat) (h1:m' < m) (h2:I m' q2 n5 n6 i3 w):KS (yGr s0 i0 q0 n0 n1 q1 n2 n3 i1 n4 i2 B0 M0 I m) (yo5 s0 i0 q0 n0 n1 q1 n2 n3 i1 n4 i2 B0 M0 (q2,n5,n6,i3)) w:=⟨m',h1,_,rfl,rfl,h2⟩
theorem yDo (I:Nat → Option Addr → Nat → Nat → Int → World → Prop) (m0:Nat) (h0:I m0 q2 n5 n6 i3 w0)
 (hr:∀ m a3 a5 a4 a6 w,I m a3 a5 a4 a6 w →
 w.heap[n4]? = some (.cells #[.int .i64 i2,.bool B0,(.map M0)] 190) →
 brB (decide (a6 < i1)) (
 ixA q1 n2 a6 4 fun c4 =>
 ya7 w c4 fun h5 => ya2 w (Addr.add c4 1) fun g6 h3 g9 => ya1 .i64 w (Addr.add c4 2) fun u4 => ya1 .i64 w (Addr.add c4 3) fun u5 =>
 ∀ c8,w.heap.size ≤ c8 →
 ∀ d3,Adv [] [c8] w d3 → d3.heap[n4]? = some (.cells #[.int .i64 i2,.bool B0,(.map M0)] 190) →
 al d3 (.cells #[.string h5,.slice g6 h3 g9] 120) fun g8 e5 =>
 ybC pP (Builtin.append_ #[217,217] 217 #[.slice a3 a5 a4,(.slice (some ⟨g8,0,none⟩) 1 1)]) e5 fun g7 h4 h1 e6 => yaF [n4,c8] e5 e6 ∧
 KS (yGr s0 i0 q0 n0 n1 q1 n2 n3 i1 n4 i2 B0 M0 I m) (yo5 s0 i0 q0 n0 n1 q1 n2 n3 i1 n4 i2 B0 M0 (g7,h4,h1,(IntKind.wrap .i64 (a6 + 1)))) e6)
 (
 brB B0 (
 Calls pP 111 #[.slice q0 n0 n1,.slice a3 a5 a4] w fun e d4 => ∃ e0 e3 h2 d8,e = .returned (.tuple #[.slice e0 e3 h2,.int .i64 d8]) ∧ ∃ u0 h6,∃ m62:Option Nat,d4.heap[n4]? = some (.cells #[.int .i64 u0,.bool h6,(.map m62)] 190) ∧
 brB (d8 != 0) (
 R (.tuple #[.slice none 0 0,.int .i64 d8]) d4)
 (
 Calls pP 109 (Z13 (some ⟨n4,0,none⟩) s0 i0) d4 fun e d5 => ∃ d9,e = .returned (.int .i64 d9) ∧ ∃ u1 h7,∃ m72:Option Nat,d5.heap[n4]? = some (.cells #[.int .i64 u1,.bool h7,(.map m72)] 190) ∧
 brB (d9 != 0) (
 R (.tuple #[.slice none 0 0,.int .i64 d9]) d5)
 (
 Calls pP 87 #[(.pointer (some ⟨n4,0,none⟩))] d5 fun e e7 => ∃ e1 e4 e2,e = .returned (.slice e1 e4 e2) ∧ ∃ u2 h8,∃ m95:Option Nat,e7.heap[n4]? = some (.cells #[.int .i64 u2,.bool h8,(.map m95)] 190) ∧
 Calls pP 112 #[.slice e1 e4 e2,.string s0] e7 fun e d6 => ∃ e8,e = .returned (.int .i64 e8) ∧ ∃ u3 h9,∃ m100:Option Nat,d6.heap[n4]? = some (.cells #[.int .i64 u3,.bool h9,(.map m100)] 190) ∧
 ixA e0 e3 e8 1 fun f6 =>
 ya2 d6 f6 fun e9 f4 f1 =>
 R (.tuple #[.slice e9 f4 f1,.int .i64 0]) d6)))
 (
 Calls pP 110 #[.slice q0 n0 n1,.slice a3 a5 a4] w fun e b6 => ∃ c6 d0 f2 b9,e = .returned (.tuple #[.slice c6 d0 f2,.int .i64 b9]) ∧ ∃ g2 f8,∃ m120:Option Nat,b6.heap[n4]? = some (.cells #[.int .i64 g2,.bool f8,(.map m120)] 190) ∧
 brB (b9 != 0) (
 R (.tuple #[.slice none 0 0,.int .i64 b9]) b6)
 (
 Calls pP 109 (Z13 (some ⟨n4,0,none⟩) s0 i0) b6 fun e b7 => ∃ c0,e = .returned (.int .i64 c0) ∧ ∃ g3 f9,∃ m130:Option Nat,b7.heap[n4]? = some (.cells #[.int .i64 g3,.bool f9,(.map m130)] 190) ∧
 brB (c0 != 0) (
 R (.tuple #[.slice none 0 0,.int .i64 c0]) b7)
 (
 Calls pP 87 #[(.pointer (some ⟨n4,0,none⟩))] b7 fun e d2 => ∃ c7 d1 c9,e = .returned (.slice c7 d1 c9) ∧ ∃ g4 g0,∃ m153:Option Nat,d2.heap[n4]? = some (.cells #[.int .i64 g4,.bool g0,(.map m153)] 190) ∧
 Calls pP 112 #[.slice c7 d1 c9,.string s0] d2 fun e b8 => ∃ d7,e = .returned (.int .i64 d7) ∧ ∃ g5 g1,∃ m158:Option Nat,b8.heap[n4]? = some (.cells #[.int .i64 g5,.bool g1,(.map m158)] 190) ∧
 ixA c6 d0 d7 1 fun f7 =>
 ya2 b8 f7 fun f0 f5 f3 =>
 R (.tuple #[.slice f0 f5 f3,.int .i64 0]) b8))))) :
 yaO ywH (yLx 396 [0,0,1,0,1,1]) (yLy [1,1,0,1,0] [] R) (yo5 s0 i0 q0 n0 n1 q1 n2 n3 i1 n4 i2 B0 M0 (q2,n5,n6,i3)) w0 :=
 lrule (yo5 s0 i0 q0 n0 n1 q1 n2 n3 i1 n4 i2 B0 M0) (U4 I) h0 (by rintro m ⟨a3,a5,a4,a6⟩ w h; exact ⟨by kernel_rfl,by kernel_rfl,fun js => Eq.mpr (by kernel_rfl) (hr m a3 a5 a4 a6 w h)⟩)
theorem yLz {b0:Nat} {a4 a3:Nat} (hb:w.heap[b0]? = some (.cells #[.int .i64 i0,.bool B0,(.map M0)] 190)) (h :
 ∀ w9,Adv [] [] w w9 → w9.heap[b0]? = some (.cells #[.int .i64 i0,.bool B0,(.map M0)] 190) →
 Calls pP 77 #[(.pointer (some ⟨b0,0,none⟩))] w9 fun e a9 => ∃ a6 a5 a7,e = .returned (.slice a6 a5 a7) ∧ ∃ b1 a8,∃ m16:Option Nat,a9.heap[b0]? = some (.cells #[.int .i64 b1,.bool a8,(.map m16)] 190) ∧
 yaO ywH (yLx 396 [0,0,1,0,1,1]) (yLy [1,1,0,1,0] [] R) (yo5 s0 i1 q0 a4 a3 a6 a5 a7 (a5:Int) b0 b1 a8 m16 (none,0,0,0)) a9) :
 CR pP 54 #[(.pointer (some ⟨b0,0,none⟩)),.string s0,.int .i64 i1,.slice q0 a4 a3] w R :=
 yaJ Tryz.wide_mixed (an:=yyU) Tryz.func54 rfl rfl (by kernel_rfl) rfl hb (Eq.mpr (by kernel_rfl) h)
end
end Go.Proofs.YteldhjiiocmicaaGreat
namespace Go.Proofs.YteldhjiiocmicaaGreat
open Go Go.RowKit Go.Maps Go.MapKept
open Go.ChangeMaps (setBlock)
set_option linter.unusedVariables false
set_option linter.unusedSimpArgs false
theorem yhP {w:World} {b:Nat} {o o':Obj}:setBlock (setBlock w b o) b o' = setBlock w b o':=by
 simp [setBlock,Array.setIfInBounds_setIfInBounds]
section
variable {κ β:Type} [DecidableEq κ] {P:Program} {t T e:TypeId} {ek:κ → Value} {ev:β → Value} {w:World} {b:Nat} {L:List (κ × β)} {k:κ} {l:Lit}
theorem yaS.entrySet (h:yaS P t ek ev w b L) (K:Keyed P t) (hi:∀ a b,ek a = ek b → a = b) (ht:P.underlying T = some (.map t e)) {z:Value} (hz:∀ w',(zeroValue e).run P w' = .ok z w') (v:β) (hk:keyOf P t (ek k) = some l) :
  ∃ (v0:Value) (st:Int) (w1:World),(Instr.mapEntry T (.map (some b)) (ek k)).run P w = .ok (.tuple #[v0,.int .i64 st]) w1 ∧ Mod [b] w w1 ∧
   ∃ w2,(Instr.entryStore T (.map (some b)) (.int .i64 st) (ev v)).run P w1 = .ok () w2 ∧ yaS P t ek ev w2 b (put L k v) ∧ Mod [b] w1 w2:=by
 obtain ⟨o,hrun,hput⟩:=h.update K hi ht v hk
 have hn:=h.nodup
 obtain ⟨es,clock,hb,he,hkk,hs⟩:=id h
 obtain ⟨s1,s2,s3⟩:=id hs
 rcases h.find K hi hb hk w with ⟨f1,f2⟩ | ⟨j,x,f1,hj,f2⟩
 ·have e1:(Instr.mapEntry T (.map (some b)) (ek k)).run P w = .ok (.tuple #[z,.int .i64 clock]) (setBlock w b (.map (es.push ⟨ek k,z,clock⟩) (clock + 1))):=by
   simp [Instr.mapEntry,run_underlying ht,MapKept.run_getObj_map hb,K.check w false hk,f2,hz,MapKept.run_setObj_map _ hb,Result.andThen,setBlock,goInt]
  refine ⟨_,_,_,e1,yeK,?_⟩
  have hidx:(es.push ⟨ek k,z,clock⟩).findIdx? (fun e => ((e.born:Nat):Int) == ((clock:Nat):Int)) = some es.size:=by
   rw [Go.WideElems.findIdx_arr]
   exact Go.WideElems.findIdx_born (l:=(es.push ⟨ek k,z,clock⟩).toList) (j:=es.size) (e0:=⟨ek k,z,clock⟩) (by
    simp only [Array.toList_push,List.map_append,List.map_cons,List.map_nil]
    refine List.nodup_append.2 ⟨s2,by simp,fun a ha c hc e1 => ?_⟩
    simp only [List.mem_singleton] at hc
    obtain ⟨x,hx,rfl⟩:=List.mem_map.1 ha
    have:=s1 x hx
    omega) (by simp)
  have hmod:(es.push ⟨ek k,z,clock⟩).modify es.size (fun e => { e with val:=ev v }) = es.push ⟨ek k,ev v,clock⟩:=by
   apply Array.ext'
   rw [Array.toList_modify,Array.toList_push,Array.toList_push,← Array.length_toList,Go.WideElems.modify_last]
  have hb1:=yb0 (o':=.map (es.push ⟨ek k,z,clock⟩) (clock + 1)) hb
  have e2:∀ w2:World,w2.heap[b]? = some (.map (es.push ⟨ek k,z,clock⟩) (clock + 1)) → (Instr.entryStore T (.map (some b)) (.int .i64 clock) (ev v)).run P w2 = .ok () (setBlock w2 b (.map (es.push ⟨ek k,ev v,clock⟩) (clock + 1))):=fun w2 hb1 => by
   simp [Instr.entryStore,MapKept.run_getObj_map hb1,asInt,asIntOf,hidx,hmod,MapKept.run_setObj_map _ hb1,Result.andThen,setBlock]
  refine ⟨_,e2 _ hb1,?_,yeK⟩
  rw [yhP]
  have e3:(Instr.mapUpdate T (.map (some b)) (ek k) (ev v)).run P w = .ok () (setBlock w b (.map (es.push ⟨ek k,ev v,clock⟩) (clock + 1))):=by
   simp [Instr.mapUpdate,run_underlying ht,MapKept.run_getObj_map hb,K.check w false hk,f2,MapKept.run_setObj_map _ hb,Result.andThen,setBlock]
  rw [e3] at hrun
  injection hrun with _ h2
  rw [h2]
  exact hput
 ·have g:(es.toList.map (fun e => (e.key,e.val)))[j]? = some (ek k,ev x):=by rw [he,List.getElem?_map,hj]; rfl
  rw [List.getElem?_map,Option.map_eq_some_iff] at g
  obtain ⟨e0,he0,e2⟩:=g
  simp only [Prod.mk.injEq] at e2
  have he1:es[j]? = some e0:=by rw [← Array.getElem?_toList]; exact he0
  have hsame:es.modify j (fun e => { e with key:=ek k }) = es:=by
   apply Array.ext'
   rw [Array.toList_modify,Go.ChangeMaps.modify_eq_set _ _ _ _ he0]
   have:({ e0 with key:=ek k }:MapEntry) = e0:=by rw [← e2.1]
   rw [this]
   exact Go.WideElems.set_self _ _ _ he0
  have e1:(Instr.mapEntry T (.map (some b)) (ek k)).run P w = .ok (.tuple #[ev x,.int .i64 e0.born]) (setBlock w b (.map es clock)):=by
   simp [Instr.mapEntry,run_underlying ht,MapKept.run_getObj_map hb,K.check w false hk,f2,he1,e2.1,K.stays w hk,hsame,MapKept.run_setObj_map _ hb,Result.andThen,setBlock,goInt]
  refine ⟨_,_,_,e1,yeK,?_⟩
  have hb1:=yb0 (o':=.map es clock) hb
  have hidx:es.findIdx? (fun e => ((e.born:Nat):Int) == ((e0.born:Nat):Int)) = some j:=by
   rw [Go.WideElems.findIdx_arr]
   exact Go.WideElems.findIdx_born s2 he0
  have hmod:es.modify j (fun e => { e with val:=ev v }) = es.modify j (fun e' => { e' with key:=ek k,val:=ev v }):=by
   apply Array.ext'
   rw [Array.toList_modify,Array.toList_modify,Go.ChangeMaps.modify_eq_set _ _ _ _ he0,Go.ChangeMaps.modify_eq_set _ _ _ _ he0,← e2.1]
  have e4:∀ w2:World,w2.heap[b]? = some (.map es clock) → (Instr.entryStore T (.map (some b)) (.int .i64 e0.born) (ev v)).run P w2 = .ok () (setBlock w2 b (.map (es.modify j (fun e' => { e' with key:=ek k,val:=ev v })) clock)):=fun w2 hb1 => by
   simp [Instr.entryStore,MapKept.run_getObj_map hb1,asInt,asIntOf,hidx,hmod,MapKept.run_setObj_map _ hb1,Result.andThen,setBlock]
  refine ⟨_,e4 _ hb1,?_,yeK⟩
  rw [yhP]
  have e3:(Instr.mapUpdate T (.map (some b)) (ek k) (ev v)).run P w = .ok () (setBlock w b (.map (es.modify j (fun e' => { e' with key:=ek k,val:=ev v })) clock)):=by
   simp [Instr.mapUpdate,run_underlying ht,MapKept.run_getObj_map hb,K.check w false hk,f2,he1,e2.1,K.stays w hk,MapKept.run_setObj_map _ hb,Result.andThen,setBlock]
  rw [e3] at hrun
  injection hrun with _ h2
  rw [h2]
  exact hput
end
structure PSeat where
 name:ByteArray
 topics:List ByteArray
 tmo:Int
 seen:Int
 deriving DecidableEq
structure SeatV where
 x:PSeat
 ts:Sl
def PSeat.v (x:PSeat) (ts:Sl):Value:=.agg #[.string x.name,.slice ts.a ts.n ts.c,.int .i64 x.tmo,.int .i64 x.seen]
def SeatV.v (q:SeatV):Value:=.agg #[.string q.x.name,.slice q.ts.a q.ts.n q.ts.c,.int .i64 q.x.tmo,.int .i64 q.x.seen]
abbrev SL:=List (ByteArray × SeatV)
abbrev GL:=List (ByteArray × PSeat)
def yaT (L:SL):GL:=L.map fun q => (q.1,q.2.x)
def yfH:PSeat:=⟨⟨#[]⟩,[],0,0⟩
theorem yhA (w:World):(zeroValue 122).run pP w = .ok (SeatV.v ⟨yfH,ya8⟩) w:=by kernel_rfl
def ycP (w:World) (b:Nat) (gen:Int) (robin:Bool) (G:GL) (F:List Nat):Prop :=
 ∃ (m:Nat) (L:SL),w.heap[b]? = some (.cells #[.int .i64 gen,.bool robin,.map (some m)] 190) ∧ yaS pP 9 hks SeatV.v w m L ∧ (∀ q ∈ L,Row w 0 9 1 yc8 q.2.ts.a q.2.ts.n q.2.ts.c q.2.x.topics) ∧ G = yaT L ∧ F = b :: m :: L.flatMap fun q => yaN q.2.ts.a
theorem ycP.lt {w:World} {b:Nat} {gen:Int} {robin:Bool} {G:GL} {F:List Nat} (h:ycP w b gen robin G F):∀ k ∈ F,k < w.heap.size:=by
 obtain ⟨m,L,hc,hm,hT,rfl,rfl⟩:=h
 intro k hk
 simp only [List.mem_cons,List.mem_flatMap] at hk
 rcases hk with rfl | rfl | ⟨q,hq,hk⟩
 ·exact yaH hc
 ·exact hm.lt
 ·exact (yaG (hT q hq) k hk).2
theorem ycP.keep {w w':World} {b:Nat} {gen:Int} {robin:Bool} {G:GL} {F S:List Nat} (h:ycP w b gen robin G F) (M:Mod S w w') (hS:∀ k ∈ S,k ∉ F):ycP w' b gen robin G F:=by
 obtain ⟨m,L,hc,hm,hT,rfl,rfl⟩:=h
 refine ⟨m,L,M.keep hc (fun hb => hS b hb (by simp)),hm.keepM M (fun hb => hS m hb (by simp)),fun q hq => yaA (hT q hq) M fun k hk hk' => hS k hk ?_,rfl,rfl⟩
 simp only [List.mem_cons,List.mem_flatMap]
 exact .inr (.inr ⟨q,hq,hk'⟩)
theorem ycP.keep0 {w w':World} {b:Nat} {gen:Int} {robin:Bool} {G:GL} {F:List Nat} (h:ycP w b gen robin G F) (M:Mod [] w w'):ycP w' b gen robin G F:=h.keep M (by simp)
theorem ytZ (w:World):Calls pP 50 #[] w fun e w' => ∃ v,e = .returned v ∧ ∃ b F,v = .pointer (some ⟨b,0,none⟩) ∧ ycP w' b 0 false [] F ∧ (∀ k ∈ F,w.heap.size ≤ k) ∧ Mod [] w w':=by
 refine yLe ?_
 refine yd6 fun b4 w5 c5 M5 f5 => ?_
 have s5:=M5.size
 intro b6 f6 w7 A7 h7
 exact ⟨b6,_,rfl,⟨b4,[],h7,yaS.of_new (A7.mod.keep0 c5),by simp,rfl,rfl⟩,by simp; omega,M5.go0 A7.mod (by simp)⟩
theorem yqI (n:Int) (w:World):Calls pP 108 #[.int .i64 n] w fun e w' => e = .returned (.bool (num n)) ∧ w' = w :=
 ya0 (yLf (yaC (fun h => ⟨by simp [num]; omega,rfl⟩) (fun h => ⟨by simp [num]; omega,rfl⟩)))
theorem yd9 (s t:ByteArray):((Op.bytesLess t.toList s.toList) || (t.toList == s.toList)) = !yb8 s t:=by
 unfold yb8
 rw [bytesLess_eq,bytesLess_eq]
 rw [Bool.eq_iff_iff]
 simp only [Bool.or_eq_true,decide_eq_true_eq,beq_iff_eq,Bool.not_eq_true',decide_eq_false_iff_not]
 constructor
 ·rintro (h | h)
  ·exact List.lt_asymm h
  ·rw [h]; exact List.lt_irrefl _
 ·intro h
  have:=List.not_lt.1 h
  rcases List.le_iff_lt_or_eq.1 this with h1 | h1
  ·exact .inl h1
  ·exact .inr h1
theorem yhB:∀ {l:List ByteArray} {k:Nat},ybB l = true → ybB (l.take k) = true
 | [],k,_ => by simp [ybB]
 | [a],0,_ => by simp [ybB]
 | [a],k + 1,_ => by simp [ybB]
 | a :: b :: r,0,_ => by simp [ybB]
 | a :: b :: r,1,_ => by simp [ybB]
 | a :: b :: r,k + 2,h => by
  simp only [ybB,Bool.and_eq_true] at h
  have:=yhB (k:=k + 1) h.2
  simp only [List.take_succ_cons] at this ⊢
  simp only [ybB,h.1,Bool.true_and]
  exact this
def ycE (s:PSeat):Bool:=(s.topics.all ybQ && ybB s.topics) && (ybQ s.name && (decide (1 ≤ s.topics.length ∧ s.topics.length ≤ 8) && (decide (0 < s.tmo) && (num s.tmo && num s.seen))))
theorem yDp {w:World} (x:PSeat) {ts:Sl} (h:ybF w 1 yc8 ts.a ts.n x.topics) (hl:x.topics.length ≤ 1000000) :
  Calls pP 106 #[x.v ts] w fun e w' => e = .returned (.bool (ycE x)) ∧ Mod [] w w':=by
 have hn:=h.1
 refine ya0 (yLi ?_)
 intro b2 f2 w27 A27
 refine yDi (fun mm i w' => ∃ k:Nat,i = k ∧ k ≤ x.topics.length ∧ (x.topics.take k).all ybQ = true ∧ ybB (x.topics.take k) = true ∧ Mod [] w w' ∧ mm = x.topics.length - k) x.topics.length ⟨0,rfl,by omega,by simp,by simp [ybB],A27.mod,rfl⟩ ?_
 rintro mm i w1 ⟨k,rfl,hk,hall,hris,M1,rfl⟩
 refine yaC (fun hlt => ?_) fun hge => ?_
 ·obtain ⟨s,hs⟩:∃ s,x.topics[k]? = some s:=⟨_,List.getElem?_eq_getElem (by omega)⟩
  refine (h.keep0 M1).ix hs fun q hq => yaL (by simpa [add_zero] using hq 0 _ rfl) ?_
  refine (ygN s w1).mono ?_
  rintro _ w11 ⟨rfl,M11⟩
  have N11:=M1.go0 M11 (by simp)
  have e:x.topics.take (k + 1) = x.topics.take k ++ [s]:=ybO hs
  refine ⟨_,rfl,yaF.of0 M11,yaE (fun g => ?_) fun g => ?_⟩
  ·have g:ybQ s = false:=by simpa using g
   refine ⟨congrArg Value.bool ?_,N11⟩
   have:x.topics.all ybQ = false:=by
    rw [List.all_eq_false]
    exact ⟨s,List.mem_of_getElem? hs,by simp [g]⟩
   simp [ycE,this]
  have g:ybQ s = true:=by simpa using g
  have hall':(x.topics.take (k + 1)).all ybQ = true:=by rw [e,List.all_append,hall]; simp [g]
  have ek:IntKind.wrap .i64 ((k:Int) + 1) = ((k + 1:Nat):Int):=by rw [yaI (by omega) (by omega)]; omega
  rw [ek]
  refine yaC (fun g1 => ?_) fun g1 => ?_
  ·have ek2:IntKind.wrap .i64 ((k:Int) - 1) = ((k - 1:Nat):Int):=by rw [yaI (by omega) (by omega)]; omega
   rw [ek2]
   obtain ⟨p,hp⟩:∃ p,x.topics[k - 1]? = some p:=⟨_,List.getElem?_eq_getElem (by omega)⟩
   refine (h.keep0 N11).ix hp fun q hq => yaL (by simpa [add_zero] using hq 0 _ rfl) ?_
   have hrt:=ye1 (k:=k - 1) hp (by rw [show k - 1 + 1 = k by omega]; exact hs)
   rw [show k - 1 + 2 = k + 1 by omega,show k - 1 + 1 = k by omega,hris,Bool.true_and] at hrt
   rw [yd9]
   refine yaE (fun g2 => ?_) fun g2 => ?_
   ·have g2:yb8 p s = false:=by simpa using g2
    refine ⟨congrArg Value.bool ?_,N11⟩
    have:ybB x.topics = false:=by
     rw [g2] at hrt
     cases hr:ybB x.topics with
     | false => rfl
     | true => rw [yhB hr] at hrt; cases hrt
    simp [ycE,this]
   ·have g2:yb8 p s = true:=by simpa using g2
    exact ytY (x.topics.length - (k + 1)) (by omega) ⟨k + 1,rfl,by omega,hall',by rw [hrt,g2],N11,rfl⟩
  ·have hk0:k = 0:=by omega
   subst hk0
   exact ytY (x.topics.length - 1) (by omega) ⟨1,rfl,by omega,hall',by rw [e]; simp [ybB],N11,rfl⟩
 ·have hk:k = x.topics.length:=by omega
  subst hk
  rw [List.take_length] at hall hris
  refine (ygN x.name w1).mono ?_
  rintro _ w21 ⟨rfl,M21⟩
  have N21:=M1.go0 M21 (by simp)
  refine ⟨_,rfl,yaF.of0 M21,yaE (fun g => ?_) fun g => ⟨congrArg Value.bool (by simp [ycE,hall,hris,g]),N21⟩⟩
  refine yaC (fun g1 => ?_) fun g1 => ⟨congrArg Value.bool (by have:¬ 1 ≤ x.topics.length:=(by omega); simp [ycE,hall,hris,g,this]),N21⟩
  refine yaC (fun g2 => ?_) fun g2 => ⟨congrArg Value.bool (by have:¬ x.topics.length ≤ 8:=(by omega); simp [ycE,hall,hris,g,this]),N21⟩
  have g12:1 ≤ x.topics.length ∧ x.topics.length ≤ 8:=by omega
  refine yaC (fun g3 => ?_) fun g3 => ⟨congrArg Value.bool (by have:¬ 0 < x.tmo:=g3; simp [ycE,hall,hris,g,g12,this]),N21⟩
  have g3:0 < x.tmo:=g3
  refine (yqI x.tmo w21).mono ?_
  rintro _ w23 ⟨rfl,rfl⟩
  refine ⟨_,rfl,yaF.of0 (Mod.refl _),yaE (fun g4 => ?_) fun g4 => ⟨congrArg Value.bool (by simp [ycE,hall,hris,g,g12,g3,g4]),N21⟩⟩
  refine (yqI x.seen w23).mono ?_
  rintro _ w25 ⟨rfl,rfl⟩
  exact ⟨_,rfl,yaF.of0 (Mod.refl _),congrArg Value.bool (by simp [ycE,hall,hris,g,g12,g3,g4]),N21⟩
end Go.Proofs.YteldhjiiocmicaaGreat
namespace Go.Proofs.YteldhjiiocmicaaGreat
open Go Go.RowKit Go.Maps Go.MapKept
open Go.ChangeMaps (setBlock)
set_option linter.unusedVariables false
set_option linter.unusedSimpArgs false
theorem ywI {w:World} (x:PSeat) {ts:Sl} (h:ybF w 1 yc8 ts.a ts.n x.topics) (hl:x.topics.length ≤ 1000000) :
  Calls pP 107 #[x.v ts] w fun e w' => ∃ v,e = .returned v ∧ ∃ t':Sl,v = x.v t' ∧ Row w' w.heap.size 9 1 yc8 t'.a t'.n t'.c x.topics ∧ Mod [] w w':=by
 refine yLj ?_
 intro b3 f3 b4 f4 w10 A10
 have s10:=A10.mod.size
 refine (yCr (s:=ts) (l:=x.topics) (h.keep0 A10.mod) hl).mono ?_
 rintro _ w11 ⟨_,rfl,t',rfl,hR,M11⟩
 refine ⟨_,_,_,rfl,yaF.of0 M11,?_⟩
 intro w15 A15
 have l3:=A10.lt b3 (by simp)
 have l4:=A10.lt b4 (by simp)
 have N11:=A10.mod.go0 M11 (by simp)
 refine ⟨t',rfl,?_,N11.go0 A15.mod (by simp; omega)⟩
 exact (yaA hR A15.mod (fun z hz hz' => by have:=hR.newS z hz'; simp at hz; omega)).rebase s10
def ybM (gen:Int) (G:GL) (name:ByteArray) (g:Int):Int:=if (lkp G name).isSome = false then 110 else if g ≠ gen then 111 else 0
theorem yeA (L:SL) (k:ByteArray):lkp (yaT L) k = (lkp L k).map (·.x):=yfC (fun q:SeatV => q.x) L k
theorem yi3 {w:World} {b:Nat} {gen:Int} {robin:Bool} {G:GL} {F:List Nat} (h:ycP w b gen robin G F) {name:ByteArray} (hs:name.size ≤ maxLen) (g:Int) :
  Calls pP 109 #[.pointer (some ⟨b,0,none⟩),.string name,.int .i64 g] w fun e w' => e = .returned (.int .i64 (ybM gen G name g)) ∧ Mod [] w w':=by
 obtain ⟨m,L,hc,hm,hT,rfl,rfl⟩:=h
 refine ya0 (yLo hc ?_)
 refine ⟨_,_,_,_,_,_,_,hm.lkT (k:=name) ydT ybH Tryz.underlying188 yhA (ybK hs),?_⟩
 have hh:(lkp (yaT L) name).isSome = (lkp L name).isSome:=by rw [yeA]; cases lkp L name <;> rfl
 intro b16 f16
 refine yaE (fun g1 => ?_) fun g1 => ?_
 ·have g1:(lkp L name).isSome = false:=by simpa using g1
  intro w17 A17 _
  exact ⟨by rw [ybM,hh,if_pos g1],A17.mod⟩
 have g1:(lkp L name).isSome = true:=by simpa using g1
 have g1:¬ (lkp L name).isSome = false:=by rw [g1]; decide
 refine yaE (fun g2 => ?_) fun g2 => ?_
 ·have g2:g ≠ gen:=by simpa using g2
  intro w18 A18 _
  exact ⟨by rw [ybM,hh,if_neg g1,if_pos g2],A18.mod⟩
 have g2:¬ g ≠ gen:=by simpa using g2
 intro w19 A19 _
 exact ⟨by rw [ybM,hh,if_neg g1,if_neg g2],A19.mod⟩
def yn1 (gen:Int):Int:=if 1099511627776 < IntKind.wrap .i64 (gen + 1) then 1099511627776 else IntKind.wrap .i64 (gen + 1)
theorem yyV {w:World} {b:Nat} {gen:Int} {robin:Bool} {m:Option Nat} (hc:w.heap[b]? = some (.cells #[.int .i64 gen,.bool robin,.map m] 190)) :
  Calls pP 89 #[.pointer (some ⟨b,0,none⟩)] w fun e w' => e = .returned (.tuple #[]) ∧ w'.heap[b]? = some (.cells #[.int .i64 (yn1 gen),.bool robin,.map m] 190) ∧ Mod [b] w w':=by
 refine ya0 (yLn hc ?_)
 intro w1 A1 h1
 exact ⟨rfl,h1,A1.mod⟩
def yn2 (gen:Int) (G:GL) (name:ByteArray) (g now:Int):Int:=if num now = false then 1 else ybM gen G name g
def yAs (G:GL) (name:ByteArray) (now:Int):GL:=put G name { (lkp G name).getD yfH with seen:=if now > ((lkp G name).getD yfH).seen then now else ((lkp G name).getD yfH).seen }
set_option maxHeartbeats 1000000 in
theorem yFp {w:World} {b:Nat} {gen:Int} {robin:Bool} {G:GL} {F:List Nat} (h:ycP w b gen robin G F) {name:ByteArray} (hs:name.size ≤ maxLen) (g now:Int) :
  Calls pP 52 #[.pointer (some ⟨b,0,none⟩),.string name,.int .i64 g,.int .i64 now] w fun e w' => e = .returned (.int .i64 (yn2 gen G name g now)) ∧
   ∃ F',ycP w' b gen robin (if yn2 gen G name g now = 0 then yAs G name now else G) F' ∧ Mod F w w' ∧ ybG w F F':=by
 have hA:=h
 obtain ⟨m,L,hc,hm,hT,rfl,rfl⟩:=h
 have hmb:m ≠ b:=by rintro rfl; exact hm.notCells hc
 have lb:=yaH hc
 have lm:=hm.lt
 refine ya0 (yLl hc ?_)
 refine (yqI now w).mono ?_
 rintro _ w3 ⟨rfl,hw3⟩
 rw [hw3]
 refine ⟨_,rfl,yaF.of0 (Mod.refl _),yaE (fun g1 => ?_) fun g1 => ?_⟩
 ·have g1:num now = false:=by simpa using g1
  intro w5 A5 _
  have e:yn2 gen (yaT L) name g now = 1:=by rw [yn2,if_pos g1]
  rw [e,if_neg (by decide)]
  exact ⟨rfl,_,hA.keep0 A5.mod,A5.mod.less (by simp),ybG.refl _ _⟩
 have g1:¬ num now = false:=by simpa using g1
 have e0:yn2 gen (yaT L) name g now = ybM gen (yaT L) name g:=by rw [yn2,if_neg g1]
 rw [e0]
 intro w12 A12 h12
 refine (yi3 (hA.keep0 A12.mod) hs g).mono ?_
 rintro _ w13 ⟨rfl,M13⟩
 have N13:=A12.mod.go0 M13 (by simp)
 refine ⟨_,rfl,_,_,_,M13.keep0 h12,yaE (fun g2 => ?_) fun g2 => ?_⟩
 ·have g2:ybM gen (yaT L) name g ≠ 0:=by simpa using g2
  rw [if_neg g2]
  exact ⟨rfl,_,hA.keep0 N13,N13.less (by simp),ybG.refl _ _⟩
 have g2:ybM gen (yaT L) name g = 0:=by simpa using g2
 rw [g2,if_pos rfl]
 refine ⟨_,_,_,_,_,_,(hm.keepM0 N13).lkF (k:=name) ydT ybH Tryz.underlying188 yhA (ybK hs),?_⟩
 intro b31 f31 w32 A32 h32
 have N32:=N13.go0 A32.mod (by simp)
 have l31:=A32.lt b31 (by simp)
 have s13:=N13.size
 generalize hv:((lkp L name).getD ⟨yfH,ya8⟩:SeatV) = v
 have hvx:(lkp (yaT L) name).getD yfH = v.x:=by rw [yeA,← hv]; cases lkp L name <;> rfl
 have hvL:(name,v) ∈ L:=by
  have:(lkp (yaT L) name).isSome = true:=by
   cases hh:(lkp (yaT L) name).isSome with
   | true => rfl
   | false => rw [ybM,if_pos hh] at g2; cases g2
  rw [yeA] at this
  cases hl:lkp L name with
  | none => rw [hl] at this; cases this
  | some y =>
   rw [hl] at hv
   have hv:y = v:=hv
   subst hv
   exact yaQ hl
 have hput:put (yaT L) name { v.x with seen:=if now > v.x.seen then now else v.x.seen } = yaT (put L name ⟨{ v.x with seen:=if now > v.x.seen then now else v.x.seen },v.ts⟩):=yf4 (fun q:SeatV => q.x) L name ⟨{ v.x with seen:=if now > v.x.seen then now else v.x.seen },v.ts⟩
 have hold:∀ q ∈ put L name (⟨{ v.x with seen:=if now > v.x.seen then now else v.x.seen },v.ts⟩:SeatV),q = (name,⟨{ v.x with seen:=if now > v.x.seen then now else v.x.seen },v.ts⟩) ∨ q ∈ L:=fun q hq => yd2 hq
 refine (hm.keepM0 N32).setU (k:=name) ydT ybH Tryz.underlying188 (v:=(⟨{ v.x with seen:=if now > v.x.seen then now else v.x.seen },v.ts⟩:SeatV)) (ybK hs) (by simp; omega) fun w33 hm33 M33 => ?_
 have N33:Mod [m] w w33:=(N32.trans M33).less (by simp)
 rw [yAs,hvx,hput]
 generalize put L name (⟨{ v.x with seen:=if now > v.x.seen then now else v.x.seen },v.ts⟩:SeatV) = L' at hm33 hold
 refine ⟨rfl,_,⟨m,L',N33.keep hc (by simp; exact fun e => hmb e.symm),hm33,fun q hq => ?_,rfl,rfl⟩,N33.less (by simp),fun z hz => .inl ?_⟩
 ·rcases hold q hq with rfl | hqL
  ·exact yaA (hT (name,v) hvL) N33 fun z hz hz' => by
    obtain ⟨_,_,cur,hcur⟩:=yaP (hT (name,v) hvL) z hz'
    simp at hz; subst hz; exact hm.notCells hcur
  ·exact yaA (hT q hqL) N33 fun z hz hz' => by
    obtain ⟨_,_,cur,hcur⟩:=yaP (hT q hqL) z hz'
    simp at hz; subst hz; exact hm.notCells hcur
 ·simp only [List.mem_cons,List.mem_flatMap] at hz ⊢
  rcases hz with h1 | h1 | ⟨q,hq,h1⟩
  ·exact .inl h1
  ·exact .inr (.inl h1)
  ·rcases hold q hq with rfl | hqL
   ·exact .inr (.inr ⟨(name,v),hvL,h1⟩)
   ·exact .inr (.inr ⟨q,hqL,h1⟩)
set_option maxHeartbeats 1000000 in
theorem yDq {w:World} {b:Nat} {gen:Int} {robin:Bool} {G:GL} {F:List Nat} (h:ycP w b gen robin G F) {name:ByteArray} (hs:name.size ≤ maxLen) (g:Int) :
  Calls pP 53 #[.pointer (some ⟨b,0,none⟩),.string name,.int .i64 g] w fun e w' => e = .returned (.int .i64 (ybM gen G name g)) ∧
   ∃ F',ycP w' b (if ybM gen G name g = 0 then yn1 gen else gen) robin (if ybM gen G name g = 0 then del G name else G) F' ∧ Mod F w w' ∧ ybG w F F':=by
 have hA:=h
 obtain ⟨m,L,hc,hm,hT,rfl,rfl⟩:=h
 have hmb:m ≠ b:=by rintro rfl; exact hm.notCells hc
 refine ya0 (yLm hc ?_)
 intro w7 A7 h7
 refine (yi3 (hA.keep0 A7.mod) hs g).mono ?_
 rintro _ w8 ⟨rfl,M8⟩
 have N8:=A7.mod.go0 M8 (by simp)
 refine ⟨_,rfl,_,_,_,M8.keep0 h7,yaE (fun g2 => ?_) fun g2 => ?_⟩
 ·have g2:ybM gen (yaT L) name g ≠ 0:=by simpa using g2
  rw [if_neg g2,if_neg g2]
  exact ⟨rfl,_,hA.keep0 N8,N8.less (by simp),ybG.refl _ _⟩
 have g2:ybM gen (yaT L) name g = 0:=by simpa using g2
 rw [g2,if_pos rfl,if_pos rfl]
 obtain ⟨o,ho1,ho2⟩:=(hm.keepM0 N8).delete ydT ybH Tryz.underlying188 (ybK hs) 0
 refine ⟨_,_,ho1,yaF.of yeK (by simp; exact fun _ e => hmb e.symm),?_⟩
 have h15:=yeK (o:=o) (b:=m) (w:=w8) |>.keep (M8.keep0 h7) (by simp; exact fun e => hmb e.symm)
 refine (yyV h15).mono ?_
 rintro _ w21 ⟨rfl,h21,M21⟩
 refine ⟨rfl,_,_,_,h21,?_⟩
 have N21:Mod [m,b] w w21:=((N8.trans yeK).trans M21).less (by simp)
 have hdel:del (yaT L) name = yaT (del L name):=yFf (fun q:SeatV => q.x) L name
 have hold:∀ q ∈ del L name,q ∈ L:=fun q hq => yx4 hq
 have hm21:=ho2.keepM M21 (by simpa using hmb)
 rw [hdel]
 generalize del L name = L' at hm21 hold
 refine ⟨rfl,_,⟨m,L',h21,hm21,fun q hq => ?_,rfl,rfl⟩,N21.less (by simp),fun z hz => .inl ?_⟩
 ·refine yaA (hT q (hold q hq)) N21 fun z hz hz' => ?_
  simp at hz
  rcases hz with rfl | rfl
  ·obtain ⟨_,_,cur,hcur⟩:=yaP (hT q (hold q hq)) z hz'
   exact hm.notCells hcur
  ·exact yc5 (hT q (hold q hq)) hc (by decide) hz'
 ·simp only [List.mem_cons,List.mem_flatMap] at hz ⊢
  rcases hz with h1 | h1 | ⟨q,hq,h1⟩
  ·exact .inl h1
  ·exact .inr (.inl h1)
  ·exact .inr (.inr ⟨q,hold q hq,h1⟩)
def ybA (gen:Int) (robin:Bool) (G:GL) (x:PSeat) (rb:Bool):Int :=
 if ycE x = false then 1 else if 0 < G.length ∧ robin ≠ rb then 112 else if (8 ≤ G.length ∧ (lkp G x.name).isSome = false) ∨ 1099511627776 ≤ gen then 2 else 0
set_option maxHeartbeats 2000000 in
theorem yyW {w:World} {b:Nat} {gen:Int} {robin:Bool} {G:GL} {F:List Nat} (h:ycP w b gen robin G F) {x:PSeat} {ts:Sl} (hx:∀ w',Mod F w w' → ybF w' 1 yc8 ts.a ts.n x.topics) (hxl:x.topics.length ≤ 1000000) (hs:x.name.size ≤ maxLen) (rb:Bool) :
  Calls pP 51 #[.pointer (some ⟨b,0,none⟩),x.v ts,.bool rb] w fun e w' => e = .returned (.tuple #[.int .i64 (if ybA gen robin G x rb = 0 then IntKind.wrap .i64 (gen + 1) else 0),.int .i64 (ybA gen robin G x rb)]) ∧
   ∃ F',ycP w' b (if ybA gen robin G x rb = 0 then IntKind.wrap .i64 (gen + 1) else gen) (if ybA gen robin G x rb = 0 then rb else robin) (if ybA gen robin G x rb = 0 then put G x.name x else G) F' ∧ Mod F w w' ∧ ybG w F F':=by
 have hA:=h
 have ltF:=h.lt
 obtain ⟨m,L,hc,hm,hT,rfl,rfl⟩:=h
 have hmb:m ≠ b:=by rintro rfl; exact hm.notCells hc
 have lb:=yaH hc
 have lm:=hm.lt
 have hlen:(yaT L).length = L.length:=by simp [yaT]
 have hhad:(lkp (yaT L) x.name).isSome = (lkp L x.name).isSome:=by rw [yeA]; cases lkp L x.name <;> rfl
 have x0:∀ {w'},Mod [] w w' → ybF w' 1 yc8 ts.a ts.n x.topics:=fun {w'} M => hx w' (M.less (by simp))
 refine ya0 (yLk hc ?_)
 intro b2 f2 w3 A3
 have l2:=A3.lt b2 (by simp)
 refine ⟨_,_,_,_,_,_,_,(hm.keepM0 A3.mod).lkT (k:=x.name) ydT ybH Tryz.underlying188 yhA (ybK hs),?_⟩
 intro b11 f11 w15 A15
 have N15:=A3.mod.go0 A15.mod (by simp)
 have l11:=A15.lt b11 (by simp)
 have s3:=A3.mod.size
 have s15:=A15.mod.size
 refine (yDp x (x0 N15) hxl).mono ?_
 rintro _ w16 ⟨rfl,M16⟩
 have N16:=N15.go0 M16 (by simp)
 have s16:=M16.size
 have h16:=N16.keep0 hc
 have stay:∀ {w':World} {v:Int},Mod [] w w' → ybA gen robin (yaT L) x rb = v → v ≠ 0 →
   (Ending.returned (.tuple #[.int .i64 0,.int .i64 v]) = Ending.returned (.tuple #[.int .i64 (if ybA gen robin (yaT L) x rb = 0 then IntKind.wrap .i64 (gen + 1) else 0),.int .i64 (ybA gen robin (yaT L) x rb)])) ∧
   ∃ F',ycP w' b (if ybA gen robin (yaT L) x rb = 0 then IntKind.wrap .i64 (gen + 1) else gen) (if ybA gen robin (yaT L) x rb = 0 then rb else robin) (if ybA gen robin (yaT L) x rb = 0 then put (yaT L) x.name x else (yaT L)) F' ∧ Mod (b :: m :: L.flatMap fun q => yaN q.2.ts.a) w w' ∧ ybG w (b :: m :: L.flatMap fun q => yaN q.2.ts.a) F':=fun {w' v} M e he => by
  rw [e,if_neg he,if_neg he,if_neg he,if_neg he]
  exact ⟨rfl,_,hA.keep0 M,M.less (by simp),ybG.refl _ _⟩
 refine ⟨_,rfl,yaF.of0 M16,yaE (fun g => ?_) fun g => ?_⟩
 ·have g:ycE x = false:=by simpa using g
  intro w18 A18 _
  obtain ⟨h1,h2⟩:=stay (N16.go0 A18.mod (by simp)) (v:=1) (by rw [ybA,if_pos g]) (by decide)
  exact ⟨Ending.returned.inj h1,h2⟩
 have g:¬ ycE x = false:=by simpa using g
 have lenM:=fun w' (M:Mod [] w16 w') => ((hm.keepM0 N16).keepM0 M).len (T:=188) Tryz.underlying188 3
 have tail0:(0 < (yaT L).length ∧ robin ≠ rb) → ybA gen robin (yaT L) x rb = 112:=fun hh => by rw [ybA,if_neg g,if_pos hh]
 have tail2:¬ (0 < (yaT L).length ∧ robin ≠ rb) → (8 ≤ (yaT L).length ∧ (lkp (yaT L) x.name).isSome = false) ∨ 1099511627776 ≤ gen → ybA gen robin (yaT L) x rb = 2:=fun hh h2 => by rw [ybA,if_neg g,if_neg hh,if_pos h2]
 have tail3:¬ (0 < (yaT L).length ∧ robin ≠ rb) → ¬ ((8 ≤ (yaT L).length ∧ (lkp (yaT L) x.name).isSome = false) ∨ 1099511627776 ≤ gen) → ybA gen robin (yaT L) x rb = 0:=fun hh h2 => by rw [ybA,if_neg g,if_neg hh,if_neg h2]
 rw [hlen,hhad] at tail2 tail3
 rw [hlen] at tail0
 have err2:∀ {w':World},Adv [] [] w16 w' → ybA gen robin (yaT L) x rb = 2 → (Value.tuple #[.int .i64 0,.int .i64 2] = Value.tuple #[.int .i64 (if ybA gen robin (yaT L) x rb = 0 then IntKind.wrap .i64 (gen + 1) else 0),.int .i64 (ybA gen robin (yaT L) x rb)]) ∧
   ∃ F',ycP w' b (if ybA gen robin (yaT L) x rb = 0 then IntKind.wrap .i64 (gen + 1) else gen) (if ybA gen robin (yaT L) x rb = 0 then rb else robin) (if ybA gen robin (yaT L) x rb = 0 then put (yaT L) x.name x else (yaT L)) F' ∧ Mod (b :: m :: L.flatMap fun q => yaN q.2.ts.a) w w' ∧ ybG w (b :: m :: L.flatMap fun q => yaN q.2.ts.a) F':=fun A e2 =>
  let ⟨h1,h2⟩:=stay (N16.go0 A.mod (by simp)) e2 (by decide)
  ⟨Ending.returned.inj h1,h2⟩
 have tail:ybA gen robin (yaT L) x rb = 0 → ∀ w25,Adv [] [] w16 w25 →
   Calls pP 107 #[x.v ts] w25 fun e w26 => ∃ (s27:ByteArray) (a28:Option Addr) (n29 c30:Nat) (x31 x32:Int),e = .returned (.agg #[.string s27,.slice a28 n29 c30,.int .i64 x31,.int .i64 x32]) ∧ yaF [b,b2,b11] w25 w26 ∧ ((.string x.name:Value) = .string x.name) ∧ ((.map (some m):Value) = .map (some m)) ∧
   ∃ (v35:Value) (x33:Int),∃ w34,(Instr.mapEntry 188 (.map (some m)) (.string x.name)).run pP w26 = .ok (.tuple #[v35,.int .i64 x33]) w34 ∧ yaF [b,b2,b11] w26 w34 ∧
   ydM pP (Instr.entryStore 188 (.map (some m)) (.int .i64 x33) (.agg #[.string s27,.slice a28 n29 c30,.int .i64 x31,.int .i64 x32])) w34 fun w36 => yaF [b,b2,b11] w34 w36 ∧
   ∀ w37,Adv [b] [] w36 w37 → w37.heap[b]? = some (.cells #[.int .i64 (IntKind.wrap .i64 (gen + 1)),.bool rb,.map (some m)] 190) →
   (Value.tuple #[.int .i64 (IntKind.wrap .i64 (gen + 1)),.int .i64 0] = Value.tuple #[.int .i64 (if ybA gen robin (yaT L) x rb = 0 then IntKind.wrap .i64 (gen + 1) else 0),.int .i64 (ybA gen robin (yaT L) x rb)]) ∧ ∃ F',ycP w37 b (if ybA gen robin (yaT L) x rb = 0 then IntKind.wrap .i64 (gen + 1) else gen) (if ybA gen robin (yaT L) x rb = 0 then rb else robin) (if ybA gen robin (yaT L) x rb = 0 then put (yaT L) x.name x else (yaT L)) F' ∧ Mod (b :: m :: L.flatMap fun q => yaN q.2.ts.a) w w37 ∧ ybG w (b :: m :: L.flatMap fun q => yaN q.2.ts.a) F':=by
  intro e w25 A25
  have N25:=N16.go0 A25.mod (by simp)
  refine (ywI x (x0 N25) hxl).mono ?_
  rintro _ w26 ⟨_,rfl,t',rfl,hR26,M26⟩
  have N26:=N25.go0 M26 (by simp)
  have s25:=N25.size
  refine ⟨_,_,_,_,_,_,rfl,yaF.of0 M26,rfl,rfl,?_⟩
  obtain ⟨v0,st,w34,hme,M34,w36,hes,hm36,M36⟩:=(hm.keepM0 N26).entrySet (k:=x.name) ydT ybH Tryz.underlying188 yhA (⟨x,t'⟩:SeatV) (ybK hs)
  have kp:∀ i ∈ [b,b2,b11],i ≠ m:=by simp; refine ⟨fun e => hmb e.symm,by omega,by omega⟩
  refine ⟨_,_,w34,hme,yaF.of M34 (fun i hi _ hc => kp i hi (by simpa using hc)),w36,hes,yaF.of M36 (fun i hi _ hc => kp i hi (by simpa using hc)),?_⟩
  intro w37 A37 h37
  have N37:Mod [m,b] w w37:=(((N26.trans M34).trans M36).trans A37.mod).less fun z hz _ => by simp at hz ⊢; omega
  have hput:put (yaT L) x.name x = yaT (put L x.name ⟨x,t'⟩):=yf4 (fun q:SeatV => q.x) L x.name ⟨x,t'⟩
  have hold:∀ q ∈ put L x.name (⟨x,t'⟩:SeatV),q = (x.name,⟨x,t'⟩) ∨ q ∈ L:=fun q hq => yd2 hq
  have hm37:=hm36.keepM A37.mod (by simpa using hmb)
  have hnew:=hR26.newS
  have M37:Mod [m,b] w26 w37:=((M34.trans M36).trans A37.mod).less fun z hz _ => by simp at hz ⊢; omega
  have hR37:Row w37 0 9 1 yc8 t'.a t'.n t'.c x.topics:=(yaA hR26 M37 fun z hz hz' => by have:=hnew z hz'; simp at hz; omega).rebase (Nat.zero_le _)
  rw [e,if_pos rfl,if_pos rfl,if_pos rfl,if_pos rfl,hput]
  generalize put L x.name (⟨x,t'⟩:SeatV) = L' at hm37 hold
  refine ⟨rfl,_,⟨m,L',h37,hm37,fun q hq => ?_,rfl,rfl⟩,N37.less (fun z hz _ => by simp at hz ⊢; omega),fun z hz => ?_⟩
  ·rcases hold q hq with rfl | hqL
   ·exact hR37
   ·refine yaA (hT q hqL) N37 fun z hz hz' => ?_
    simp at hz
    rcases hz with rfl | rfl
    ·obtain ⟨_,_,cur,hcur⟩:=yaP (hT q hqL) z hz'
     exact hm.notCells hcur
    ·exact yc5 (hT q hqL) hc (by decide) hz'
  ·simp only [List.mem_cons,List.mem_flatMap] at hz ⊢
   rcases hz with h1 | h1 | ⟨q,hq,h1⟩
   ·exact .inl (.inl h1)
   ·exact .inl (.inr (.inl h1))
   ·rcases hold q hq with rfl | hqL
    ·have:=hnew z h1; exact .inr (by omega)
    ·exact .inl (.inr (.inr ⟨q,hqL,h1⟩))
 refine ⟨_,lenM,?_⟩
 refine yaC (fun g1 => ?_) fun g1 => ?_
 ·refine yaE (fun g2 => ?_) fun g2 => ?_
  ·have g2:robin ≠ rb:=by simpa using g2
   intro w21 A21 _
   obtain ⟨h1,h2⟩:=stay (N16.go0 A21.mod (by simp)) (v:=112) (tail0 ⟨by omega,g2⟩) (by decide)
   exact ⟨Ending.returned.inj h1,h2⟩
  have g2:robin = rb:=by simpa using g2
  have n1:¬ (0 < L.length ∧ robin ≠ rb):=fun hh => hh.2 g2
  refine ⟨_,lenM,?_⟩
  refine yaC (fun g3 => ?_) fun g3 => ?_
  ·refine yaE (fun g4 => ?_) fun g4 => ?_
   ·refine yaE (fun _ => ?_) fun g5 => by rw [g4] at g5; cases g5
    have g4:(lkp L x.name).isSome = false:=by simpa using g4
    intro w24 A24 _
    exact err2 A24 (tail2 n1 (.inl ⟨by omega,g4⟩))
   ·have g4:(lkp L x.name).isSome = true:=by simpa using g4
    refine yaC (fun g5 => ?_) fun g5 => ?_
    ·intro w38 A38 _
     exact err2 A38 (tail2 n1 (.inr g5))
    ·have e:=tail3 n1 (by rintro (hh | hh); rw [g4] at hh; exact absurd hh.2 (by decide); omega)
     exact tail e
  ·refine yaC (fun g5 => ?_) fun g5 => ?_
   ·intro w38 A38 _
    exact err2 A38 (tail2 n1 (.inr g5))
   ·have e:=tail3 n1 (by rintro (hh | hh); omega; omega)
    exact tail e
 ·have n1:¬ (0 < L.length ∧ robin ≠ rb):=fun hh => g1 (by omega)
  refine ⟨_,lenM,?_⟩
  refine yaC (fun g3 => ?_) fun g3 => ?_
  ·omega
  ·refine yaC (fun g5 => ?_) fun g5 => ?_
   ·intro w38 A38 _
    exact err2 A38 (tail2 n1 (.inr g5))
   ·have e:=tail3 n1 (by rintro (hh | hh); omega; omega)
    exact tail e
theorem yi4 {w:World} {b:Nat} {gen:Int} {robin:Bool} {G:GL} {F:List Nat} (h:ycP w b gen robin G F) (hl:G.length ≤ 1000000) :
  Calls pP 87 #[.pointer (some ⟨b,0,none⟩)] w fun e w' => ∃ v,e = .returned v ∧ ∃ s':Sl,v = .slice s'.a s'.n s'.c ∧ Row w' w.heap.size 9 1 yc8 s'.a s'.n s'.c (ycW (G.map (·.1))) ∧ Mod [] w w':=by
 obtain ⟨m,L,hc,hm,hT,rfl,rfl⟩:=h
 have hlen:(yaT L).length = L.length:=by simp [yaT]
 refine yLt hc ?_
 refine (yFm (some m) w).mono ?_
 rintro _ w1 ⟨rfl,rfl⟩
 have M1:Mod [] w (w.alloc (.cells #[.map (some m)] 188)):=Mod.of_below ((Below.refl _ _).alloc (Nat.le_refl _) _)
 have hcn:=(MapKept.heap_alloc w (.cells #[.map (some m)] 188)).1
 refine ⟨_,rfl,yaF.of0 M1,?_⟩
 refine (yAr (hm.keepM0 M1) (by omega) (by simp) (by rw [yaM hcn]; rfl)).mono ?_
 rintro _ w3 ⟨_,rfl,s',rfl,hR,M3⟩
 refine ⟨_,_,_,rfl,yaF.of0 M3,fun w7 A7 _ => ⟨s',rfl,?_,(M1.go0 M3 (by simp)).go0 A7.mod (by simp)⟩⟩
 have e:(yaT L).map (·.1) = L.map (·.1):=by unfold yaT; rw [List.map_map]; rfl
 rw [e]
 exact (hR.keep0 A7.mod).rebase M1.size
end Go.Proofs.YteldhjiiocmicaaGreat
namespace Go.Proofs.YteldhjiiocmicaaGreat
open Go Go.RowKit
set_option linter.all false
section
set_option maxRecDepth 100000
variable {R:VWP} {w w0:World} {m:Nat} {i0 i1 i2 i3 i4 i5 i6 i7 i8 i9 j0 j1 j2 j3 j4 j5 j6 j7 j8 j9 k0 k1 k2 k3 k4 k5 k6 k7 k8 k9 l0 l1 l2 l3 l4 l5 l6 l7 l8 l9:Int} {s0 s1 s2 s3 s4 s5 s6 s7 s8 s9 t0 t1 t2 t3 t4 t5 t6 t7 t8 t9:BA} {n0 n1 n2 n3 n4 n5 n6 n7 n8 n9 o0 o1 o2 o3 o4 o5 o6 o7 o8 o9 p0 p1 p2 p3 p4 p5 p6 p7 p8 p9:Nat} {q0 q1 q2 q3 q4 q5 q6 q7 q8 q9 r0 r1 r2 r3 r4 r5 r6 r7 r8 r9:OA} {B0 B1 B2 B3 B4 B5 B6 B7 B8 B9:Bool} {M0 M1 M2 M3:Option Nat} {V0 V1 V2 V3 V4 V5:Value} {A0 A1 A2:Addr}
def ywJ:LA:=⟨[0,0,1,0,1],[0,1,7,8],[],0,[]⟩
def yyX:List LA:=[ywJ]
abbrev yLA:=dnF pP yyX (code Tryz.f136)
abbrev yNG:=yaR pP yyX (code Tryz.f136)
abbrev yLB (p:List Nat) (K:List Kh) (R:VWP):=yaR pP yyX (code Tryz.f136) p K (ybE pP Tryz.f136 [] R)
def yo6 (a1:OA) (a3 a2:Nat) (a0:Addr) (a4:Int):Int → List Value × List TB:=fun a5 => ([.slice a1 a3 a2,(.func (.func 88) #[] #[(.pointer (some a0))]),.int .i64 a4,.int .i64 a5],[])
abbrev yGs (a1:OA) (a3 a2:Nat) (a0:Addr) (a4:Int) (I:Nat → Int → World → Prop) (m:Nat):Kh:=KG (yo6 a1 a3 a2 a0 a4) (U1 I) m
theorem yDr {I:Nat → Int → World → Prop} (m':Nat) (h1:m' < m) (h2:I m' i1 w):KS (yGs q0 n0 n1 A0 i0 I m) (yo6 q0 n0 n1 A0 i0 i1) w:=⟨m',h1,_,rfl,rfl,h2⟩
theorem yDs {a2:OA} (I:Nat → Int → World → Prop) (m0:Nat) (h0:I m0 i1 w0)
 (hr:∀ m a1 w,I m a1 w →
 brB (decide (a1 < i0)) (
 ixA a2 n0 a1 1 fun q5 =>
 ya7 w q5 fun s6 =>
 Calls pP 88 #[.string s6,(.pointer (some A0))] w fun e w7 => ∃ t8,e = .returned (.bool t8) ∧
 brB t8 (
 R (.int .i64 a1) w7)
 (
 KS (yGs a2 n0 n1 A0 i0 I m) (yo6 a2 n0 n1 A0 i0 (IntKind.wrap .i64 (a1 + 1))) w7))
 (
 R (.int .i64 (-1)) w)) :
 yaO ywJ (yLA 397 [0,0,1,0,1]) (yLB [1,0,1,0] [] R) (yo6 a2 n0 n1 A0 i0 i1) w0 :=
 lrule (yo6 a2 n0 n1 A0 i0) (U1 I) h0 (by rintro m a1 w h; exact ⟨by kernel_rfl,by kernel_rfl,fun js => Eq.mpr (by kernel_rfl) (hr m a1 w h)⟩)
theorem yLC (h :
 yaO ywJ (yLA 397 [0,0,1,0,1]) (yLB [1,0,1,0] [] R) (yo6 q0 n0 n1 A0 (n0:Int) 0) w) :
 CR pP 136 #[.slice q0 n0 n1,(.func (.func 88) #[] #[(.pointer (some A0))])] w R :=
 yaB Tryz.wide_mixed (an:=yyX) Tryz.func136 rfl rfl (by kernel_rfl) rfl (Eq.mpr (by kernel_rfl) h)
def ywK:LA:=⟨[0,0,1,0,1,1,1],[0,1,5,6],[],0,[]⟩
def yyY:List LA:=[ywK]
abbrev yLD:=dnF pP yyY (code Tryz.f86)
abbrev yNH:=yaR pP yyY (code Tryz.f86)
abbrev yLE (p:List Nat) (K:List Kh) (R:VWP):=yaR pP yyY (code Tryz.f86) p K (ybE pP Tryz.f86 [] R)
def ym4 (a1:OA) (a3 a2:Nat) (a0:Addr):Int × Int → List Value × List TB:=fun (a4,a5) => ([.slice a1 a3 a2,(.func (.func 88) #[] #[(.pointer (some a0))]),.int .i64 a4,.int .i64 a5],[])
abbrev yDt (a1:OA) (a3 a2:Nat) (a0:Addr) (I:Nat → Int → Int → World → Prop) (m:Nat):Kh:=KG (ym4 a1 a3 a2 a0) (U2 I) m
theorem yt0 {I:Nat → Int → Int → World → Prop} (m':Nat) (h1:m' < m) (h2:I m' i0 i1 w):KS (yDt q0 n0 n1 A0 I m) (ym4 q0 n0 n1 A0 (i0,i1)) w:=⟨m',h1,_,rfl,rfl,h2⟩
theorem yDu {a1:OA} (I:Nat → Int → Int → World → Prop) (m0:Nat) (h0:I m0 i0 i1 w0)
 (hr:∀ m a4 a5 w,I m a4 a5 w →
 brB (decide (a5 < (n0:Int))) (
 ixA a1 n0 a5 1 fun q7 =>
 ya7 w q7 fun s8 =>
 Calls pP 88 #[.string s8,(.pointer (some A0))] w fun e a9 => ∃ a8,e = .returned (.bool a8) ∧
 brB (!a8) (
 ixA a1 n0 a4 1 fun b6 =>
 st a9 b6 [.string s8] fun b7 =>
 KS (yDt a1 n0 n1 A0 I m) (ym4 a1 n0 n1 A0 ((IntKind.wrap .i64 (a4 + 1)),(IntKind.wrap .i64 (a5 + 1)))) b7)
 (
 KS (yDt a1 n0 n1 A0 I m) (ym4 a1 n0 n1 A0 (a4,(IntKind.wrap .i64 (a5 + 1)))) a9))
 (
 slV a1 n1 a4 n0 n1 1 fun b0 b4 b2 =>
 yHr pP (Builtin.clear_ #[37] 0 #[.slice b0 b4 b2]) w fun b9 b8 =>
 slV a1 n1 0 a4 n1 1 fun b1 b5 b3 =>
 R (.slice b1 b5 b3) b8)) :
 yaO ywK (yLD 395 [0,0,1,0,1,1,1]) (yLE [1,1,1,0,1,0] [] R) (ym4 a1 n0 n1 A0 (i0,i1)) w0 :=
 lrule (ym4 a1 n0 n1 A0) (U2 I) h0 (by rintro m ⟨a4,a5⟩ w h; exact ⟨by kernel_rfl,by kernel_rfl,fun js => Eq.mpr (by kernel_rfl) (hr m a4 a5 w h)⟩)
theorem yLF (h :
 Calls pP 136 #[.slice q0 n0 n1,(.func (.func 88) #[] #[(.pointer (some A0))])] w fun e w3 => ∃ x4,e = .returned (.int .i64 x4) ∧
 brB (x4 == (-1)) (
 R (.slice q0 n0 n1) w3)
 (
 yaO ywK (yLD 395 [0,0,1,0,1,1,1]) (yLE [1,1,1,0,1,0] [] R) (ym4 q0 n0 n1 A0 (x4,(IntKind.wrap .i64 (x4 + 1)))) w3)) :
 CR pP 86 #[.slice q0 n0 n1,(.func (.func 88) #[] #[(.pointer (some A0))])] w R :=
 yaB Tryz.wide_mixed (an:=yyY) Tryz.func86 rfl rfl (by kernel_rfl) rfl (Eq.mpr (by kernel_rfl) h)
end
theorem yDv {P:Program} {o:Oper} {a:Act} {w:World} {l:Nat} {K:VWP} {Q:Exit → Act → World → Prop} {next:Act → World → Prop} (h:yjG P (execOp a.eval o) w K) (hd:∀ c,o.op ≠ .defer c) (hK:∀ v w',K v w' → next (a.put o.dst v) w'):o.wpIn (Fence.wide.inRound l) 0 P a w next Q:=by
 refine ⟨fun _ _ => trivial,?_⟩
 rw [Oper.semAt_eq _ _ _ hd]
 unfold yjG at h
 split at h
 ·rename_i v w' he; rw [he]; exact hK _ _ h
 ·rename_i w' he; rw [he]; exact hK _ _ h
 ·rename_i f args w' he
  rw [he,Oper.uponIn_enter]
  refine ⟨fun hh => by simp [Fence.wide] at hh,?_⟩
  refine (CallsIn.inRound l (callsIn_wide.2 h)).mono fun e w'' hv => ?_
  obtain ⟨v,rfl,hk⟩:=hv
  exact hK v w'' hk
 ·exact h.elim
theorem yaW {w:World} {b:Nat} {o:Obj} (h:w.heap[b]? = some o):b < w.heap.size:=(Array.getElem?_eq_some_iff.1 h).1
def yj1:List Oper → Bool
 | [] => true
 | o :: r => match o.op with
  | .defer _ => false
  | _ => match o.guard with
   | none => yj1 r
   | some _ => false
theorem yt1 {o:Oper} {r:List Oper} (h:yj1 (o :: r) = true):(∀ c,o.op ≠ .defer c) ∧ o.guard = none ∧ yj1 r = true:=by
 unfold yj1 at h
 split at h
 ·cases h
 ·rename_i hn
  split at h
  ·rename_i hg; exact ⟨hn,hg,h⟩
  ·cases h
theorem yk4 {P:Program} {n l:Nat} {ops:Array Oper} {Q:Exit → Act → World → Prop} {K:FA → St → Prop} (hK:∀ f s wa a,K f s → Inv f s wa → Rel n f a → Q .normal a wa) :
  ∀ {L:List Oper} {f:FA} {s:St} {wa:World} {a:Act},yj1 L = true → (∀ o ∈ L,∀ k,o.dst = some k → k < n) → ybS P ops L K f s → Inv f s wa → Rel n f a → wpListIn (Fence.wide.inRound l) 0 P ops Q L a wa
 | [],f,s,wa,a,_,_,h,hI,hR => hK f s wa a h hI hR
 | o :: r,f,s,wa,a,hnd,hn,h,hI,hR => by
  obtain ⟨hd,hg,hnd'⟩:=yt1 hnd
  have hnr:∀ o ∈ r,∀ k,o.dst = some k → k < n:=fun o ho => hn o (by simp [ho])
  unfold ybS at h
  rw [hg] at h
  refine wpListIn_plain hg fun K' hK' => ?_
  refine yDv (K:=fun v wa' => ∃ t s',ybS P ops r K (ydZ f o.dst v t) s' ∧ OpI f s' v t wa' ∧ ybT s s') (by rw [hR.eval]; exact (ycD h hI).2) hd fun v w' ⟨t,s',h1,h2,_⟩ => ?_
  exact hK' _ _ (yk4 hK hnd' hnr h1 (h2.put o.dst) (hR.put o.dst (hn o (by simp)) v t))
theorem ydU (w:World) (l:Nat) (o:Obj):Mod [l] w (w.putObj l o):=⟨rfl,rfl,rfl,by simp [World.putObj],fun k hk hn => World.putObj_heap_other (by simpa using hn)⟩
def yLG {α:Type} (P:Program) (gf:FuncId) (lb:Array Value) (encs:α → Array Value) (w0:World) (S:List Nat) (X:Nat → α → World → Prop) (N B:Nat):Prop :=
 ∀ (l:Nat) (J:List α → World → Prop),(∀ pre W W',J pre W → Mod [] W W' → J pre W') → (∀ pre W,J pre W → Mod S w0 W ∧ B ≤ W.heap.size) →
  (∀ pre x W1,J pre W1 → X pre.length x W1 → pre.length < N → YieldAt Fence.wide 0 P l (encs x) W1 fun e W' => e = .returned (.bool true) ∧ J (pre ++ [x]) W') →
  ∀ W,J [] W → CallsIn Fence.wide 1 P gf (#[.func (.yield l) #[] #[]] ++ lb) W fun e W' => (∃ v,e = .returned v) ∧ ∃ xs,xs.length = N ∧ J xs W'
theorem yhQ {α:Type} {P:Program} {g:Operand} {ps:Array Tmp} {assign body:Code} {Q:Exit → Act → World → Prop} {a:Act} {w:World}
  {gf:Nat} {lb:Array Value} (hg:a.eval g = .func (.func gf) #[] lb) (eg:∀ args w,(callFunc gf args).run P w = .ok (.enter gf args) w)
  {encs:α → Array Value} {S:List Nat} {X:Nat → α → World → Prop} {N:Nat} (hseq:yLG P gf lb encs w S X N (w.heap.size + 2)) (hps:∀ x,(encs x).size = ps.size) (hS:∀ i ∈ S,i < w.heap.size)
  (I:List α → World → Prop) (hIm:∀ s W W',I s W → Mod [] W W' → I s W') (hIp:∀ s W l (o:Loop),l = w.heap.size + 1 → I s W → I s (W.putObj l (.loop o))) (hIS:∀ s W,I s W → Mod S w W) (h0:I [] w)
  (hround:∀ (pre:List α) (x:α) (W:World) (lp:Loop),I pre W → pre.length < N → X pre.length x W → W.heap[w.heap.size + 1]? = some (.loop lp) → w.heap.size < W.heap.size →
   assign.wpIn (Fence.wide.inRound (w.heap.size + 1)) 0 P (Exit.then (fun a1 W1 => W1.heap[w.heap.size + 1]? = some (.loop lp) ∧ ∀ lp':Loop,body.wpIn (Fence.wide.inRound (w.heap.size + 1)) 0 P
    (fun e _ W' => e = .normal ∧ W'.heap[w.heap.size + 1]? = some (.loop lp') ∧ W'.heap[w.heap.size]? = W.heap[w.heap.size]? ∧ I (pre ++ [x]) W') a1 (W1.putObj (w.heap.size + 1) (.loop lp'))) fun _ _ _ => False)
    { tmps:=(ps.zip (encs x)).foldl (fun t (p,v) => t.setIfInBounds p v) a.tmps,defers:=[] } W)
  (hdone:∀ (W:World) xs,xs.length = N → I xs W → W.heap[w.heap.size]? = some (.deferred (some [])) → Q .normal { a with defers:={ target:=.collected w.heap.size,args:=#[] } :: a.defers } W) :
  (Code.rangeFunc g ps assign body).wpIn Fence.wide 2 P Q a w:=by
 refine wpIn_rangeFunc ?_
 intro fn hfn
 have hro:Fence.wide.round = none:=rfl
 rw [hro]
 obtain ⟨rec,hrec⟩:∃ rec:LoopState → Option Code → Loop,rec = fun st pe => { state:=st,pending:=pe,fn,tmps:=a.tmps,params:=ps,assign,body,defers:=w.heap.size }:=⟨_,rfl⟩
 obtain ⟨W1,hW1⟩:∃ W1,(w.alloc (.deferred (some []))).alloc (.loop (rec .ready none)) = W1:=⟨_,rfl⟩
 have hL1:W1.heap[w.heap.size + 1]? = some (.loop (rec .ready none)):=by
  rw [← hW1]; have:=World.alloc_heap_new (w.alloc (.deferred (some []))) (.loop (rec .ready none)); rwa [World.size_alloc] at this
 have hK1:W1.heap[w.heap.size]? = some (.deferred (some [])):=by
  rw [← hW1]; exact (Below.heap_alloc _ _ _ (by simp)).trans (World.alloc_heap_new w _)
 have M:∀ (x:World) (o:Obj),Mod [] x (x.alloc o):=fun x o => Mod.of_below ((Below.refl _ _).alloc (Nat.le_refl _) _)
 have hI1:I [] W1:=by rw [← hW1]; exact hIm _ _ _ (hIm _ _ _ h0 (M _ _)) (M _ _)
 refine ⟨w.heap.size + 1,[{ target:=.collected w.heap.size,args:=#[] }],W1,{ target:=.fn (.func gf) lb,args:=#[.func (.yield (w.heap.size + 1)) #[] #[]] },W1,gf,
  #[.func (.yield (w.heap.size + 1)) #[] #[]] ++ lb,W1,?_,?_,fun _ _ => trivial,?_,fun h => (by simp [Fence.wide] at h),?_⟩
 ·rw [← hW1,hrec]; exact run_enterLoop_outer _ _ _ _ _
 ·simp only [resolve,hg]
  simp [go_sem]
 ·simp [invoke,go_sem,eg]
 ·refine (hseq (w.heap.size + 1)
   (fun pre W => I pre W ∧ W.heap[w.heap.size + 1]? = some (.loop (rec .ready none)) ∧ W.heap[w.heap.size]? = some (.deferred (some [])))
   ?_ ?_ ?_ W1 ⟨hI1,hL1,hK1⟩).mono ?_
  ·rintro pre W W' ⟨hi,hl,hk⟩ hM
   exact ⟨hIm _ _ _ hi hM,(hM.block _ (yaW hl) (by simp)).trans hl,(hM.block _ (yaW hk) (by simp)).trans hk⟩
  ·rintro pre W ⟨hi,hl,hk⟩
   exact ⟨hIS _ _ hi,yaW hl⟩
  ·rintro pre x W ⟨hi,hl,hk⟩ hx hlen
   have hlt:=yaW hl
   have hy:=run_yield (P:=P) (args:=encs x) hl (by rw [hrec]; exact hps x)
   rw [hrec] at hy
   refine ⟨fn,_,assign,body,hy,roundIn_of_wpIn trivial ?_⟩
   refine wpIn_mono (hround pre x W (rec .ready none) hi hlen hx hl (by omega)) ?_
   intro e a1 W2 hq
   cases e with
   | normal =>
    obtain ⟨hl2,hb⟩:=hq
    refine ⟨_,run_beginRound hl2 (by rw [hrec]),?_⟩
    refine wpIn_mono (hb { rec .ready none with state:=.busy }) ?_
    rintro e a3 W3 ⟨rfl,hr1,hD3,hi3⟩
    have hr:=run_endRound (P:=P) none hr1
    have hlt3:=yaW hr1
    refine ⟨_,_,hr,rfl,⟨hIp _ _ _ _ rfl hi3,?_,?_⟩⟩
    ·rw [World.putObj_heap_same hlt3,hrec]; rfl
    ·exact (World.putObj_heap_other (by omega)).trans (hD3.trans hk)
   | _ => exact hq.elim
  ·rintro e W2 ⟨⟨v,rfl⟩,xs,hxs,hi,hl,hk⟩
   exact ⟨none,_,by have:=run_endLoop (P:=P) hl (by rw [hrec]; simp); rw [hrec] at this; exact this,hdone _ xs hxs (hIp _ _ _ _ rfl hi) ((World.putObj_heap_other (by omega)).trans hk)⟩
theorem yMG {ts:Array Value} {q:Tmp} {v:Value}:((#[q]:Array Tmp).zip #[v]).foldl (fun t (x:Tmp × Value) => match x with | (p,v) => t.setIfInBounds p v) ts = ts.setIfInBounds q v:=by simp
end Go.Proofs.YteldhjiiocmicaaGreat
namespace Go.Proofs.YteldhjiiocmicaaGreat
open Go Go.RowKit Go.Maps Go.MapKept
open Go.ChangeMaps (setBlock)
set_option linter.unusedVariables false
set_option linter.unusedSimpArgs false
section
attribute [local go_sem] Oper.semAt_some
set_option maxRecDepth 100000 in
set_option maxHeartbeats 2000000 in
theorem yAt {w:World} {b6:Nat} {a3 a4:Addr} {name:ByteArray} {t:Bool} (h6:w.cell? ⟨b6,0,none⟩ = some (.func (.func 85) #[] #[.pointer (some a4),.pointer (some a3)]))
  (h1:Calls pP 85 #[.string name,.pointer (some a4),.pointer (some a3)] w fun e w' => e = .returned (.bool t) ∧ Mod [] w w') :
  Calls pP 88 #[.string name,.pointer (some ⟨b6,0,none⟩)] w fun e w' => e = .returned (.bool (!t)) ∧ Mod [] w w':=by
 refine (callsIn_wide (n:=2)).1 ?_
 have hro:Fence.wide.round = none:=rfl
 refine callsIn_of_wp Tryz.func88 rfl trivial ?_ hro
 simp only [Tryz.ntmps88,List.size_toArray,List.length_cons,List.length_nil,Nat.reduceAdd,Nat.reduceSub,Array.replicate_succ,Array.replicate_zero,List.push_toArray,List.append_toArray,List.nil_append,List.cons_append]
 gi_wp2
 refine ⟨trivial,(callsIn_wide.2 h1).mono ?_⟩
 rintro _ w' ⟨rfl,M⟩
 gi_wp2
 go_ret
 exact ⟨rfl,M⟩
end
def yAu (now:Int) (x:PSeat):Bool:=decide (now ≥ IntKind.wrap .i64 (x.seen + x.tmo))
def yqJ (G:GL) (now:Int) (name:ByteArray):Bool:=yAu now ((lkp G name).getD yfH)
theorem yAv {w:World} {b m b3 b4:Nat} {gen:Int} {robin:Bool} {L:SL} {now:Int} (hc:w.heap[b]? = some (.cells #[.int .i64 gen,.bool robin,.map (some m)] 190)) (hm:yaS pP 9 hks SeatV.v w m L)
  {T3 T4:TypeId} {z3 z4:Nat × Nat} (h3:w.heap[b3]? = some (.cells #[.pointer (some ⟨b,0,none⟩)] T3 z3)) (h4:w.heap[b4]? = some (.cells #[.int .i64 now] T4 z4)) {name:ByteArray} (hs:name.size ≤ maxLen) :
  Calls pP 85 #[.string name,.pointer (some ⟨b4,0,none⟩),.pointer (some ⟨b3,0,none⟩)] w fun e w' => e = .returned (.bool (yqJ (yaT L) now name)) ∧ Mod [] w w':=by
 refine ya0 (yLs ?_)
 refine yaK (x:=now) (by rw [yaM h4]; rfl) ?_
 refine ydA (x:=some ⟨b,0,none⟩) (by rw [yaM h3]; rfl) (ya6 ?_)
 refine yb2 (x:=some m) (by rw [ycC,yaM hc]; rfl) ?_
 have hlk:=hm.lkF (k:=name) ydT ybH Tryz.underlying188 yhA (ybK hs)
 refine ⟨_,_,_,_,_,_,hlk,?_⟩
 refine ydA (x:=some ⟨b,0,none⟩) (by rw [yaM h3]; rfl) (ya6 ?_)
 refine yb2 (x:=some m) (by rw [ycC,yaM hc]; rfl) ?_
 refine ⟨_,_,_,_,_,_,hlk,?_⟩
 intro w20 A20
 refine ⟨congrArg Value.bool ?_,A20.mod⟩
 have e:(lkp (yaT L) name).getD yfH = ((lkp L name).getD ⟨yfH,ya8⟩:SeatV).x:=by rw [yeA]; cases lkp L name <;> rfl
 rw [yqJ,e]; rfl
theorem yHW {w:World} {S:List Nat} {b6:Nat} {late:ByteArray → Bool} {a:Option Addr} {n c:Nat} {l:List ByteArray} (h:ybF w 1 yc8 a n l) (hl:l.length ≤ 1000000)
  (hD:∀ W x,Mod S w W → x ∈ l → Calls pP 88 #[.string x,.pointer (some ⟨b6,0,none⟩)] W fun e w' => e = .returned (.bool (!late x)) ∧ Mod [] W w') :
  Calls pP 136 #[.slice a n c,.func (.func 88) #[] #[.pointer (some ⟨b6,0,none⟩)]] w fun e w' => ∃ v,e = .returned v ∧ ∃ r:Int,v = .int .i64 r ∧ Mod [] w w' ∧ ((r = -1 ∧ l.filter late = l) ∨ ∃ k:Nat,r = k ∧ k < l.length ∧ (l.take (k + 1)).filter late = l.take k):=by
 have hn:=h.1
 refine yLC ?_
 refine yDs (fun mm x w' => ∃ k:Nat,x = k ∧ k ≤ l.length ∧ (∀ y ∈ l.take k,late y = true) ∧ Mod [] w w' ∧ mm = l.length - k) l.length ⟨0,rfl,by omega,by simp,Mod.refl _,rfl⟩ ?_
 rintro mm x w1 ⟨k,rfl,hk,hb,M1,rfl⟩
 refine yaC (fun hlt => ?_) fun hge => ?_
 ·obtain ⟨s,hs⟩:∃ s,l[k]? = some s:=⟨_,List.getElem?_eq_getElem (by omega)⟩
  refine (h.keep0 M1).ix hs fun q hq => yaL (by simpa [add_zero] using hq 0 _ rfl) ?_
  refine (hD w1 s (M1.less (by simp)) (List.mem_of_getElem? hs)).mono ?_
  rintro _ w7 ⟨rfl,M7⟩
  have N7:=M1.go0 M7 (by simp)
  refine ⟨_,rfl,yaE (fun g => ?_) fun g => ?_⟩
  ·have g:late s = false:=by simpa using g
   refine ⟨_,rfl,N7,.inr ⟨k,rfl,by omega,?_⟩⟩
   rw [ybO hs,List.filter_append,List.filter_eq_self.2 hb]
   simp [g]
  ·have g:late s = true:=by simpa using g
   refine yDr (l.length - (k + 1)) (by omega) ⟨k + 1,by rw [yaI (by omega) (by omega)]; omega,by omega,?_,N7,rfl⟩
   rw [ybO hs]
   intro y hy
   rcases List.mem_append.1 hy with hy | hy
   ·exact hb y hy
   ·simp at hy; subst hy; exact g
 ·have hk:k = l.length:=by omega
  subst hk
  rw [List.take_length] at hb
  exact ⟨_,rfl,M1,.inl ⟨rfl,List.filter_eq_self.2 hb⟩⟩
theorem yHX (w:World):(zeroValue 9).run pP w = .ok (.string ⟨#[]⟩) w:=by kernel_rfl
set_option maxHeartbeats 1000000 in
theorem yDw {w:World} {B:Nat} {a:Option Addr} {n c k:Nat} {l:List ByteArray} {R:Option Addr → Nat → Nat → World → Prop} (h:Row w B 9 1 yc8 a n c l) (hk:k ≤ n)
  (hR:∀ a' c' w',ybF w' 1 yc8 a' k (l.take k) → Mod (yaN a) w w' → R a' k c' w') :
  slV a c (k:Int) ((n:Nat):Int) (c:Int) 1 fun a22 n23 c24 => yHr pP (Builtin.clear_ #[37] 0 #[.slice a22 n23 c24]) w fun v26 w25 => slV a c 0 (k:Int) ((c:Nat):Int) 1 fun a30 n31 c32 => R a30 n31 c32 w25:=by
 have hcap:=h.cap
 have hsl:=h.sl ydB
 have fin:∀ {w'},ybF w' 1 yc8 a k (l.take k) → Mod (yaN a) w w' → slV a c 0 (k:Int) ((c:Nat):Int) 1 fun a30 n31 c32 => R a30 n31 c32 w':=fun {w'} hs M =>
  yp6 hs (Nat.le_refl _) (by omega) fun a' c' hs' => hR a' c' w' (by rwa [List.take_take,Nat.min_self] at hs') M
 refine ⟨by omega,by omega,by omega,by omega,?_⟩
 have e1:((n:Int) - k).toNat = n - k:=by omega
 have e2:((c:Int) - k).toNat = c - k:=by omega
 have e3:(k:Int).toNat * 1 = k:=by omega
 rw [e1,e2,e3]
 by_cases hz:n - k = 0
 ·have hkn:k = n:=by omega
  have ek:l.take k = l:=by rw [hkn,h.1,List.take_length]
  have hrun:∀ x:Option Addr,(Builtin.clear_ #[37] 0 #[.slice x 0 (c - k)]).run pP w = .ok (.tuple #[]) w:=fun x => by
   cases x <;> simp [Builtin.clear_,run_underlying Tryz.underlying37]
  rw [hz]
  exact ⟨_,_,hrun _,fin (by rw [ek,hkn]; exact hsl) ((Mod.refl w).less (by simp))⟩
 ·obtain ⟨hn,ho⟩:=id h
  rcases ho.2 with ⟨h1,h2⟩ | ⟨g,cap,cur,hv,hb,hg,hnc,hcm,hsz,htk⟩
  ·omega
  ·simp only [Value.slice.injEq] at hv
   obtain ⟨rfl,_,rfl⟩:=hv
   rw [if_neg (by omega)]
   have ea:(Option.map (fun x => x.add k) (some (⟨g,0,none⟩:Addr))) = some ⟨g,k,none⟩:=by
    simp [Addr.add]; omega
   rw [ea]
   obtain ⟨w',hst,hg',M'⟩:∃ w',(storeCells ⟨g,k,none⟩ (List.replicate (n - k) (Value.string ⟨#[]⟩)) 0).run pP w = .ok () w' ∧ w'.heap[g]? = some (.cells (ybJ cur k (List.replicate (n - k) (Value.string ⟨#[]⟩))) 9) ∧ Mod [g] w w' :=
    ypS (P:=pP) (show st w ⟨g,k,none⟩ (List.replicate (n - k) (Value.string ⟨#[]⟩)) _ from yeY hg (by simp [yhH]) (by simp; omega) fun w' h1 h2 => ⟨h1,h2⟩)
   have hzc:(Builtin.zeroCells (Value.string ⟨#[]⟩).cells (n - k)).toList = List.replicate (n - k) (Value.string ⟨#[]⟩):=by
    simp [Builtin.zeroCells,Value.cells]
    apply List.ext_getElem
    ·simp
    ·intro i h1 h2
     simp [Nat.mod_one]
   have hrun:(Builtin.clear_ #[37] 0 #[.slice (some ⟨g,k,none⟩) (n - k) (c - k)]).run pP w = .ok (.tuple #[]) w':=by
    obtain ⟨q,hq⟩:∃ q,n - k = q + 1:=⟨n - k - 1,by omega⟩
    rw [hq] at hst hzc ⊢
    simp [Builtin.clear_,run_underlying Tryz.underlying37,yHX,hzc,hst,Result.andThen]
   refine ⟨_,_,hrun,fin ⟨by rw [List.length_take]; omega,fun i x hx => ?_⟩ (by simpa [yaN] using M')⟩
   rw [List.getElem?_take] at hx
   split at hx
   ·rename_i hik
    refine ⟨_,rfl,fun j v hv => ?_⟩
    obtain ⟨ad,had,hcell⟩:=hsl.2 i x hx
    cases had
    have h1:=hcell j v hv
    have hj:j = 0:=by
     have:=(List.getElem?_eq_some_iff.1 hv).1
     simp [yc8] at this; omega
    subst hj
    have e:((⟨g,0,none⟩:Addr).add (i * 1)).add 0 = ⟨g,i,none⟩:=by
     rw [add_zero,Nat.mul_one,ycC,Nat.zero_add]
    rw [e] at h1 ⊢
    rw [yaM hg] at h1
    rw [yaM hg',← Array.getElem?_toList,yhZ _ _ _ _ (by simp; omega),if_neg (by omega),Array.getElem?_toList]
    exact h1
   ·cases hx
end Go.Proofs.YteldhjiiocmicaaGreat
namespace Go.Proofs.YteldhjiiocmicaaGreat
open Go Go.RowKit Go.Maps Go.MapKept
open Go.ChangeMaps (setBlock)
set_option linter.unusedVariables false
set_option linter.unusedSimpArgs false
set_option maxHeartbeats 1000000 in
theorem yHY {w:World} {B b6:Nat} {late:ByteArray → Bool} {a:Option Addr} {n c:Nat} {l:List ByteArray} (h:Row w B 9 1 yc8 a n c l) (hl:l.length ≤ 1000000)
  (hD:∀ W x,Mod (yaN a) w W → x ∈ l → Calls pP 88 #[.string x,.pointer (some ⟨b6,0,none⟩)] W fun e w' => e = .returned (.bool (!late x)) ∧ Mod [] W w') :
  Calls pP 86 #[.slice a n c,.func (.func 88) #[] #[.pointer (some ⟨b6,0,none⟩)]] w fun e w' => ∃ v,e = .returned v ∧ ∃ s':Sl,v = .slice s'.a s'.n s'.c ∧ ybF w' 1 yc8 s'.a s'.n (l.filter late) ∧ Mod (yaN a) w w':=by
 have hn:=h.1
 refine yLF ?_
 refine (yHW (S:=yaN a) (h.sl ydB) hl hD).mono ?_
 rintro _ w3 ⟨_,rfl,r,rfl,M3,hr⟩
 refine ⟨_,rfl,yaE (fun g => ?_) fun g => ?_⟩
 ·have g:r = -1:=eq_of_beq g
  rcases hr with ⟨_,hf⟩ | ⟨k,hk,_⟩
  ·refine ⟨⟨a,n,c⟩,rfl,?_,M3.less (by simp)⟩
   rw [hf]
   exact (h.keep0 M3).sl ydB
  ·omega
 have g:r ≠ -1:=by rintro rfl; simp at g
 obtain ⟨k0,rfl,hk0,hf0⟩:∃ k:Nat,r = k ∧ k < l.length ∧ (l.take (k + 1)).filter late = l.take k:=by
  rcases hr with ⟨h1,_⟩ | h1
  ·exact absurd h1 g
  ·exact h1
 refine yDu (fun mm x y w' => ∃ (i j:Nat) (l':List ByteArray),x = i ∧ y = j ∧ i < j ∧ j ≤ l.length ∧ Row w' B 9 1 yc8 a n c l' ∧ l'.length = l.length ∧ l'.take i = (l.take j).filter late ∧ l'.drop j = l.drop j ∧ Mod (yaN a) w w' ∧ mm = l.length - j) (l.length - (k0 + 1))
  ⟨k0,k0 + 1,l,rfl,by rw [yaI (by omega) (by omega)]; omega,by omega,by omega,h.keep0 M3,rfl,hf0.symm,rfl,M3.less (by simp),rfl⟩ ?_
 rintro mm x y w1 ⟨i,j,l',rfl,rfl,hij,hj,hR,hll,htk,hdr,M1,rfl⟩
 refine yaC (fun hlt => ?_) fun hge => ?_
 ·obtain ⟨s,hs⟩:∃ s,l[j]? = some s:=⟨_,List.getElem?_eq_getElem (by omega)⟩
  have hs':l'[j]? = some s:=by
   have h1:=List.getElem?_drop (xs:=l') (i:=j) (j:=0)
   have h2:=List.getElem?_drop (xs:=l) (i:=j) (j:=0)
   rw [hdr,h2] at h1
   simpa [hs] using h1.symm
  refine (hR.sl ydB).ix hs' fun q hq => yaL (by simpa [add_zero] using hq 0 _ rfl) ?_
  refine (hD w1 s M1 (List.mem_of_getElem? hs)).mono ?_
  rintro _ w11 ⟨rfl,M11⟩
  have N11:Mod (yaN a) w w11:=(M1.trans M11).less fun z hz _ => by simpa using hz
  have e1:IntKind.wrap .i64 ((i:Int) + 1) = ((i + 1:Nat):Int):=by rw [yaI (by omega) (by omega)]; omega
  have e2:IntKind.wrap .i64 ((j:Int) + 1) = ((j + 1:Nat):Int):=by rw [yaI (by omega) (by omega)]; omega
  rw [e1,e2]
  have hd1:l'.drop (j + 1) = l.drop (j + 1):=by
   have:=congrArg (List.drop 1) hdr
   rwa [List.drop_drop,List.drop_drop] at this
  refine ⟨_,rfl,yaE (fun g => ?_) fun g => ?_⟩
  ·have g:late s = true:=by simpa using g
   obtain ⟨u,hu⟩:∃ u,l'[i]? = some u:=⟨_,List.getElem?_eq_getElem (by omega)⟩
   refine Row.store (enc:=yc8) (y:=s) (hR.keep0 M11) ydB (by simp [yc8,yhH]) hu fun ad w16 had hR16 M16 => ?_
   have N16:Mod (yaN a) w w16:=(N11.trans M16).less fun z hz _ => by
    simp only [List.mem_append,List.mem_cons,List.not_mem_nil,or_false] at hz
    rcases hz with hz | rfl
    ·exact hz
    ·exact ycN a ad had
   refine yt0 (l.length - (j + 1)) (by omega) ⟨i + 1,j + 1,l'.set i s,rfl,rfl,by omega,by omega,hR16,by simpa using hll,?_,?_,N16,rfl⟩
   ·have hil:i < l'.length:=by omega
    rw [ybO (q:=s) (by rw [List.getElem?_set_self hil]),List.take_set_of_le (Nat.le_refl _),htk,ybO hs,List.filter_append]
    simp [g]
   ·rw [List.drop_set_of_lt (by omega),hd1]
  ·have g:late s = false:=by simpa using g
   refine yt0 (l.length - (j + 1)) (by omega) ⟨i,j + 1,l',rfl,rfl,by omega,by omega,hR.keep0 M11,hll,?_,hd1,N11,rfl⟩
   rw [htk,ybO hs,List.filter_append]
   simp [g]
 ·have hjl:j = l.length:=by omega
  subst hjl
  rw [List.take_length] at htk
  refine yDw (k:=i) hR (by omega) fun a' c' w' hs M => ?_
  rw [htk] at hs
  have hi:i = (l.filter late).length:=by
   have:=congrArg List.length htk
   rw [List.length_take] at this; omega
  rw [hi] at hs ⊢
  exact ⟨⟨a',_,c'⟩,rfl,hs,(M1.trans M).less fun z hz _ => by simpa using hz⟩
theorem ybF.keepMaps {α:Type} {w w':World} {sz:Nat} {enc:α → List Value} {a:Option Addr} {n:Nat} {l:List α} {S:List Nat} (h:ybF w sz enc a n l) (hz:∀ x,0 < (enc x).length) (M:Mod S w w') (hS:∀ k ∈ S,∃ es clock,w.heap[k]? = some (.map es clock)):ybF w' sz enc a n l:=by
 by_cases he:l = []
 ·subst he; exact ⟨h.1,fun i x hx => by simp at hx⟩
 ·refine h.keep M fun ad had hk => ?_
  obtain ⟨es,clock,hm⟩:=hS _ hk
  obtain ⟨x,hx⟩:∃ x,l[0]? = some x:=⟨_,List.getElem?_eq_getElem (List.length_pos_iff.2 he)⟩
  obtain ⟨ad',had',hc⟩:=h.2 0 x hx
  rw [had] at had'; cases had'
  obtain ⟨v,hv⟩:∃ v,(enc x)[0]? = some v:=⟨_,List.getElem?_eq_getElem (hz x)⟩
  have h1:=hc 0 v hv
  rw [add_zero,Nat.zero_mul,add_zero] at h1
  unfold World.cell? at h1
  rw [hm] at h1
  simp at h1
theorem yaS.nameSize {β:Type} {ev:β → Value} {w:World} {m:Nat} {L:List (ByteArray × β)} (h:yaS pP 9 hks ev w m L):∀ p ∈ L,p.1.size ≤ maxLen:=fun p hp => by
 obtain ⟨l,hl⟩:=h.keyedP p hp
 obtain ⟨x,h1,_,h3⟩:=Maps.keyOf_str Tryz.underlying9 hl
 have:hks p.1 = encStr x:=h1
 simp only [hks,encStr,Value.string.injEq] at this
 rw [this,show (⟨x.toArray⟩:ByteArray).size = x.length by simp [ByteArray.size]]
 exact h3
theorem yAw {κ β:Type} [DecidableEq κ] {L:List (κ × β)} {k:κ} (hn:(L.map (·.1)).Nodup):del L k = L.filter fun q => decide (q.1 ≠ k):=yGb hn
open Classical in
noncomputable def lessN {β:Type} (L:List (ByteArray × β)) (out:List ByteArray):List (ByteArray × β):=L.filter fun q => decide (q.1 ∉ out)
open Classical in
theorem yAx {β:Type} {L:List (ByteArray × β)} {out:List ByteArray} {k:Nat} {s:ByteArray} (hn:(L.map (·.1)).Nodup) (hs:out[k]? = some s):lessN L (out.take (k + 1)) = del (lessN L (out.take k)) s:=by
 have hn2:((lessN L (out.take k)).map (·.1)).Nodup:=hn.sublist (List.Sublist.map _ List.filter_sublist)
 rw [yAw hn2,lessN,lessN,List.filter_filter]
 refine List.filter_congr fun q _ => ?_
 rw [ybO hs,← Bool.decide_and]
 refine decide_eq_decide.2 ?_
 rw [List.mem_append,List.mem_singleton]
 constructor
 ·exact fun h => ⟨fun e => h (.inr e),fun e => h (.inl e)⟩
 ·rintro ⟨h1,h2⟩ (h | h)
  ·exact h2 h
  ·exact h1 h
def yfR (now:Int) (G:GL):Nat:=(G.filter fun q => yAu now q.2).length
def yn3 (now:Int) (G:GL):GL:=G.filter fun q => !yAu now q.2
open Classical in
set_option maxHeartbeats 2000000 in
theorem yAy {w:World} {b:Nat} {gen:Int} {robin:Bool} {G:GL} {F:List Nat} (h:ycP w b gen robin G F) (hl:G.length ≤ 1000000) (now:Int) :
  Calls pP 40 #[.pointer (some ⟨b,0,none⟩),.int .i64 now] w fun e w' => ∃ v,e = .returned v ∧ ∃ s':Sl,v = .slice s'.a s'.n s'.c ∧ s'.n = yfR now G ∧
   ∃ F',ycP w' b (if 0 < yfR now G then yn1 gen else gen) robin (yn3 now G) F' ∧ Mod F w w' ∧ ybG w F F':=by
 have hA:=h
 obtain ⟨m,L,hc,hm,hT,rfl,rfl⟩:=h
 have hmb:m ≠ b:=by rintro rfl; exact hm.notCells hc
 have lb:=yaH hc
 have lm:=hm.lt
 have hnd:=hm.nodup
 have hlen:(yaT L).length = L.length:=by simp [yaT]
 have hkeys:(yaT L).map (·.1) = L.map (·.1):=by unfold yaT; rw [List.map_map]; rfl
 refine yLr hc ?_
 intro b3 f3 b4 f4 b6 f6 w28 A28 h28 h28a h28b
 have l3:=A28.lt b3 (by simp)
 have l4:=A28.lt b4 (by simp)
 have l6:=A28.lt b6 (by simp)
 refine (yi4 (hA.keep0 A28.mod) hl).mono ?_
 rintro _ w29 ⟨_,rfl,s,rfl,hR29,M29⟩
 have N29:=A28.mod.go0 M29 (by simp)
 refine ⟨_,_,_,rfl,yaF.of0 M29,_,_,_,M29.keep0 h28,_,M29.keep0 h28a,_,M29.keep0 h28b,?_⟩
 intro w38 A38 h38 h38a h38b h38c
 have N38:=N29.go0 A38.mod (by simp)
 have hR38:=hR29.keep0 A38.mod
 have s28:=A28.mod.size
 have s29:=M29.size
 have s38:=A38.mod.size
 have hnew:=hR29.newS
 generalize hls:ycW ((yaT L).map (·.1)) = ls at hR38 hR29
 have hperm:ls.Perm (L.map (·.1)):=by rw [← hls,hkeys]; exact ybX _
 have hlsl:ls.length ≤ 1000000:=by have:=hperm.length_eq; simp at this; omega
 have hm38:=hm.keepM0 N38
 have nR:∀ z ∈ yaN s.a,w28.heap.size ≤ z:=hnew
 refine (yHY (late:=yqJ (yaT L) now) hR38 hlsl fun W x M hx => ?_).mono ?_
 ·have hsz:x.size ≤ maxLen:=by
   have:x ∈ L.map (·.1):=hperm.mem_iff.1 hx
   obtain ⟨p,hp,rfl⟩:=List.mem_map.1 this
   exact hm.nameSize p hp
  have kk:∀ {k:Nat} {o:Obj},k < w28.heap.size → w38.heap[k]? = some o → W.heap[k]? = some o:=fun hk ho => M.keep ho fun hz => by have:=nR _ hz; omega
  refine yAt (by rw [yaM (kk l6 h38c)]; rfl) ?_
  exact yAv (kk (by omega) h38) (hm38.keepM M fun hz => by have:=nR _ hz; omega) (kk l3 h38a) (kk l4 h38b) hsz
 rintro _ w39 ⟨_,rfl,s',rfl,hO39,M39⟩
 have kk:∀ {k:Nat} {o:Obj},k < w28.heap.size → w38.heap[k]? = some o → w39.heap[k]? = some o:=fun hk ho => M39.keep ho fun hz => by have:=nR _ hz; omega
 have N39:Mod [] w w39:=N38.go0 M39 fun z hz => by have:=nR z hz; omega
 have s39:=M39.size
 refine ⟨_,_,_,rfl,_,_,_,kk (by omega) h38,_,kk l3 h38a,_,kk l4 h38b,_,kk l6 h38c,?_⟩
 generalize hout:ls.filter (yqJ (yaT L) now) = out at hO39
 have hon:=hO39.1
 have hmemout:∀ q ∈ L,(q.1 ∈ out ↔ yAu now q.2.x = true):=fun q hq => by
  rw [← hout,List.mem_filter]
  have h1:q.1 ∈ ls:=hperm.mem_iff.2 (List.mem_map.2 ⟨q,hq,rfl⟩)
  have h2:yqJ (yaT L) now q.1 = yAu now q.2.x:=by rw [yqJ,yeA,yc0 hnd hq]; rfl
  rw [h2]
  exact ⟨fun h => h.2,fun h => ⟨h1,h⟩⟩
 have houtl:out.length = yfR now (yaT L):=by
  have h1:out.Perm ((L.map (·.1)).filter (yqJ (yaT L) now)):=by rw [← hout]; exact hperm.filter _
  rw [h1.length_eq,yfR,yaT,List.filter_map,List.filter_map,List.length_map,List.length_map]
  congr 1
  refine List.filter_congr fun q hq => ?_
  simp only [Function.comp_apply]
  rw [show (List.map (fun q:ByteArray × SeatV => (q.1,q.2.x)) L) = yaT L from rfl,yqJ,yeA,yc0 hnd hq]; rfl
 have hstay:yaT (lessN L out) = yn3 now (yaT L):=by
  unfold yn3 yaT lessN
  rw [List.filter_map]
  congr 1
  refine List.filter_congr fun q hq => ?_
  have:=hmemout q hq
  cases hh:yAu now q.2.x <;> simp_all
 have hm39:=hm.keepM0 N39
 have houl:out.length ≤ 1000000:=by have:=List.length_filter_le (yqJ (yaT L) now) ls; rw [hout] at this; omega
 refine yDk (fun mm x w' => ∃ k:Nat,x = k ∧ k ≤ out.length ∧ yaS pP 9 hks SeatV.v w' m (lessN L (out.take k)) ∧ ybF w' 1 yc8 s'.a s'.n out ∧ Mod [m] w w' ∧ mm = out.length - k) out.length
  ⟨0,rfl,by omega,by rw [show lessN L (out.take 0) = L from List.filter_eq_self.2 (by simp)]; exact hm39,hO39,N39.less (by simp),rfl⟩ ?_
 rintro mm x w1 ⟨k,rfl,hk,hm1,hO1,N1,rfl⟩
 intro g0 g1 g2 g3
 have s1:=N1.size
 refine yaC (fun hlt => ?_) fun hge => ?_
 ·obtain ⟨nm,hnm⟩:∃ s,out[k]? = some s:=⟨_,List.getElem?_eq_getElem (by omega)⟩
  refine hO1.ix hnm fun q hq => yaL (by simpa [add_zero] using hq 0 _ rfl) ?_
  refine ya6 ?_
  refine yb2 (x:=some m) (by rw [ycC,yaM g0]; rfl) ?_
  have hsz:nm.size ≤ maxLen:=by
   have h1:nm ∈ out:=List.mem_of_getElem? hnm
   rw [← hout] at h1
   obtain ⟨p,hp,rfl⟩:=List.mem_map.1 (hperm.mem_iff.1 (List.mem_filter.1 h1).1)
   exact hm.nameSize p hp
  obtain ⟨o,ho1,ho2⟩:=hm1.delete ydT ybH Tryz.underlying188 (ybK hsz) 0
  refine ⟨_,_,ho1,yaF.of yeK (by simp; refine ⟨fun _ e => hmb e.symm,fun _ => ?_,fun _ => ?_,fun _ => ?_⟩ <;> omega),?_⟩
  rw [← yAx hnd hnm] at ho2
  obtain ⟨es,clock,hes,_⟩:=id hm1
  exact yDj (out.length - (k + 1)) (by omega) ⟨k + 1,by rw [yaI (by omega) (by omega)]; omega,by omega,ho2,hO1.keepMaps (by simp [yc8]) yeK (by simp; exact ⟨es,clock,hes⟩),(N1.trans yeK).less (by simp),rfl⟩
 ·have hkk:k = out.length:=by omega
  subst hkk
  rw [List.take_length] at hm1
  have sub:∀ q ∈ lessN L out,q ∈ L:=fun q hq => (List.mem_filter.1 hq).1
  have fin:∀ {w':World} {gen':Int},w'.heap[b]? = some (.cells #[.int .i64 gen',.bool robin,.map (some m)] 190) → Mod [b] w1 w' → ∃ F',ycP w' b gen' robin (yn3 now (yaT L)) F' ∧ Mod (b :: m :: L.flatMap fun q => yaN q.2.ts.a) w w' ∧ ybG w (b :: m :: L.flatMap fun q => yaN q.2.ts.a) F':=fun {w' gen'} hc' M' => by
   have N':Mod [m,b] w w':=(N1.trans M').less (by simp)
   rw [← hstay]
   refine ⟨_,⟨m,lessN L out,hc',hm1.keepM M' (by simpa using hmb),fun q hq => ?_,rfl,rfl⟩,N'.less (fun z hz _ => by simp at hz ⊢; omega),fun z hz => .inl ?_⟩
   ·refine yaA (hT q (sub q hq)) N' fun z hz hz' => ?_
    simp at hz
    rcases hz with rfl | rfl
    ·obtain ⟨_,_,cur,hcur⟩:=yaP (hT q (sub q hq)) z hz'
     exact hm.notCells hcur
    ·exact yc5 (hT q (sub q hq)) hc (by decide) hz'
   ·simp only [List.mem_cons,List.mem_flatMap] at hz ⊢
    rcases hz with h1 | h1 | ⟨q,hq,h1⟩
    ·exact .inl h1
    ·exact .inr (.inl h1)
    ·exact .inr (.inr ⟨q,sub q hq,h1⟩)
  refine yaC (fun g => ?_) fun g => ?_
  ·refine (yyV g0).mono ?_
   rintro _ w68 ⟨rfl,h68,M68⟩
   have ne3:b3 ≠ b:=by omega
   have ne4:b4 ≠ b:=by omega
   have ne6:b6 ≠ b:=by omega
   refine ⟨rfl,_,_,_,h68,_,M68.keep g1 (by simpa using ne3),_,M68.keep g2 (by simpa using ne4),_,M68.keep g3 (by simpa using ne6),?_⟩
   refine ⟨s',rfl,by omega,?_⟩
   rw [if_pos (by omega)]
   exact fin h68 M68
  ·refine ⟨s',rfl,by omega,?_⟩
   rw [if_neg (by omega)]
   exact fin g0 ((Mod.refl w1).less (by simp))
end Go.Proofs.YteldhjiiocmicaaGreat
namespace Go.Proofs.YteldhjiiocmicaaGreat
open Go Go.RowKit
set_option linter.all false
section
set_option maxRecDepth 100000
variable {R:VWP} {w w0:World} {m:Nat} {i0 i1 i2 i3 i4 i5 i6 i7 i8 i9 j0 j1 j2 j3 j4 j5 j6 j7 j8 j9 k0 k1 k2 k3 k4 k5 k6 k7 k8 k9 l0 l1 l2 l3 l4 l5 l6 l7 l8 l9:Int} {s0 s1 s2 s3 s4 s5 s6 s7 s8 s9 t0 t1 t2 t3 t4 t5 t6 t7 t8 t9:BA} {n0 n1 n2 n3 n4 n5 n6 n7 n8 n9 o0 o1 o2 o3 o4 o5 o6 o7 o8 o9 p0 p1 p2 p3 p4 p5 p6 p7 p8 p9:Nat} {q0 q1 q2 q3 q4 q5 q6 q7 q8 q9 r0 r1 r2 r3 r4 r5 r6 r7 r8 r9:OA} {B0 B1 B2 B3 B4 B5 B6 B7 B8 B9:Bool} {M0 M1 M2 M3:Option Nat} {V0 V1 V2 V3 V4 V5:Value} {A0 A1 A2:Addr}
def ywL:LA:=⟨[0,0,1,0,1,1,1],[1,7],[],0,[]⟩
def yyZ:List LA:=[ywL]
abbrev yLH:=dnF pP yyZ (code Tryz.f145)
abbrev yNI:=yaR pP yyZ (code Tryz.f145)
abbrev yLI (p:List Nat) (K:List Kh) (R:VWP):=yaR pP yyZ (code Tryz.f145) p K (ybE pP Tryz.f145 [] R)
def yo7 (a0:OA) (a2 a1:Nat):Int → List Value × List TB:=fun a3 => ([.slice a0 a2 a1,.int .i64 a3],[])
abbrev yGt (a0:OA) (a2 a1:Nat) (I:Nat → Int → World → Prop) (m:Nat):Kh:=KG (yo7 a0 a2 a1) (U1 I) m
theorem yDx {I:Nat → Int → World → Prop} (m':Nat) (h1:m' < m) (h2:I m' i0 w):KS (yGt q0 n0 n1 I m) (yo7 q0 n0 n1 i0) w:=⟨m',h1,_,rfl,rfl,h2⟩
theorem yDy {a2:OA} (I:Nat → Int → World → Prop) (m0:Nat) (h0:I m0 i0 w0)
 (hr:∀ m a1 w,I m a1 w →
 brB (decide (a1 < (n0:Int))) (
 ixA a2 n0 a1 2 fun q7 =>
 ya7 w q7 fun s8 =>
 ixA a2 n0 (IntKind.wrap .i64 (a1 - 1)) 2 fun q9 =>
 ya7 w q9 fun a5 =>
 brB ((Op.bytesLess s8.toList a5.toList) || (s8.toList == a5.toList)) (
 ∀ a6,Adv [] [] w a6 →
 R (.int .i64 100) a6)
 (
 ∀ a7,Adv [] [] w a7 →
 KS (yGt a2 n0 n1 I m) (yo7 a2 n0 n1 (IntKind.wrap .i64 (a1 + 1))) a7))
 (
 R (.int .i64 0) w)) :
 yaO ywL (yLH 395 [0,0,1,0,1,1,1]) (yLI [1,1,1,0,1,0] [] R) (yo7 a2 n0 n1 i0) w0 :=
 lrule (yo7 a2 n0 n1) (U1 I) h0 (by rintro m a1 w h; exact ⟨by kernel_rfl,by kernel_rfl,fun js => Eq.mpr (by kernel_rfl) (hr m a1 w h)⟩)
theorem yLJ {a3 a2:Nat} {a0 a5:Nat} (h :
 Calls pP 58 #[.slice q0 a3 a2] w fun e w4 => ∃ p5 x6,e = .returned (.tuple #[.pointer p5,.int .i64 x6]) ∧
 brB (x6 != 0) (
 R (.int .i64 x6) w4)
 (
 brB (decide ((a0:Int) > 8)) (
 R (.int .i64 2) w4)
 (
 yaO ywL (yLH 395 [0,0,1,0,1,1,1]) (yLI [1,1,1,0,1,0] [] R) (yo7 q1 a0 a5 1) w4))) :
 CR pP 145 #[.slice q0 a3 a2,.slice q1 a0 a5] w R :=
 yaB Tryz.wide_mixed (an:=yyZ) Tryz.func145 rfl rfl (by kernel_rfl) rfl (Eq.mpr (by kernel_rfl) h)
theorem yLK {a4:BA} {a3:BA} (h :
 ∀ b2,w.heap.size ≤ b2 →
 ∀ w6,Adv [] [b2] w w6 →
 Calls pP 133 #[.slice q0 n0 n1,.string a3] w6 fun e w7 => ∃ t8,e = .returned (.bool t8) ∧ yaF [b2] w6 w7 ∧
 R (.bool t8) w7) :
 CR pP 146 #[(.agg #[.string a4,.slice q0 n0 n1]),.string a3] w R :=
 yaB Tryz.wide_mixed (an:=[]) Tryz.func146 rfl rfl (by kernel_rfl) rfl (Eq.mpr (by kernel_rfl) h)
def ywM:LA:=⟨[0,0,1,0,1,1,1],[1,7,25,26,27],[],0,[]⟩
def ywN:LA:=⟨[0,0,1,0,1,1,0,0,1,1,0,0,1,0,1,1,1],[1,7,9,10,25,26,27,32,33],[(9,0,0)],1,[]⟩
def ywO:LA:=⟨[0,0,1,1,1,1,1,0,0,1,1,0,0,1,0,1,1,1],[1,7,9,10,12,25,26,27,48,49,50],[(9,0,0)],1,[]⟩
def yqK:LA:=⟨[0,0,1,1,1,1,0,0,1,1,0,0,1,1,1,1,1,0,0,1,1,0,0,1,0,1,1,1],[1,7,9,10,12,14,25,26,27,48,49,50,69,70],[(9,0,0)],1,[]⟩
def yy0:List LA:=[ywM,ywN,ywO,yqK]
abbrev yqL:=dnF pP yy0 (code Tryz.f110)
abbrev yNJ:=yaR pP yy0 (code Tryz.f110)
abbrev yqM (p:List Nat) (K:List Kh) (R:VWP):=yaR pP yy0 (code Tryz.f110) p K (ybE pP Tryz.f110 [] R)
def yo8 (a5:OA) (a9 a7:Nat) (a6:OA) (b0 a8:Nat) (a0:OA) (a2 a1:Nat) (a3:Int):Int → List Value × List TB:=fun a4 => ([.slice a5 a9 a7,.slice a6 b0 a8,.slice a0 a2 a1,.int .i64 a3,.int .i64 a4],[])
def ym5 (b2:OA) (b6 b4:Nat) (b3:OA) (b7 b5:Nat) (a3:OA) (a7 a5:Nat) (a8 a9 b0:Int) (bm0:Nat) (a0:BA) (a1:Int):(Option Addr) × Nat × Nat × Int → List Value × List TB:=fun (a2,a6,a4,b1) => ([.slice b2 b6 b4,.slice b3 b7 b5,(.pointer (some ⟨bm0,0,none⟩)),.slice a2 a6 a4,.slice a3 a7 a5,.int .i64 a8,.int .i64 a9,.int .i64 b0,.int .i64 b1],[⟨bm0,226,[.string a0,.int .i64 a1],false⟩])
def yo9 (b6:OA) (c0 b8:Nat) (b7:OA) (c1 b9:Nat) (a2:OA) (a8 a5:Nat) (a3:OA) (a9 a6:Nat) (b2 b3:Int) (a4:OA) (b0 a7:Nat) (b4:Int) (bm0:Nat) (a0:BA) (a1:Int):Int × Int → List Value × List TB:=fun (b1,b5) => ([.slice b6 c0 b8,.slice b7 c1 b9,(.pointer (some ⟨bm0,0,none⟩)),.slice a2 a8 a5,.int .i64 b1,.slice a3 a9 a6,.int .i64 b2,.int .i64 b3,.slice a4 b0 a7,.int .i64 b4,.int .i64 b5],[⟨bm0,226,[.string a0,.int .i64 a1],false⟩])
def ym6 (b9:OA) (c3 c1:Nat) (c0:OA) (c4 c2:Nat) (a2:OA) (a8 a5:Nat) (b2:Int) (a3:OA) (a9 a6:Nat) (b3 b4:Int) (a4:OA) (b0 a7:Nat) (b5 b6 b7:Int) (bm0:Nat) (a0:BA) (a1:Int):Int × Int → List Value × List TB:=fun (b1,b8) => ([.slice b9 c3 c1,.slice c0 c4 c2,(.pointer (some ⟨bm0,0,none⟩)),.slice a2 a8 a5,.int .i64 b1,.int .i64 b2,.slice a3 a9 a6,.int .i64 b3,.int .i64 b4,.slice a4 b0 a7,.int .i64 b5,.int .i64 b6,.int .i64 b7,.int .i64 b8],[⟨bm0,226,[.string a0,.int .i64 a1],false⟩])
abbrev yGu (a4:OA) (a8 a6:Nat) (a5:OA) (a9 a7:Nat) (a0:OA) (a2 a1:Nat) (a3:Int) (I:Nat → Int → World → Prop) (m:Nat):Kh:=KG (yo8 a4 a8 a6 a5 a9 a7 a0 a2 a1 a3) (U1 I) m
theorem yDz {I:Nat → Int → World → Prop} (m':Nat) (h1:m' < m) (h2:I m' i1 w):KS (yGu q0 n0 n1 q1 n2 n3 q2 n4 n5 i0 I m) (yo8 q0 n0 n1 q1 n2 n3 q2 n4 n5 i0 i1) w:=⟨m',h1,_,rfl,rfl,h2⟩
theorem yDA (I:Nat → Int → World → Prop) (m0:Nat) (h0:I m0 i1 w0)
 (hr:∀ m a0 w,I m a0 w →
 brB (decide (a0 < i0)) (
 ixA q2 n4 a0 2 fun b3 =>
 ya7 w b3 fun b5 => ya1 .i64 w (Addr.add b3 1) fun b6 =>
 ∀ b2,w.heap.size ≤ b2 →
 ∀ b4,Adv [] [b2] w b4 →
 yaO ywN (yqL 389 [0,0,1,0,1,1,0,0,1,1,0,0,1,0,1,1,1]) (yqM [1,1,1,0,1,0,0,1,1,0,0,1,1,0,1,0] [(yGu q0 n0 n1 q1 n2 n3 q2 n4 n5 i0 I m)] R) (ym5 q0 n0 n1 q1 n2 n3 q2 n4 n5 i0 a0 (n0:Int) b2 b5 b6 (none,0,0,0)) b4)
 (
 R (.tuple #[.slice q1 n2 n3,.int .i64 0]) w)) :
 yaO ywM (yqL 395 [0,0,1,0,1,1,1]) (yqM [1,1,1,0,1,0] [] R) (yo8 q0 n0 n1 q1 n2 n3 q2 n4 n5 i0 i1) w0 :=
 lrule (yo8 q0 n0 n1 q1 n2 n3 q2 n4 n5 i0) (U1 I) h0 (by rintro m a0 w h; exact ⟨by kernel_rfl,by kernel_rfl,fun js => Eq.mpr (by kernel_rfl) (hr m a0 w h)⟩)
abbrev yDB (a8:OA) (b2 b0:Nat) (a9:OA) (b3 b1:Nat) (a2:OA) (a4 a3:Nat) (a5 a6 a7:Int) (bm0:Nat) (a0:BA) (a1:Int) (I:Nat → Option Addr → Nat → Nat → Int → World → Prop) (m:Nat):Kh:=KG (ym5 a8 b2 b0 a9 b3 b1 a2 a4 a3 a5 a6 a7 bm0 a0 a1) (U4 I) m
theorem yt2 {I:Nat → Option Addr → Nat → Nat → Int → World → Prop} (m':Nat) (h1:m' < m) (h2:I m' q3 n7 n8 i4 w):KS (yDB q0 n0 n1 q1 n2 n3 q2 n4 n5 i0 i1 i2 n6 s0 i3 I m) (ym5 q0 n0 n1 q1 n2 n3 q2 n4 n5 i0 i1 i2 n6 s0 i3 (q3,n7,n8,i4)) w:=⟨m',h1,_,rfl,rfl,h2⟩
theorem yDC {K1:Kh} (I:Nat → Option Addr → Nat → Nat → Int → World → Prop) (m0:Nat) (h0:I m0 q3 n7 n8 i4 w0)
 (hr:∀ m a4 a2 a6 a3 w,I m a4 a2 a6 a3 w →
 brB (decide (a3 < i2)) (
 ixA q0 n0 a3 2 fun c4 =>
 ∀ b8,Adv [] [] w b8 →
 ya7 b8 c4 fun d5 => ya2 b8 (Addr.add c4 1) fun c8 d3 d1 =>
 Calls pP 146 #[(.agg #[.string d5,.slice c8 d3 d1]),.string s0] b8 fun e c3 => ∃ c5,e = .returned (.bool c5) ∧ yaF [n6] b8 c3 ∧
 brB c5 (
 al c3 (.cells #[.int .i64 a3] 3) fun d0 c6 =>
 ybC pP (Builtin.append_ #[22,22] 22 #[.slice a4 a2 a6,(.slice (some ⟨d0,0,none⟩) 1 1)]) c6 fun c9 d4 d2 c7 => yaF [n6] c6 c7 ∧
 KS (yDB q0 n0 n1 q1 n2 n3 q2 n4 n5 i0 i1 i2 n6 s0 i3 I m) (ym5 q0 n0 n1 q1 n2 n3 q2 n4 n5 i0 i1 i2 n6 s0 i3 (c9,d4,d2,(IntKind.wrap .i64 (a3 + 1)))) c7)
 (
 KS (yDB q0 n0 n1 q1 n2 n3 q2 n4 n5 i0 i1 i2 n6 s0 i3 I m) (ym5 q0 n0 n1 q1 n2 n3 q2 n4 n5 i0 i1 i2 n6 s0 i3 (a4,a2,a6,(IntKind.wrap .i64 (a3 + 1)))) c3))
 (
 yaO ywO (yqL 387 [0,0,1,1,1,1,1,0,0,1,1,0,0,1,0,1,1,1]) (yqM [1,1,1,0,1,0,0,1,1,0,0,1,1,1,1,1,0] [K1] R) (yo9 q0 n0 n1 q1 n2 n3 a4 a2 a6 q2 n4 n5 i0 i1 a4 a2 a6 (a2:Int) n6 s0 i3 (0,0)) w)) :
 yaO ywN (yqL 389 [0,0,1,0,1,1,0,0,1,1,0,0,1,0,1,1,1]) (yqM [1,1,1,0,1,0,0,1,1,0,0,1,1,0,1,0] [K1] R) (ym5 q0 n0 n1 q1 n2 n3 q2 n4 n5 i0 i1 i2 n6 s0 i3 (q3,n7,n8,i4)) w0 :=
 lrule (ym5 q0 n0 n1 q1 n2 n3 q2 n4 n5 i0 i1 i2 n6 s0 i3) (U4 I) h0 (by rintro m ⟨a4,a2,a6,a3⟩ w h; exact ⟨by kernel_rfl,by kernel_rfl,fun js => Eq.mpr (by kernel_rfl) (hr m a4 a2 a6 a3 w h)⟩)
abbrev yDD (b4:OA) (b8 b6:Nat) (b5:OA) (b9 b7:Nat) (a2:OA) (a8 a5:Nat) (a3:OA) (a9 a6:Nat) (b1 b2:Int) (a4:OA) (b0 a7:Nat) (b3:Int) (bm0:Nat) (a0:BA) (a1:Int) (I:Nat → Int → Int → World → Prop) (m:Nat):Kh:=KG (yo9 b4 b8 b6 b5 b9 b7 a2 a8 a5 a3 a9 a6 b1 b2 a4 b0 a7 b3 bm0 a0 a1) (U2 I) m
theorem yt3 {I:Nat → Int → Int → World → Prop} (m':Nat) (h1:m' < m) (h2:I m' i4 i5 w):KS (yDD q0 n0 n1 q1 n2 n3 q2 n4 n5 q3 n6 n7 i0 i1 q4 n8 n9 i2 o0 s0 i3 I m) (yo9 q0 n0 n1 q1 n2 n3 q2 n4 n5 q3 n6 n7 i0 i1 q4 n8 n9 i2 o0 s0 i3 (i4,i5)) w:=⟨m',h1,_,rfl,rfl,h2⟩
theorem yDE {K1:Kh} (I:Nat → Int → Int → World → Prop) (m0:Nat) (h0:I m0 i4 i5 w0)
 (hr:∀ m c1 a3 w,I m c1 a3 w →
 brB (decide (a3 < i2)) (
 ixA q4 n8 a3 1 fun c5 =>
 ya1 .i64 w c5 fun c4 => nz (n4:Int) (nz (n4:Int) (
 brB (decide (a3 < (Int.tmod i3 (n4:Int)))) (
 yaO yqK (yqL 380 [0,0,1,1,1,1,0,0,1,1,0,0,1,1,1,1,1,0,0,1,1,0,0,1,0,1,1,1]) (yqM [1,1,1,0,1,0,0,1,1,0,0,1,1,1,1,1,0,0,1,1,0,0,1,1,1,1,0] [K1,(yDD q0 n0 n1 q1 n2 n3 q2 n4 n5 q3 n6 n7 i0 i1 q4 n8 n9 i2 o0 s0 i3 I m)] R) (ym6 q0 n0 n1 q1 n2 n3 q2 n4 n5 c4 q3 n6 n7 i0 i1 q4 n8 n9 i2 a3 (IntKind.wrap .i64 ((IntKind.wrap .i64 (Int.tdiv i3 (n4:Int))) + 1)) o0 s0 i3 (c1,0)) w)
 (
 yaO yqK (yqL 380 [0,0,1,1,1,1,0,0,1,1,0,0,1,1,1,1,1,0,0,1,1,0,0,1,0,1,1,1]) (yqM [1,1,1,0,1,0,0,1,1,0,0,1,1,1,1,1,0,0,1,1,0,0,1,1,1,1,0] [K1,(yDD q0 n0 n1 q1 n2 n3 q2 n4 n5 q3 n6 n7 i0 i1 q4 n8 n9 i2 o0 s0 i3 I m)] R) (ym6 q0 n0 n1 q1 n2 n3 q2 n4 n5 c4 q3 n6 n7 i0 i1 q4 n8 n9 i2 a3 (IntKind.wrap .i64 (Int.tdiv i3 (n4:Int))) o0 s0 i3 (c1,0)) w))))
 (
 KS K1 (yo8 q0 n0 n1 q1 n2 n3 q3 n6 n7 i0 (IntKind.wrap .i64 (i1 + 1))) w)) :
 yaO ywO (yqL 387 [0,0,1,1,1,1,1,0,0,1,1,0,0,1,0,1,1,1]) (yqM [1,1,1,0,1,0,0,1,1,0,0,1,1,1,1,1,0] [K1] R) (yo9 q0 n0 n1 q1 n2 n3 q2 n4 n5 q3 n6 n7 i0 i1 q4 n8 n9 i2 o0 s0 i3 (i4,i5)) w0 :=
 lrule (yo9 q0 n0 n1 q1 n2 n3 q2 n4 n5 q3 n6 n7 i0 i1 q4 n8 n9 i2 o0 s0 i3) (U2 I) h0 (by rintro m ⟨c1,a3⟩ w h; exact ⟨by kernel_rfl,by kernel_rfl,fun js => Eq.mpr (by kernel_rfl) (hr m c1 a3 w h)⟩)
abbrev yGv (b7:OA) (c1 b9:Nat) (b8:OA) (c2 c0:Nat) (a2:OA) (a8 a5:Nat) (b1:Int) (a3:OA) (a9 a6:Nat) (b2 b3:Int) (a4:OA) (b0 a7:Nat) (b4 b5 b6:Int) (bm0:Nat) (a0:BA) (a1:Int) (I:Nat → Int → Int → World → Prop) (m:Nat):Kh:=KG (ym6 b7 c1 b9 b8 c2 c0 a2 a8 a5 b1 a3 a9 a6 b2 b3 a4 b0 a7 b4 b5 b6 bm0 a0 a1) (U2 I) m
theorem yt4 {I:Nat → Int → Int → World → Prop} (m':Nat) (h1:m' < m) (h2:I m' i7 i8 w):KS (yGv q0 n0 n1 q1 n2 n3 q2 n4 n5 i0 q3 n6 n7 i1 i2 q4 n8 n9 i3 i4 i5 o0 s0 i6 I m) (ym6 q0 n0 n1 q1 n2 n3 q2 n4 n5 i0 q3 n6 n7 i1 i2 q4 n8 n9 i3 i4 i5 o0 s0 i6 (i7,i8)) w:=⟨m',h1,_,rfl,rfl,h2⟩
theorem yt5 {K1 K3:Kh} (I:Nat → Int → Int → World → Prop) (m0:Nat) (h0:I m0 i7 i8 w0)
 (hr:∀ m a2 c0 w,I m a2 c0 w →
 brB (decide (c0 < i5)) (
 ixA q1 n2 i0 1 fun d8 =>
 ∀ c7,Adv [] [] w c7 →
 ya2 c7 d8 fun d1 d6 d4 =>
 al c7 (.cells #[.string s0,.int .i64 a2] 33) fun d3 c9 =>
 ybC pP (Builtin.append_ #[28,28] 28 #[.slice d1 d6 d4,(.slice (some ⟨d3,0,none⟩) 1 1)]) c9 fun d2 d7 d5 c8 => yaF [o0] c9 c8 ∧
 ixA q1 n2 i0 1 fun d9 =>
 st c8 d9 [.slice d2 d7 d5] fun d0 => yaF [o0] c8 d0 ∧
 KS (yGv q0 n0 n1 q1 n2 n3 q2 n4 n5 i0 q3 n6 n7 i1 i2 q4 n8 n9 i3 i4 i5 o0 s0 i6 I m) (ym6 q0 n0 n1 q1 n2 n3 q2 n4 n5 i0 q3 n6 n7 i1 i2 q4 n8 n9 i3 i4 i5 o0 s0 i6 ((IntKind.wrap .i64 (a2 + 1)),(IntKind.wrap .i64 (c0 + 1)))) d0)
 (
 KS K3 (yo9 q0 n0 n1 q1 n2 n3 q2 n4 n5 q3 n6 n7 i1 i2 q4 n8 n9 i3 o0 s0 i6 (a2,(IntKind.wrap .i64 (i4 + 1)))) w)) :
 yaO yqK (yqL 380 [0,0,1,1,1,1,0,0,1,1,0,0,1,1,1,1,1,0,0,1,1,0,0,1,0,1,1,1]) (yqM [1,1,1,0,1,0,0,1,1,0,0,1,1,1,1,1,0,0,1,1,0,0,1,1,1,1,0] [K1,K3] R) (ym6 q0 n0 n1 q1 n2 n3 q2 n4 n5 i0 q3 n6 n7 i1 i2 q4 n8 n9 i3 i4 i5 o0 s0 i6 (i7,i8)) w0 :=
 lrule (ym6 q0 n0 n1 q1 n2 n3 q2 n4 n5 i0 q3 n6 n7 i1 i2 q4 n8 n9 i3 i4 i5 o0 s0 i6) (U2 I) h0 (by rintro m ⟨a2,c0⟩ w h; exact ⟨by kernel_rfl,by kernel_rfl,fun js => Eq.mpr (by kernel_rfl) (hr m a2 c0 w h)⟩)
theorem yLL (h :
 Calls pP 145 #[.slice q0 n0 n1,.slice q1 n2 n3] w fun e w3 => ∃ x4,e = .returned (.int .i64 x4) ∧
 brB (x4 != 0) (
 R (.tuple #[.slice none 0 0,.int .i64 x4]) w3)
 (
 ybC pP (Instr.makeSlice 219 (.int .i64 (n2:Int)) (.int .i64 (n2:Int))) w3 fun a9 a7 a6 a8 =>
 yaO ywM (yqL 395 [0,0,1,0,1,1,1]) (yqM [1,1,1,0,1,0] [] R) (yo8 q1 n2 n3 a9 a7 a6 q0 n0 n1 (n0:Int) 0) a8)) :
 CR pP 110 #[.slice q0 n0 n1,.slice q1 n2 n3] w R :=
 yaB Tryz.wide_mixed (an:=yy0) Tryz.func110 rfl rfl (by kernel_rfl) rfl (Eq.mpr (by kernel_rfl) h)
def ywP:LA:=⟨[0,0,1,0,1,1,1,1,1],[7,8,9,24,25,26],[(8,1,0)],2,[0,1]⟩
def ywQ:LA:=⟨[0,0,1,1,0,0,1,1,0,0,1,0,1,1,1,1,1],[7,8,9,11,24,25,26,31,32],[(8,1,0),(11,2,0)],3,[0,1]⟩
def yy1:List LA:=[ywP,ywQ]
abbrev yFq:=dnF pP yy1 (code Tryz.f111)
abbrev yNK:=yaR pP yy1 (code Tryz.f111)
abbrev yFr (p:List Nat) (K:List Kh) (R:VWP):=yaR pP yy1 (code Tryz.f111) p K (ybE pP Tryz.f111 [] R)
def ym7 (b1:OA) (b3 b2 a4 a5:Nat) (a6:OA) (a8 a7:Nat) (a9:Int) (bm0 bm1:Nat):Int × (Option Addr) × Nat × Nat × Int → List Value × List TB:=fun (b0,a0,a2,a1,a3) => ([.slice b1 b3 b2,(.pointer (some ⟨bm1,0,none⟩)),(.func (.func 147) #[] #[(.pointer (some ⟨a4,0,none⟩)),(.pointer (some ⟨a5,0,none⟩))]),.slice a6 a8 a7,.int .i64 a9,.int .i64 b0],[⟨bm0,217,[.slice a0 a2 a1],true⟩,⟨bm1,3,[.int .i64 a3],true⟩])
def ym8 (b5:OA) (b7 b6 a6 a7:Nat) (a8:OA) (b0 a9:Nat) (b1 b2 b3:Int) (bm0 bm1 bm2:Nat) (a3:BA) (a5:Int):Int × (Option Addr) × Nat × Nat × Int → List Value × List TB:=fun (b4,a0,a2,a1,a4) => ([.slice b5 b7 b6,(.pointer (some ⟨bm1,0,none⟩)),(.func (.func 147) #[] #[(.pointer (some ⟨a6,0,none⟩)),(.pointer (some ⟨a7,0,none⟩))]),(.pointer (some ⟨bm2,0,none⟩)),.slice a8 b0 a9,.int .i64 b1,.int .i64 b2,.int .i64 b3,.int .i64 b4],[⟨bm0,217,[.slice a0 a2 a1],true⟩,⟨bm1,3,[.int .i64 a4],true⟩,⟨bm2,226,[.string a3,.int .i64 a5],false⟩])
abbrev yGw (a6:OA) (a8 a7 a0 a1:Nat) (a2:OA) (a4 a3:Nat) (a5:Int) (bm0 bm1:Nat) (I:Nat → Int → Option Addr → Nat → Nat → Int → World → Prop) (m:Nat):Kh:=KG (ym7 a6 a8 a7 a0 a1 a2 a4 a3 a5 bm0 bm1) (U5 I) m
theorem yt6 {I:Nat → Int → Option Addr → Nat → Nat → Int → World → Prop} (m':Nat) (h1:m' < m) (h2:I m' i1 q2 n8 n9 i2 w):KS (yGw q0 n0 n1 n2 n3 q1 n4 n5 i0 n6 n7 I m) (ym7 q0 n0 n1 n2 n3 q1 n4 n5 i0 n6 n7 (i1,q2,n8,n9,i2)) w:=⟨m',h1,_,rfl,rfl,h2⟩
theorem yDF (I:Nat → Int → Option Addr → Nat → Nat → Int → World → Prop) (m0:Nat) (h0:I m0 i1 q2 n8 n9 i2 w0)
 (hr:∀ m a4 a0 a2 a1 a3 w,I m a4 a0 a2 a1 a3 w →
 w.heap[n6]? = some (.cells #[.slice a0 a2 a1] 217) →
 w.heap[n7]? = some (.cells #[.int .i64 a3] 3) →
 brB (decide (a4 < i0)) (
 ixA q1 n4 a4 2 fun c1 =>
 ya7 w c1 fun c3 => ya1 .i64 w (Addr.add c1 1) fun c2 =>
 ∀ c0,w.heap.size ≤ c0 →
 ∀ b8,Adv [] [c0] w b8 → b8.heap[n6]? = some (.cells #[.slice a0 a2 a1] 217) →
 b8.heap[n7]? = some (.cells #[.int .i64 a3] 3) →
 yaO ywQ (yFq 388 [0,0,1,1,0,0,1,1,0,0,1,0,1,1,1,1,1]) (yFr [1,1,1,1,1,0,1,0,0,1,1,0,0,1,1,0] [(yGw q0 n0 n1 n2 n3 q1 n4 n5 i0 n6 n7 I m)] R) (ym8 q0 n0 n1 n2 n3 q1 n4 n5 i0 a4 c2 n6 n7 c0 c3 c2 (0,a0,a2,a1,a3)) b8)
 (
 R (.tuple #[.slice q0 n0 n1,.int .i64 0]) w)) :
 yaO ywP (yFq 393 [0,0,1,0,1,1,1,1,1]) (yFr [1,1,1,1,1,0,1,0] [] R) (ym7 q0 n0 n1 n2 n3 q1 n4 n5 i0 n6 n7 (i1,q2,n8,n9,i2)) w0 :=
 lrule (ym7 q0 n0 n1 n2 n3 q1 n4 n5 i0 n6 n7) (U5 I) h0 (by rintro m ⟨a4,a0,a2,a1,a3⟩ w h; exact ⟨by kernel_rfl,by kernel_rfl,fun js => Eq.mpr (by kernel_rfl) (hr m a4 a0 a2 a1 a3 w h)⟩)
abbrev yGx (b0:OA) (b2 b1 a2 a3:Nat) (a4:OA) (a6 a5:Nat) (a7 a8 a9:Int) (bm0 bm1 bm2:Nat) (a0:BA) (a1:Int) (I:Nat → Int → Option Addr → Nat → Nat → Int → World → Prop) (m:Nat):Kh:=KG (ym8 b0 b2 b1 a2 a3 a4 a6 a5 a7 a8 a9 bm0 bm1 bm2 a0 a1) (U5 I) m
theorem yDG {I:Nat → Int → Option Addr → Nat → Nat → Int → World → Prop} (m':Nat) (h1:m' < m) (h2:I m' i4 q2 n9 o0 i5 w):KS (yGx q0 n0 n1 n2 n3 q1 n4 n5 i0 i1 i2 n6 n7 n8 s0 i3 I m) (ym8 q0 n0 n1 n2 n3 q1 n4 n5 i0 i1 i2 n6 n7 n8 s0 i3 (i4,q2,n9,o0,i5)) w:=⟨m',h1,_,rfl,rfl,h2⟩
theorem yDH {K1:Kh} (I:Nat → Int → Option Addr → Nat → Nat → Int → World → Prop) (m0:Nat) (h0:I m0 i4 q2 n9 o0 i5 w0)
 (hr:∀ m b3 a3 a5 a4 a6 w,I m b3 a3 a5 a4 a6 w →
 w.heap[n6]? = some (.cells #[.slice a3 a5 a4] 217) →
 w.heap[n7]? = some (.cells #[.int .i64 a6] 3) →
 brB (decide (b3 < i2)) (
 Calls pP 147 #[.string s0,(.pointer (some ⟨n2,0,none⟩)),(.pointer (some ⟨n3,0,none⟩))] w fun e c3 => ∃ c1,e = .returned (.int .i64 c1) ∧ yaV [n6,n7] [(n8,226)] [n8] w c3 ∧ ∃ c8 d2 d0,c3.heap[n6]? = some (.cells #[.slice c8 d2 d0] 217) ∧ ∃ d5,c3.heap[n7]? = some (.cells #[.int .i64 d5] 3) ∧
 brB (c1 == (-1)) (
 KS K1 (ym7 q0 n0 n1 n2 n3 q1 n4 n5 i0 n6 n7 ((IntKind.wrap .i64 (i1 + 1)),c8,d2,d0,d5)) c3)
 (
 ixA q0 n0 c1 1 fun e4 =>
 ∀ c4,Adv [] [] c3 c4 → c4.heap[n6]? = some (.cells #[.slice c8 d2 d0] 217) →
 c4.heap[n7]? = some (.cells #[.int .i64 d5] 3) →
 ya2 c4 e4 fun d7 e2 e0 =>
 al c4 (.cells #[.string s0,.int .i64 b3] 33) fun d9 d6 =>
 ybC pP (Builtin.append_ #[28,28] 28 #[.slice d7 e2 e0,(.slice (some ⟨d9,0,none⟩) 1 1)]) d6 fun d8 e3 e1 d4 => yaF [n6,n7,n8] d6 d4 ∧
 ixA q0 n0 c1 1 fun e5 =>
 st d4 e5 [.slice d8 e3 e1] fun c5 => yaV [n6,n7] [(n8,226)] [n8] d4 c5 ∧ ∃ c9 d3 d1,c5.heap[n6]? = some (.cells #[.slice c9 d3 d1] 217) ∧ ∃ e6,c5.heap[n7]? = some (.cells #[.int .i64 e6] 3) ∧
 ∀ c6,Adv [n7] [] c5 c6 → c6.heap[n6]? = some (.cells #[.slice c9 d3 d1] 217) →
 c6.heap[n7]? = some (.cells #[(.int .i64 (IntKind.wrap .i64 (c1 + 1)))] 3) →
 KS (yGx q0 n0 n1 n2 n3 q1 n4 n5 i0 i1 i2 n6 n7 n8 s0 i3 I m) (ym8 q0 n0 n1 n2 n3 q1 n4 n5 i0 i1 i2 n6 n7 n8 s0 i3 ((IntKind.wrap .i64 (b3 + 1)),c9,d3,d1,(IntKind.wrap .i64 (c1 + 1)))) c6))
 (
 KS K1 (ym7 q0 n0 n1 n2 n3 q1 n4 n5 i0 n6 n7 ((IntKind.wrap .i64 (i1 + 1)),a3,a5,a4,a6)) w)) :
 yaO ywQ (yFq 388 [0,0,1,1,0,0,1,1,0,0,1,0,1,1,1,1,1]) (yFr [1,1,1,1,1,0,1,0,0,1,1,0,0,1,1,0] [K1] R) (ym8 q0 n0 n1 n2 n3 q1 n4 n5 i0 i1 i2 n6 n7 n8 s0 i3 (i4,q2,n9,o0,i5)) w0 :=
 lrule (ym8 q0 n0 n1 n2 n3 q1 n4 n5 i0 i1 i2 n6 n7 n8 s0 i3) (U5 I) h0 (by rintro m ⟨b3,a3,a5,a4,a6⟩ w h; exact ⟨by kernel_rfl,by kernel_rfl,fun js => Eq.mpr (by kernel_rfl) (hr m b3 a3 a5 a4 a6 w h)⟩)
theorem yLM (h :
 ∀ b2,w.heap.size ≤ b2 →
 ∀ w6,Adv [] [b2] w w6 →
 Calls pP 145 #[.slice q0 n0 n1,.slice q1 n2 n3] w6 fun e w7 => ∃ x8,e = .returned (.int .i64 x8) ∧ yaF [b2] w6 w7 ∧
 brB (x8 != 0) (
 R (.tuple #[.slice none 0 0,.int .i64 x8]) w7)
 (
 ybC pP (Instr.makeSlice 219 (.int .i64 (n2:Int)) (.int .i64 (n2:Int))) w7 fun a9 b1 b0 a8 => yaF [b2] w7 a8 ∧
 ∀ a6,a8.heap.size ≤ a6 →
 ∀ a7,Adv [] [a6] a8 a7 → a7.heap[b2]? = some (.cells #[.slice q1 n2 n3] 217) →
 a7.heap[a6]? = some (.cells #[.int .i64 0] 3) →
 yaO ywP (yFq 393 [0,0,1,0,1,1,1,1,1]) (yFr [1,1,1,1,1,0,1,0] [] R) (ym7 a9 b1 b0 b2 a6 q0 n0 n1 (n0:Int) b2 a6 (0,q1,n2,n3,0)) a7)) :
 CR pP 111 #[.slice q0 n0 n1,.slice q1 n2 n3] w R :=
 yaB Tryz.wide_mixed (an:=yy1) Tryz.func111 rfl rfl (by kernel_rfl) rfl (Eq.mpr (by kernel_rfl) h)
def ywR:LA:=⟨[0,0,1,0,1],[0,1,2,8,9],[],0,[]⟩
def yy2:List LA:=[ywR]
abbrev yLN:=dnF pP yy2 (code Tryz.f147)
abbrev yNL:=yaR pP yy2 (code Tryz.f147)
abbrev yLO (p:List Nat) (K:List Kh) (R:VWP):=yaR pP yy2 (code Tryz.f147) p K (ybE pP Tryz.f147 [] R)
def ypA (a2:BA) (a0:Addr) (a1:Addr) (a3:Int):Int → List Value × List TB:=fun a4 => ([.string a2,(.pointer (some a0)),(.pointer (some a1)),.int .i64 a3,.int .i64 a4],[])
abbrev yGy (a2:BA) (a0:Addr) (a1:Addr) (a3:Int) (I:Nat → Int → World → Prop) (m:Nat):Kh:=KG (ypA a2 a0 a1 a3) (U1 I) m
theorem yDI {I:Nat → Int → World → Prop} (m':Nat) (h1:m' < m) (h2:I m' i1 w):KS (yGy s0 A0 A1 i0 I m) (ypA s0 A0 A1 i0 i1) w:=⟨m',h1,_,rfl,rfl,h2⟩
theorem yDJ (I:Nat → Int → World → Prop) (m0:Nat) (h0:I m0 i1 w0)
 (hr:∀ m a0 w,I m a0 w →
 brB (decide (a0 < i0)) (
 ya1 .i64 w A1 fun b0 =>
 ya2 w A0 fun b7 a5 b8 => nz (a5:Int) (
 ya2 w A0 fun b1 b4 b9 =>
 ixA b1 b4 (Int.tmod (IntKind.wrap .i64 (b0 + a0)) (a5:Int)) 2 fun a7 =>
 ya7 w a7 fun b6 => ya2 w (Addr.add a7 1) fun b2 b5 b3 =>
 Calls pP 146 #[(.agg #[.string b6,.slice b2 b5 b3]),.string s0] w fun e a9 => ∃ a8,e = .returned (.bool a8) ∧
 brB a8 (
 R (.int .i64 (Int.tmod (IntKind.wrap .i64 (b0 + a0)) (a5:Int))) a9)
 (
 KS (yGy s0 A0 A1 i0 I m) (ypA s0 A0 A1 i0 (IntKind.wrap .i64 (a0 + 1))) a9)))
 (
 R (.int .i64 (-1)) w)) :
 yaO ywR (yLN 397 [0,0,1,0,1]) (yLO [1,0,1,0] [] R) (ypA s0 A0 A1 i0 i1) w0 :=
 lrule (ypA s0 A0 A1 i0) (U1 I) h0 (by rintro m a0 w h; exact ⟨by kernel_rfl,by kernel_rfl,fun js => Eq.mpr (by kernel_rfl) (hr m a0 w h)⟩)
theorem yLP (h :
 ya2 w A0 fun a4 n5 c6 =>
 yaO ywR (yLN 397 [0,0,1,0,1]) (yLO [1,0,1,0] [] R) (ypA s0 A0 A1 (n5:Int) 0) w) :
 CR pP 147 #[.string s0,(.pointer (some A0)),(.pointer (some A1))] w R :=
 yaB Tryz.wide_mixed (an:=yy2) Tryz.func147 rfl rfl (by kernel_rfl) rfl (Eq.mpr (by kernel_rfl) h)
end
end Go.Proofs.YteldhjiiocmicaaGreat
namespace Go.Proofs.YteldhjiiocmicaaGreat
open Go Go.RowKit Go.Maps Go.MapKept
open Go.ChangeMaps (setBlock)
set_option linter.unusedVariables false
set_option linter.unusedSimpArgs false
def eqS (s x:ByteArray):Bool:=decide (s = x)
def inS (l:List ByteArray) (s:ByteArray):Bool:=l.any (eqS s)
theorem yDK {l:List ByteArray} {s:ByteArray}:inS l s = true ↔ s ∈ l:=by
 simp only [inS,List.any_eq_true,eqS,decide_eq_true_eq]
 exact ⟨fun ⟨x,hx,e⟩ => e ▸ hx,fun h => ⟨s,h,rfl⟩⟩
theorem ym9 {w:World} {a:Option Addr} {n c:Nat} {l:List ByteArray} (h:ybF w 1 yc8 a n l) (hl:l.length ≤ 1000000) (s:ByteArray) :
  Calls pP 112 #[.slice a n c,.string s] w fun e w' => ∃ v,e = .returned v ∧ ∃ r:Int,v = .int .i64 r ∧ Mod [] w w' ∧ ((r = -1 ∧ s ∉ l) ∨ ∃ k:Nat,r = k ∧ l[k]? = some s ∧ s ∉ l.take k):=by
 have hn:=h.1
 refine yKV ?_
 refine yC0 (fun mm x w' => ∃ k:Nat,x = k ∧ k ≤ l.length ∧ s ∉ l.take k ∧ Mod [] w w' ∧ mm = l.length - k) l.length ⟨0,rfl,by omega,by simp,Mod.refl _,rfl⟩ ?_
 rintro mm x w1 ⟨k,rfl,hk,hb,M1,rfl⟩
 refine yaC (fun hlt => ?_) fun hge => ?_
 ·obtain ⟨y,hy⟩:∃ y,l[k]? = some y:=⟨_,List.getElem?_eq_getElem (by omega)⟩
  refine (h.keep0 M1).ix hy fun q hq => yaL (by simpa [add_zero] using hq 0 _ rfl) ?_
  rw [yvH]
  refine yaC (fun g => ?_) fun g => ?_
  ·exact ⟨_,rfl,M1,.inr ⟨k,rfl,by rw [hy,g],hb⟩⟩
  ·refine yCZ (l.length - (k + 1)) (by omega) ⟨k + 1,by rw [yaI (by omega) (by omega)]; omega,by omega,?_,M1,rfl⟩
   rw [ybO hy,List.mem_append]
   rintro (h1 | h1)
   ·exact hb h1
   ·simp at h1; exact g h1
 ·have hk:k = l.length:=by omega
  subst hk
  rw [List.take_length] at hb
  exact ⟨_,rfl,M1,.inl ⟨rfl,hb⟩⟩
theorem yDL {w:World} {a:Option Addr} {n c:Nat} {l:List ByteArray} (h:ybF w 1 yc8 a n l) (hl:l.length ≤ 1000000) (s:ByteArray) :
  Calls pP 133 #[.slice a n c,.string s] w fun e w' => e = .returned (.bool (inS l s)) ∧ Mod [] w w':=by
 refine ya0 (yKS ?_)
 refine (ym9 h hl s).mono ?_
 rintro _ w3 ⟨_,rfl,r,rfl,M3,hr⟩
 refine ⟨_,rfl,congrArg Value.bool ?_,M3⟩
 rcases hr with ⟨rfl,hno⟩ | ⟨k,rfl,hk,_⟩
 ·have:inS l s = false:=by
   cases hh:inS l s with
   | false => rfl
   | true => exact absurd (yDK.1 hh) hno
  rw [this]; rfl
 ·rw [yDK.2 (List.mem_of_getElem? hk)]
  exact decide_eq_true (by omega)
structure PMem where
 name:ByteArray
 topics:List ByteArray
 deriving DecidableEq
structure MemV where
 x:PMem
 ts:Sl
def yAz (q:MemV):List Value:=[.string q.x.name,.slice q.ts.a q.ts.n q.ts.c]
theorem yFs (q:MemV):(yAz q).length = 2:=rfl
theorem yFt (q:MemV):∀ u ∈ yAz q,u.oneCell' = true:=by simp [yAz,Value.oneCell']
theorem yy3 {w:World} {q:MemV} (h:ybF w 1 yc8 q.ts.a q.ts.n q.x.topics) (hl:q.x.topics.length ≤ 1000000) (t:ByteArray) :
  Calls pP 146 #[.agg #[.string q.x.name,.slice q.ts.a q.ts.n q.ts.c],.string t] w fun e w' => e = .returned (.bool (inS q.x.topics t)) ∧ Mod [] w w':=by
 refine ya0 (yLK ?_)
 intro b2 f2 w6 A6
 refine (yDL (h.keep0 A6.mod) hl t).mono ?_
 rintro _ w7 ⟨rfl,M7⟩
 exact ⟨_,rfl,yaF.of0 M7,rfl,A6.mod.go0 M7 (by simp)⟩
structure PTop where
 t:ByteArray
 n:Int
 deriving DecidableEq
def ynU (x:PTop):List Value:=[.string x.t,.int .i64 x.n]
theorem ylM (x:PTop):(ynU x).length = 2:=rfl
theorem yFu (x:PTop):∀ u ∈ ynU x,u.oneCell' = true:=by simp [ynU,Value.oneCell']
def yj2 (x:PTop):Bool:=ye2 x.t x.n
def ydJ (l:List PTop):Int:=if 8 < l.length then 2 else if (l.all yj2 && ybB (l.map (·.t))) = true then 0 else 1
def yqN (l:List PTop):TL:=l.map fun x => (x.t,x.n)
theorem yeB (x:ByteArray):yb8 x x = false:=by
 unfold yb8
 rw [bytesLess_eq]
 exact decide_eq_false (List.lt_irrefl _)
theorem yf7 {x y z:ByteArray} (h1:yb8 x y = true) (h2:yb8 y z = true):yb8 x z = true:=by
 unfold yb8 at *
 rw [bytesLess_eq] at *
 simp only [decide_eq_true_eq] at *
 exact List.lt_trans h1 h2
theorem ywS:∀ {l:List ByteArray},ybB l = true → l.Pairwise fun a b => yb8 a b = true
 | [],_ => .nil
 | [a],_ => by simp
 | a :: b :: r,h => by
  simp only [ybB,Bool.and_eq_true] at h
  have ih:=ywS h.2
  refine List.pairwise_cons.2 ⟨fun x hx => ?_,ih⟩
  rcases List.mem_cons.1 hx with rfl | hx
  ·exact h.1
  ·exact yf7 h.1 ((List.pairwise_cons.1 ih).1 x hx)
theorem yj3 {l:List ByteArray} (h:ybB l = true):l.Nodup:=(ywS h).imp fun {a b} hab e => by subst e; rw [yeB] at hab; cases hab
set_option maxHeartbeats 1000000 in
theorem ypB {w:World} {a:Option Addr} {n c:Nat} {l:List PTop} (h:ybF w 2 ynU a n l) :
  Calls pP 58 #[.slice a n c] w fun e w' => ∃ v,e = .returned v ∧ ∃ p:Option Addr,v = .tuple #[.pointer p,.int .i64 (ydJ l)] ∧ Mod [] w w' ∧ (ydJ l = 0 → ∃ b F,p = some ⟨b,0,none⟩ ∧ ydO w' b (yqN l) F ∧ ∀ k ∈ F,w.heap.size ≤ k):=by
 have hn:=h.1
 refine yKP ?_
 refine yaC (fun g => ?_) fun g => ?_
 ·have e:ydJ l = 2:=by rw [ydJ,if_pos (by omega)]
  rw [e]
  exact ⟨_,rfl,Mod.refl _,fun h => by cases h⟩
 have bad:(l.all yj2 && ybB (l.map (·.t))) = false → ydJ l = 1:=fun hh => by rw [ydJ,if_neg (by omega),hh]; rfl
 refine (ytP w).mono ?_
 rintro _ w3 ⟨_,rfl,b,F,rfl,hT,hF,M3⟩
 have s3:=M3.size
 refine ⟨_,rfl,?_⟩
 refine yCY (fun mm x w' => ∃ k:Nat,x = k ∧ k ≤ l.length ∧ ydO w' b (yqN (l.take k)) F ∧ (l.take k).all yj2 = true ∧ ybB ((l.take k).map (·.t)) = true ∧ Mod [] w w' ∧ mm = l.length - k) l.length ⟨0,rfl,by omega,by simpa [yqN] using hT,by simp,by simp [ybB],M3,rfl⟩ ?_
 rintro mm x w1 ⟨k,rfl,hk,hT1,hall,hris,M1,rfl⟩
 have s1:=M1.size
 refine yaC (fun hlt => ?_) fun hge => ?_
 ·obtain ⟨t,ht⟩:∃ t,l[k]? = some t:=⟨_,List.getElem?_eq_getElem (by omega)⟩
  refine (h.keep0 M1).ix ht fun q hq => yaL (by simpa [add_zero] using hq 0 _ rfl) (yaK (hq 1 _ rfl) ?_)
  intro b12 f12 w13 A13
  have l12:=A13.lt b12 (by simp)
  refine (ytQ t.t t.n w13).mono ?_
  rintro _ w14 ⟨rfl,M14⟩
  have N14:=(M1.go0 A13.mod (by simp)).go0 M14 (by simp)
  have s14:=M14.size
  have e1:l.take (k + 1) = l.take k ++ [t]:=ybO ht
  have ltm:(l.map (·.t))[k]? = some t.t:=by simp [ht]
  have em:∀ j,(l.take j).map (·.t) = (l.map (·.t)).take j:=fun j => List.map_take ..
  refine ⟨_,rfl,yaF.of0 M14,yaE (fun g1 => ?_) fun g1 => ?_⟩
  ·have g1:ye2 t.t t.n = false:=by simpa using g1
   have:(l.all yj2 && ybB (l.map (·.t))) = false:=by
    have:l.all yj2 = false:=by
     rw [List.all_eq_false]
     exact ⟨t,List.mem_of_getElem? ht,by simp [yj2,g1]⟩
    rw [this]; rfl
   rw [bad this]
   exact ⟨_,rfl,N14,fun h => by cases h⟩
  have g1:ye2 t.t t.n = true:=by simpa using g1
  have hall':(l.take (k + 1)).all yj2 = true:=by rw [e1,List.all_append,hall]; simp [yj2,g1]
  have hsz:t.t.size ≤ maxLen:=by
   have:ybQ t.t = true:=by simp only [ye2,Bool.and_eq_true] at g1; exact g1.1
   have:=yc2 this
   unfold maxLen; omega
  obtain ⟨m,hc,hm,rfl⟩:=hT1
  have hmb:m ≠ b:=by rintro rfl; exact hm.notCells hc
  have hbw:b < w1.heap.size:=yaH hc
  have ek:IntKind.wrap .i64 ((k:Int) + 1) = ((k + 1:Nat):Int):=by rw [yaI (by omega) (by omega)]; omega
  rw [ek]
  have go:∀ {w19:World},Adv [] [] w14 w19 → ybB ((l.take (k + 1)).map (·.t)) = true → w19.cell? ⟨b,0,none⟩ = some (.map (some m)) ∧
    ydM pP (Instr.mapUpdate 84 (.map (some m)) (.string t.t) (.int .i64 t.n)) w19 fun w21 => yaF [b12] w19 w21 ∧ ∃ k':Nat,((k + 1:Nat):Int) = k' ∧ k' ≤ l.length ∧ ydO w21 b (yqN (l.take k')) [b,m] ∧ (l.take k').all yj2 = true ∧ ybB ((l.take k').map (·.t)) = true ∧ Mod [] w w21 ∧ l.length - (k + 1) = l.length - k':=by
   intro w19 A19 hr'
   have N19:=N14.go0 A19.mod (by simp)
   have K19:Mod [] w1 w19:=(A13.mod.go0 M14 (by simp)).go0 A19.mod (by simp)
   have hc19:=K19.keep0 hc
   refine ⟨by rw [yaM hc19]; rfl,?_⟩
   have hf:=hF
   refine (hm.keepM0 K19).setU (k:=t.t) ydT ybH Tryz.underlying84 (v:=t.n) (ybK hsz) (by have:=hm.lt; simp; omega) fun w21 hm21 M21 => ?_
   refine ⟨k + 1,rfl,by omega,⟨m,M21.keep hc19 (by simp; exact fun e => hmb e.symm),?_,rfl⟩,hall',hr',(N19.trans M21).less fun z hz hz' => ?_,rfl⟩
   ·have hnone:lkp (yqN (l.take k)) t.t = none:=by
     refine yc1.2 fun p hp hpk => ?_
     obtain ⟨y,hy,rfl⟩:=List.mem_map.1 hp
     have hnd:=yj3 hr'
     rw [e1,List.map_append,List.nodup_append] at hnd
     exact hnd.2.2 _ (List.mem_map.2 ⟨y,hy,rfl⟩) t.t (by simp) hpk
    rw [ycB hnone] at hm21
    rw [e1]
    simpa [yqN] using hm21
   ·simp at hz
    have:=hf m (by simp); omega
  refine yaC (fun g2 => ?_) fun g2 => ?_
  ·have ek2:IntKind.wrap .i64 ((k:Int) - 1) = ((k - 1:Nat):Int):=by rw [yaI (by omega) (by omega)]; omega
   rw [ek2]
   obtain ⟨p,hp⟩:∃ p,l[k - 1]? = some p:=⟨_,List.getElem?_eq_getElem (by omega)⟩
   refine (h.keep0 N14).ix hp fun q hq => yaL (by simpa [add_zero] using hq 0 _ rfl) ?_
   have hrt:=ye1 (l:=l.map (·.t)) (k:=k - 1) (x:=p.t) (y:=t.t) (by simp [hp]) (by rw [show k - 1 + 1 = k by omega]; exact ltm)
   rw [show k - 1 + 2 = k + 1 by omega,show k - 1 + 1 = k by omega,← em,← em,hris,Bool.true_and] at hrt
   rw [yd9]
   refine yaE (fun g3 => ?_) fun g3 => ?_
   ·have g3:yb8 p.t t.t = false:=by simpa using g3
    have:(l.all yj2 && ybB (l.map (·.t))) = false:=by
     have:ybB (l.map (·.t)) = false:=by
      cases hr:ybB (l.map (·.t)) with
      | false => rfl
      | true =>
       have:=yhB (k:=k + 1) hr
       rw [← em,hrt,g3] at this; cases this
     rw [this,Bool.and_false]
    rw [bad this]
    exact ⟨_,rfl,N14,fun h => by cases h⟩
   ·have g3:yb8 p.t t.t = true:=by simpa using g3
    refine ya6 ?_
    intro w19 A19
    obtain ⟨h1,w21,h2,h3,h4⟩:=go A19 (by rw [hrt,g3])
    refine yb2 (x:=some m) h1 ?_
    exact ⟨w21,h2,h3,ytO (l.length - (k + 1)) (by omega) h4⟩
  ·have hk0:k = 0:=by omega
   subst hk0
   refine ya6 ?_
   intro w23 A23
   obtain ⟨h1,w21,h2,h3,h4⟩:=go A23 (by rw [e1]; simp [ybB])
   refine yb2 (x:=some m) h1 ?_
   exact ⟨w21,h2,h3,ytO (l.length - (0 + 1)) (by omega) h4⟩
 ·have hk:k = l.length:=by omega
  subst hk
  rw [List.take_length] at hT1 hall hris
  have e:ydJ l = 0:=by rw [ydJ,if_neg (by omega),hall,hris]; rfl
  rw [e]
  exact ⟨_,rfl,M1,fun _ => ⟨b,F,rfl,hT1,hF⟩⟩
end Go.Proofs.YteldhjiiocmicaaGreat
namespace Go.Proofs.YteldhjiiocmicaaGreat
open Go Go.RowKit Go.Maps Go.MapKept
open Go.ChangeMaps (setBlock)
set_option linter.unusedVariables false
set_option linter.unusedSimpArgs false
def ynA (w:World) (a:Option Addr) (n:Nat) (ms:List MemV):Prop:=ybF w 2 yAz a n ms ∧ ∀ q ∈ ms,ybF w 1 yc8 q.ts.a q.ts.n q.x.topics ∧ q.x.topics.length ≤ 1000000
theorem ynA.keep0 {w w':World} {a:Option Addr} {n:Nat} {ms:List MemV} (h:ynA w a n ms) (M:Mod [] w w'):ynA w' a n ms:=⟨h.1.keep0 M,fun q hq => ⟨(h.2 q hq).1.keep0 M,(h.2 q hq).2⟩⟩
def ycQ (l:List PTop) (ms:List PMem):Int:=if ydJ l ≠ 0 then ydJ l else if 8 < ms.length then 2 else if ybB (ms.map (·.name)) = true then 0 else 100
theorem yt7 {w:World} {a a':Option Addr} {n c n' c':Nat} {l:List PTop} {ms:List MemV} (h:ybF w 2 ynU a n l) (hm:ybF w 2 yAz a' n' ms) :
  Calls pP 145 #[.slice a n c,.slice a' n' c'] w fun e w' => e = .returned (.int .i64 (ycQ l (ms.map (·.x)))) ∧ Mod [] w w':=by
 have hn:=hm.1
 refine ya0 (yLJ ?_)
 refine (ypB h).mono ?_
 rintro _ w4 ⟨_,rfl,p,rfl,M4,_⟩
 refine ⟨_,_,rfl,yaE (fun g => ?_) fun g => ?_⟩
 ·have g:ydJ l ≠ 0:=by simpa using g
  exact ⟨by rw [ycQ,if_pos g],M4⟩
 have g:¬ ydJ l ≠ 0:=by simpa using g
 refine yaC (fun g2 => ?_) fun g2 => ?_
 ·exact ⟨by rw [ycQ,if_neg g,List.length_map,if_pos (by omega)],M4⟩
 have e:∀ b,ybB ((ms.map (·.x)).map (·.name)) = b → ycQ l (ms.map (·.x)) = if b = true then 0 else 100:=fun b hb => by rw [ycQ,if_neg g,List.length_map,if_neg (by omega),hb]
 refine yDy (fun mm x w' => ∃ k:Nat,x = ((k + 1:Nat):Int) ∧ k ≤ ms.length ∧ ybB (((ms.map (·.x)).map (·.name)).take (k + 1)) = true ∧ Mod [] w w' ∧ mm = ms.length - k) ms.length ⟨0,rfl,by omega,by cases ms <;> simp [ybB],M4,rfl⟩ ?_
 rintro mm x w1 ⟨k,rfl,hk,hr,M1,rfl⟩
 refine yaC (fun hlt => ?_) fun hge => ?_
 ·obtain ⟨y,hy⟩:∃ y,ms[k + 1]? = some y:=⟨_,List.getElem?_eq_getElem (by omega)⟩
  obtain ⟨z,hz⟩:∃ z,ms[k]? = some z:=⟨_,List.getElem?_eq_getElem (by omega)⟩
  refine (hm.keep0 M1).ix hy fun q hq => yaL (by simpa [add_zero] using hq 0 _ rfl) ?_
  have ek:IntKind.wrap .i64 (((k + 1:Nat):Int) - 1) = (k:Int):=by rw [yaI (by omega) (by omega)]; omega
  rw [ek]
  refine (hm.keep0 M1).ix hz fun q hq => yaL (by simpa [add_zero] using hq 0 _ rfl) ?_
  have hrt:=ye1 (l:=(ms.map (·.x)).map (·.name)) (k:=k) (x:=z.x.name) (y:=y.x.name) (by simp [hz]) (by simp [hy])
  rw [hr,Bool.true_and] at hrt
  rw [yd9]
  refine yaE (fun g3 => ?_) fun g3 => ?_
  ·have g3:yb8 z.x.name y.x.name = false:=by simpa using g3
   intro w11 A11
   have hf:ybB ((ms.map (·.x)).map (·.name)) = false:=by
    cases hh:ybB ((ms.map (·.x)).map (·.name)) with
    | false => rfl
    | true => rw [yhB hh,g3] at hrt; cases hrt
   exact ⟨by rw [e _ hf]; rfl,M1.go0 A11.mod (by simp)⟩
  ·have g3:yb8 z.x.name y.x.name = true:=by simpa using g3
   intro w12 A12
   exact yDx (ms.length - (k + 1)) (by omega) ⟨k + 1,by rw [yaI (by omega) (by omega)]; omega,by omega,by rw [hrt,g3],M1.go0 A12.mod (by simp),rfl⟩
 ·have hf:ybB ((ms.map (·.x)).map (·.name)) = true:=by
   rw [List.take_of_length_le (by simp; omega)] at hr; exact hr
  exact ⟨by rw [e _ hf]; rfl,M1⟩
structure PsV where
 s:Sl
 l:List PPart
def yf8 (q:PsV):List Value:=[.slice q.s.a q.s.n q.s.c]
theorem yeC (q:PsV):(yf8 q).length = 1:=rfl
theorem yLQ:(Tryz.prog.info? 33).map (fun i => (i.zero,i.size,i.bytes)) = some (some (.agg #[.string ByteArray.empty,.int .i64 0]),2,24):=by kernel_rfl
theorem yGz:(Tryz.prog.info? 28).map (fun i => (i.zero,i.size,i.bytes)) = some (some (.slice none 0 0),1,24):=by kernel_rfl
theorem yqO {w:World} {B:Nat} {f:Sl} {l:List PPart} {y:PPart} {bs:List Nat} {F:Option Addr → Nat → Nat → World → Prop} (hR:Row w B 33 2 yiH f.a f.n f.c l) (hl:l.length ≤ 1000000) (hB:B ≤ w.heap.size) (hbs:∀ b ∈ bs,b ∉ yaN f.a)
  (hF:∀ a' c' w',Row w' B 33 2 yiH a' (f.n + 1) c' (l ++ [y]) → Mod (yaN f.a) w w' → (∀ k ∈ yaN a',k ∈ yaN f.a ∨ w.heap.size ≤ k) → F a' (f.n + 1) c' w') :
  al w (.cells (yiH y).toArray 33) fun b w1 => ybC pP (Builtin.append_ #[28,28] 28 #[.slice f.a f.n f.c,.slice (some ⟨b,0,none⟩) 1 1]) w1 fun a n c w2 => yaF bs w1 w2 ∧ F a n c w2:=by
 refine yd6 fun b w1 c1 M1 f1 => ?_
 have s1:=M1.size
 obtain ⟨i0,hi0,hz0,hz1,hz2⟩:=info_parts yLQ
 refine ydF (x:=y) (hR.keep0 M1) Tryz.underlying28 hi0 hz0 hz1 hz2 rfl (by decide) c1 rfl (yp5 _) (by omega) (by unfold maxLen; omega) (by omega) fun a' c' w8 hR8 hM8 hk8 => ?_
 have M8:=hM8 _ (ycN f.a)
 refine ⟨yaF.of M8 fun b hb _ => hbs b hb,hF a' c' w8 hR8 ?_ fun k hk => ?_⟩
 ·exact (M1.trans M8).less fun k hk _ => by simpa using hk
 ·rcases hk8 k hk with h | h
  ·exact .inl h
  ·exact .inr (by omega)
structure OutAt (w:World) (B:Nat) (a:Option Addr) (n c:Nat) (qs:List PsV):Prop where
 row:Row w B 28 1 yf8 a n c qs
 parts:∀ q ∈ qs,Row w B 33 2 yiH q.s.a q.s.n q.s.c q.l
 apart:qs.Pairwise fun x y => ydN (yaN x.s.a) (yaN y.s.a)
theorem OutAt.keep0 {w w':World} {B:Nat} {a:Option Addr} {n c:Nat} {qs:List PsV} (h:OutAt w B a n c qs) (M:Mod [] w w'):OutAt w' B a n c qs:=⟨h.row.keep0 M,fun q hq => (h.parts q hq).keep0 M,h.apart⟩
theorem OutAt.keep {w w':World} {B:Nat} {a:Option Addr} {n c:Nat} {qs:List PsV} {S:List Nat} (h:OutAt w B a n c qs) (M:Mod S w w') (h1:∀ z ∈ S,z ∉ yaN a) (h2:∀ q ∈ qs,∀ z ∈ S,z ∉ yaN q.s.a):OutAt w' B a n c qs:=⟨yaA h.row M h1,fun q hq => yaA (h.parts q hq) M (h2 q hq),h.apart⟩
theorem OutAt.give {w w1 w2:World} {B:Nat} {a a':Option Addr} {n c n' c' i:Nat} {qs:List PsV} {q:PsV} {p:PPart} {ad:Addr} (h:OutAt w B a n c qs) (hq:qs[i]? = some q)
  (M1:Mod (yaN q.s.a) w w1) (hR1:Row w1 B 33 2 yiH a' n' c' (q.l ++ [p])) (hk1:∀ k ∈ yaN a',k ∈ yaN q.s.a ∨ w.heap.size ≤ k)
  (had:a = some ad) (hR2:Row w2 B 28 1 yf8 a n c (qs.set i ⟨⟨a',n',c'⟩,q.l ++ [p]⟩)) (M2:Mod [ad.block] w1 w2):OutAt w2 B a n c (qs.set i ⟨⟨a',n',c'⟩,q.l ++ [p]⟩):=by
 have hqm:=List.mem_of_getElem? hq
 have hblk:∀ z ∈ [ad.block],z ∈ yaN a:=fun z hz => by simp at hz; subst hz; exact ycN a ad had
 refine ⟨hR2,fun x hx => ?_,yi1 (w:=w) (fp:=fun x:PsV => yaN x.s.a) h.apart hq (fun x hx z hz => (yaG (h.parts x hx) z hz).2) hk1⟩
 have disj:∀ {w'} {a2:Option Addr} {n2 c2:Nat} {l2:List PPart},Row w' B 33 2 yiH a2 n2 c2 l2 → (∀ z ∈ yaN a,∀ cs T,w'.heap[z]? = some (.cells cs T) → T = 28) → ∀ z ∈ [ad.block],z ∉ yaN a2:=fun hR hT z hz hz' => by
  obtain ⟨_,_,cur,hcur⟩:=yaP hR z hz'
  have:=hT z (hblk z hz) _ _ hcur
  exact absurd this (by decide)
 have hT1:∀ z ∈ yaN a,∀ cs T,w1.heap[z]? = some (.cells cs T) → T = 28:=fun z hz cs T hcs => by
  obtain ⟨_,_,cur,hcur⟩:=yaP h.row z hz
  have:z ∉ yaN q.s.a:=fun hz' => by
   obtain ⟨_,_,cur',hcur'⟩:=yaP (h.parts q hqm) z hz'
   rw [hcur] at hcur'; cases hcur'
  have h1:=M1.keep hcur this
  rw [h1] at hcs; cases hcs; rfl
 rcases yeF hx with rfl | ⟨j,hj,hxj⟩
 ·exact yaA hR1 M2 (disj hR1 hT1)
 ·have hxm:=List.mem_of_getElem? hxj
  have k1:=yaA (h.parts x hxm) M1 fun z hz => yi0 (fp:=fun x:PsV => yaN x.s.a) h.apart (fun e => hj e.symm) hq hxj z hz
  exact yaA k1 M2 (disj k1 hT1)
theorem OutAt.row1 {w w1:World} {B:Nat} {a:Option Addr} {n c:Nat} {qs:List PsV} {q:PsV} (h:OutAt w B a n c qs) (hq:q ∈ qs) (M1:Mod (yaN q.s.a) w w1):Row w1 B 28 1 yf8 a n c qs:=yaA h.row M1 (ya3 (h.parts q hq) h.row (by decide))
theorem yGA (n:Nat) (h:n ≤ 8):(madeCells #[Value.slice none 0 0] (n * 1)).toList = (List.replicate n (⟨ya8,[]⟩:PsV)).flatMap yf8:=by
 have h0:(madeCells #[Value.slice none 0 0] (0 * 1)).toList = (List.replicate 0 (⟨ya8,[]⟩:PsV)).flatMap yf8:=by kernel_rfl
 have h1:(madeCells #[Value.slice none 0 0] (1 * 1)).toList = (List.replicate 1 (⟨ya8,[]⟩:PsV)).flatMap yf8:=by kernel_rfl
 have h2:(madeCells #[Value.slice none 0 0] (2 * 1)).toList = (List.replicate 2 (⟨ya8,[]⟩:PsV)).flatMap yf8:=by kernel_rfl
 have h3:(madeCells #[Value.slice none 0 0] (3 * 1)).toList = (List.replicate 3 (⟨ya8,[]⟩:PsV)).flatMap yf8:=by kernel_rfl
 have h4:(madeCells #[Value.slice none 0 0] (4 * 1)).toList = (List.replicate 4 (⟨ya8,[]⟩:PsV)).flatMap yf8:=by kernel_rfl
 have h5:(madeCells #[Value.slice none 0 0] (5 * 1)).toList = (List.replicate 5 (⟨ya8,[]⟩:PsV)).flatMap yf8:=by kernel_rfl
 have h6:(madeCells #[Value.slice none 0 0] (6 * 1)).toList = (List.replicate 6 (⟨ya8,[]⟩:PsV)).flatMap yf8:=by kernel_rfl
 have h7:(madeCells #[Value.slice none 0 0] (7 * 1)).toList = (List.replicate 7 (⟨ya8,[]⟩:PsV)).flatMap yf8:=by kernel_rfl
 have h8:(madeCells #[Value.slice none 0 0] (8 * 1)).toList = (List.replicate 8 (⟨ya8,[]⟩:PsV)).flatMap yf8:=by kernel_rfl
 have:n = 0 ∨ n = 1 ∨ n = 2 ∨ n = 3 ∨ n = 4 ∨ n = 5 ∨ n = 6 ∨ n = 7 ∨ n = 8:=by omega
 rcases this with rfl | rfl | rfl | rfl | rfl | rfl | rfl | rfl | rfl <;> assumption
end Go.Proofs.YteldhjiiocmicaaGreat
namespace Go.Proofs.YteldhjiiocmicaaGreat
open Go Go.RowKit Go.Maps Go.MapKept
open Go.ChangeMaps (setBlock)
set_option linter.unusedVariables false
set_option linter.unusedSimpArgs false
set_option maxHeartbeats 2000000
theorem yFv {α:Type} {l:List α} {i:Nat} {x:α} (h:l[i]? = some x):l.drop i = x :: l.drop (i + 1):=by
 obtain ⟨hi,rfl⟩:=List.getElem?_eq_some_iff.1 h
 exact List.drop_eq_getElem_cons hi
theorem yt8 (p:Nat → Bool) (k:Nat):(List.range (k + 1)).filter p = (List.range k).filter p ++ (if p k = true then [k] else []):=by
 rw [List.range_succ,List.filter_append]
 cases h:p k <;> simp [h]
def yqP (L:List (List PPart)) (i:Nat) (p:PPart):List (List PPart):=L.set i (L.getD i [] ++ [p])
def yt9 (t:ByteArray) (i:Nat):Nat → Nat → List (List PPart) → List (List PPart)
 | _,0,L => L
 | k,n + 1,L => yt9 t i (k + 1) n (yqP L i ⟨t,(k:Int)⟩)
def ywT (N tot k:Nat):Nat:=N / tot + if k < N % tot then 1 else 0
def yhR (t:ByteArray) (N tot:Nat):List Nat → Nat → Nat → List (List PPart) → List (List PPart)
 | [],_,_,L => L
 | i :: r,k,c,L => yhR t N tot r (k + 1) (c + ywT N tot k) (yt9 t i c (ywT N tot k) L)
def yhS (ms:List PMem) (t:ByteArray) (i:Nat):Bool:=match ms[i]? with
 | some m => inS m.topics t
 | none => false
def ywU (ms:List PMem) (t:ByteArray):List Nat:=(List.range ms.length).filter (yhS ms t)
def ygQ (ms:List PMem):List PTop → List (List PPart) → List (List PPart)
 | [],L => L
 | x :: r,L => ygQ ms r (yhR x.t x.n.toNat (ywU ms x.t).length (ywU ms x.t) 0 0 L)
def yi5 (l:List PTop) (ms:List PMem):List (List PPart):=ygQ ms l (List.replicate ms.length [])
theorem yqQ {qs:List PsV} {i:Nat} {q:PsV} {p:PPart} {s:Sl} (hq:qs[i]? = some q):(qs.set i ⟨s,q.l ++ [p]⟩).map (·.l) = yqP (qs.map (·.l)) i p:=by
 have:(qs.map (·.l)).getD i [] = q.l:=by simp [List.getD,hq]
 rw [yqP,List.map_set,this]
theorem yLR {N tot k:Nat} (h:N ≤ 8):ywT N tot k ≤ 9:=by
 have:N / tot ≤ N:=Nat.div_le_self N tot
 rw [ywT]; split <;> omega
theorem ypC {l:List PTop} {ms:List PMem} (h:ycQ l ms = 0):l.length ≤ 8 ∧ ms.length ≤ 8 ∧ ∀ x ∈ l,1 ≤ x.n ∧ x.n ≤ 8:=by
 by_cases g1:8 < l.length
 ·simp [ycQ,ydJ,g1] at h
 by_cases g2:(l.all yj2 && ybB (l.map (·.t))) = true
 ·by_cases g3:8 < ms.length
  ·simp [ycQ,ydJ,g1,g2,g3] at h
  ·refine ⟨by omega,by omega,fun x hx => ?_⟩
   rw [Bool.and_eq_true] at g2
   have:=List.all_eq_true.1 g2.1 x hx
   simp only [yj2,ye2,Bool.and_eq_true,decide_eq_true_eq] at this
   exact this.2
 ·simp [ycQ,ydJ,g1,g2] at h
def yGB (w w':World) (e:Int) (L:List (List PPart)) (v:Value):Prop :=
 (e ≠ 0 ∧ v = .tuple #[.slice none 0 0,.int .i64 e]) ∨ (e = 0 ∧ ∃ a n c qs,v = .tuple #[.slice a n c,.int .i64 0] ∧ OutAt w' w.heap.size a n c qs ∧ qs.map (·.l) = L)
theorem yFw {w:World} {a a':Option Addr} {n c n' c':Nat} {l:List PTop} {ms:List MemV} (h:ybF w 2 ynU a n l) (hm:ynA w a' n' ms) :
  Calls pP 110 #[.slice a n c,.slice a' n' c'] w fun e w' => ∃ v,e = .returned v ∧ Mod [] w w' ∧ yGB w w' (ycQ l (ms.map (·.x))) (yi5 l (ms.map (·.x))) v:=by
 have hn:=h.1
 have hn':=hm.1.1
 refine yLL ?_
 refine (yt7 h hm.1).mono ?_
 rintro _ w3 ⟨rfl,M3⟩
 refine ⟨_,rfl,yaE (fun g => ?_) fun g => ?_⟩
 ·have g:ycQ l (ms.map (·.x)) ≠ 0:=by simpa using g
  exact ⟨M3,.inl ⟨g,rfl⟩⟩
 have g:ycQ l (ms.map (·.x)) = 0:=by simpa using g
 obtain ⟨hl8,hm8,hx8⟩:=ypC g
 rw [List.length_map] at hm8
 have s3:=M3.size
 obtain ⟨i0,hi0,hz0,hz1,hz2⟩:=info_parts yGz
 obtain ⟨w5,hw5,ho5,hg5⟩:=run_makeSlice_full (P:=pP) (w:=w3) w.heap.size 219 28 i0 (.slice none 0 0) 1 Tryz.underlying219 hi0 hz0 hz1 .i64 .i64 n' (by omega) (by rw [hz2]; omega) (by unfold maxLen; omega) (by omega)
 refine ⟨_,_,_,w5,hw5,?_⟩
 have M5:Mod [] w3 w5:=⟨hg5.os,hg5.tape,hg5.output,hg5.size,fun j hj _ => hg5.block j hj (by simp)⟩
 have hO5:OutAt w5 w.heap.size (some ⟨w3.heap.size,0,none⟩) n' n' (List.replicate n' ⟨ya8,[]⟩):=by
  refine ⟨⟨by simp,by rw [← yGA n' (by omega)]; exact ho5⟩,fun q hq => ?_,?_⟩
  ·rw [List.eq_of_mem_replicate hq]; exact Row.nil _ _ _ _ _
  ·refine List.pairwise_replicate.2 (.inr ?_)
   intro z hz
   simp [ya8,yaN] at hz
 have N5:=M3.go0 M5 (by simp)
 generalize (some ⟨w3.heap.size,0,none⟩:Option Addr) = a7 at hO5 ⊢
 have hmE:∀ i:Nat,i < ms.length → ∃ q,ms[i]? = some q:=fun i hi => ⟨_,List.getElem?_eq_getElem hi⟩
 refine yDA (fun m x w' => ∃ (i:Nat) (qs:List PsV),x = i ∧ i ≤ l.length ∧ OutAt w' w.heap.size a7 n' n' qs ∧ ygQ (ms.map (·.x)) (l.drop i) (qs.map (·.l)) = yi5 l (ms.map (·.x)) ∧ qs.length = ms.length ∧ (∀ q ∈ qs,q.l.length ≤ 1000 * i) ∧ Mod [] w w' ∧ m = l.length - i) l.length
  ⟨0,_,rfl,by omega,hO5,by rw [yi5,List.length_map,← hn',List.map_replicate]; rfl,by simp [hn'],fun q hq => by rw [List.eq_of_mem_replicate hq]; simp,N5,rfl⟩ ?_
 rintro m x w6 ⟨i,qs,rfl,hi,hO,hr,hql,hqn,N,rfl⟩
 refine yaC (fun hlt => ?_) fun hge => ?_
 ·obtain ⟨t,ht⟩:∃ t,l[i]? = some t:=⟨_,List.getElem?_eq_getElem (by omega)⟩
  obtain ⟨N',hN'⟩:∃ N':Nat,t.n = N':=⟨t.n.toNat,by have:=(hx8 t (List.mem_of_getElem? ht)).1; omega⟩
  have hN8:N' ≤ 8:=by have:=(hx8 t (List.mem_of_getElem? ht)).2; omega
  refine (h.keep0 N).ix ht fun q hq => yaL (by simpa [add_zero,ynU] using hq 0 _ rfl) (yaK (x:=t.n) (by simpa [ynU] using hq 1 _ rfl) ?_)
  intro bm hbm w7 A7
  have hb7:bm < w7.heap.size:=A7.lt bm (by simp)
  have N7:=N.go0 A7.mod (by simp)
  have hO7:=hO.keep0 A7.mod
  have hba:bm ∉ yaN a7:=fun hz => by have:=(yaG hO.row bm hz).2; omega
  have hbq:∀ q ∈ qs,bm ∉ yaN q.s.a:=fun q hq hz => by have:=(yaG (hO.parts q hq) bm hz).2; omega
  have hdrop:l.drop i = t :: l.drop (i + 1):=yFv ht
  rw [hdrop] at hr
  change ygQ _ _ (yhR t.t t.n.toNat _ _ 0 0 _) = _ at hr
  rw [hN'] at hr ⊢
  rw [Int.toNat_natCast] at hr
  have s6:=N.size
  have s7:=N7.size
  refine yDC (fun m a10 n10 c10 x w' => ∃ k:Nat,x = k ∧ k ≤ ms.length ∧ Row w' w7.heap.size 3 1 ycO a10 n10 c10 (((List.range k).filter (yhS (ms.map (·.x)) t.t)).map fun j:Nat => (j:Int)) ∧ OutAt w' w.heap.size a7 n' n' qs ∧ Mod [] w w' ∧ w7.heap.size ≤ w'.heap.size ∧ m = ms.length - k) ms.length
   ⟨0,rfl,by omega,Row.nil _ _ _ _ _,hO7,N7,Nat.le_refl _,rfl⟩ ?_
  rintro m a10 n10 c10 x w8 ⟨k,rfl,hk,hI,hO8,N8,s8,rfl⟩
  have hbI:∀ b ∈ [bm],b ∉ yaN a10:=fun b hb hz => by have:=(yaG hI b hz).1; simp at hb; omega
  refine yaC (fun hlt2 => ?_) fun hge2 => ?_
  ·obtain ⟨y,hy⟩:=hmE k (by omega)
   refine (hm.1.keep0 N8).ixW hy fun q1 g1 => ?_
   intro w9 A9
   have N9:=N8.go0 A9.mod (by simp)
   have hg:=g1 _ A9.mod
   refine yaL (x:=y.x.name) (by simpa [add_zero,yAz] using hg 0 _ rfl) (yaU (x:=y.ts.a) (n:=y.ts.n) (c:=y.ts.c) (by simpa [yAz] using hg 1 _ rfl) ?_)
   obtain ⟨hys,hyl⟩:=hm.2 y (List.mem_of_getElem? hy)
   refine (yy3 (hys.keep0 N9) hyl t.t).mono ?_
   rintro _ w10 ⟨rfl,M10⟩
   have N10:=N9.go0 M10 (by simp)
   have s9:=A9.mod.size
   have s10:=M10.size
   have hI10:=(hI.keep0 A9.mod).keep0 M10
   have hO10:=(hO8.keep0 A9.mod).keep0 M10
   refine ⟨_,rfl,yaF.of0 M10,?_⟩
   have ew:yhS (ms.map (·.x)) t.t k = inS y.x.topics t.t:=by simp [yhS,hy]
   have ex:IntKind.wrap .i64 ((k:Int) + 1) = ((k + 1:Nat):Int):=by rw [yaI (by omega) (by omega)]; omega
   rw [ex]
   refine yaE (fun g3 => ?_) fun g3 => ?_
   ·have hlen:(((List.range k).filter (yhS (ms.map (·.x)) t.t)).map fun j:Nat => (j:Int)).length ≤ k:=by
     rw [List.length_map]; exact Nat.le_trans (List.length_filter_le _ _) (by simp)
    refine yjU (f:=⟨a10,n10,c10⟩) (y:=(k:Int)) hI10 (by omega) (by omega) hbI fun a3 c3 w11 hI11 M11 _ => ?_
    have hO11:=hO10.keep M11 (ya3 hI10 hO10.row (by decide)) fun q hq => ya3 hI10 (hO10.parts q hq) (by decide)
    have s11:=M11.size
    refine yt2 (ms.length - (k + 1)) (by omega) ⟨k + 1,rfl,by omega,?_,hO11,N10.go0 M11 fun z hz => by have:=(yaG hI10 z hz).1; omega,by omega,rfl⟩
    rw [yt8,ew,if_pos g3,List.map_append]
    exact hI11
   ·refine yt2 (ms.length - (k + 1)) (by omega) ⟨k + 1,rfl,by omega,?_,hO10,N10,by omega,rfl⟩
    rw [yt8,ew,if_neg (by rw [g3]; decide),List.append_nil]
    exact hI10
  ·have hk:k = ms.length:=by omega
   subst hk
   have eW:(List.range ms.length).filter (yhS (ms.map (·.x)) t.t) = ywU (ms.map (·.x)) t.t:=by rw [ywU,List.length_map]
   rw [eW] at hI
   have hWm:∀ j ∈ ywU (ms.map (·.x)) t.t,j < ms.length:=fun j hj => by
    rw [← eW] at hj; have:=(List.mem_filter.1 hj).1; simpa using this
   have hWl:(ywU (ms.map (·.x)) t.t).length ≤ 8:=by
    rw [← eW]; exact Nat.le_trans (List.length_filter_le _ _) (by simp; omega)
   generalize ywU (ms.map (·.x)) t.t = W at hI hr hWm hWl
   have hn10:n10 = W.length:=by simpa using hI.1
   refine yDE (fun m x12 x50 w' => ∃ (k c:Nat) (qs:List PsV),x50 = k ∧ x12 = c ∧ k ≤ W.length ∧ c ≤ 9 * k ∧ OutAt w' w.heap.size a7 n' n' qs ∧ Row w' w7.heap.size 3 1 ycO a10 n10 c10 (W.map fun j:Nat => (j:Int)) ∧ ygQ (ms.map (·.x)) (l.drop (i + 1)) (yhR t.t N' W.length (W.drop k) k c (qs.map (·.l))) = yi5 l (ms.map (·.x)) ∧ qs.length = ms.length ∧ (∀ q ∈ qs,bm ∉ yaN q.s.a) ∧ (∀ q ∈ qs,q.l.length ≤ 1000 * i + 10 * k) ∧ Mod [] w w' ∧ w7.heap.size ≤ w'.heap.size ∧ m = W.length - k) W.length
    ⟨0,0,qs,rfl,rfl,by omega,by omega,hO8,hI,by simpa using hr,hql,hbq,by simpa using hqn,N8,s8,rfl⟩ ?_
   clear hr hO hO7 hO8 hbq hqn hql hI
   rintro m x12 x50 w9 ⟨k,c1,qs,rfl,rfl,hk,hc,hO9,hI,hr,hql,hbq,hqn,N9,s9,rfl⟩
   have s9':=N9.size
   rw [hn10] at hI ⊢
   refine yaC (fun hlt3 => ?_) fun hge3 => ?_
   ·obtain ⟨j,hj⟩:∃ j,W[k]? = some j:=⟨_,List.getElem?_eq_getElem (by omega)⟩
    have hjm:=hWm j (List.mem_of_getElem? hj)
    refine (hI.sl (fun _ => rfl)).ix (i:=k) (x:=(j:Int)) (by simp [hj]) fun q hq => yaK (x:=(j:Int)) (by simpa [add_zero,ycO] using hq 0 _ rfl) ?_
    refine ⟨by omega,⟨by omega,?_⟩⟩
    rw [yFv hj] at hr
    change ygQ _ _ (yhR t.t N' W.length _ (k + 1) (c1 + ywT N' W.length k) (yt9 t.t j c1 (ywT N' W.length k) _)) = _ at hr
    have hcn:ywT N' W.length k ≤ 9:=yLR hN8
    have eq:IntKind.wrap .i64 (Int.tdiv (N':Int) (W.length:Int)) = ((N' / W.length:Nat):Int):=by
     rw [← Int.ofNat_tdiv]
     have:N' / W.length ≤ N':=Nat.div_le_self _ _
     generalize N' / W.length = dv at this ⊢
     exact yaI (by omega) (by omega)
    have etm:Int.tmod (N':Int) (W.length:Int) = ((N' % W.length:Nat):Int):=(Int.ofNat_tmod _ _).symm
    rw [etm,eq]
    have hd8:N' / W.length ≤ 8:=Nat.le_trans (Nat.div_le_self _ _) hN8
    have e1:IntKind.wrap .i64 (((N' / W.length:Nat):Int) + 1) = ((N' / W.length + 1:Nat):Int):=by
     generalize N' / W.length = dv at hd8 ⊢
     rw [yaI (by omega) (by omega)]; omega
    rw [e1]
    refine yaC (fun g5 => ?_) fun g5 => ?_
    ·have e2:N' / W.length + 1 = ywT N' W.length k:=by rw [ywT,if_pos (by omega)]
     rw [e2]
     generalize ywT N' W.length k = cnt at hr hcn ⊢
     refine yt5 (fun m x12 x70 w' => ∃ (p:Nat) (qs:List PsV),x70 = p ∧ x12 = ((c1 + p:Nat):Int) ∧ p ≤ cnt ∧ OutAt w' w.heap.size a7 n' n' qs ∧ Row w' w7.heap.size 3 1 ycO a10 W.length c10 (W.map fun j:Nat => (j:Int)) ∧ ygQ (ms.map (·.x)) (l.drop (i + 1)) (yhR t.t N' W.length (W.drop (k + 1)) (k + 1) (c1 + cnt) (yt9 t.t j (c1 + p) (cnt - p) (qs.map (·.l)))) = yi5 l (ms.map (·.x)) ∧ qs.length = ms.length ∧ (∀ q ∈ qs,bm ∉ yaN q.s.a) ∧ (∀ q ∈ qs,q.l.length ≤ 1000 * i + 10 * k + p) ∧ Mod [] w w' ∧ w7.heap.size ≤ w'.heap.size ∧ m = cnt - p) cnt
      ⟨0,qs,rfl,by simp,by omega,hO9,hI,hr,hql,hbq,by simpa using hqn,N9,s9,rfl⟩ ?_
     clear hr hO9 hI hbq hqn hql
     rintro m x12 x70 w10 ⟨p,qs,rfl,rfl,hp,hO,hI,hr,hql,hbq,hqn,N10,s10,rfl⟩
     refine yaC (fun hlt4 => ?_) fun hge4 => ?_
     ·obtain ⟨q,hq⟩:∃ q,qs[j]? = some q:=⟨_,List.getElem?_eq_getElem (by omega)⟩
      have hqm:=List.mem_of_getElem? hq
      refine (hO.row.sl yeC).ixW hq fun q1 g1 => ?_
      intro w11 A11
      have N11:=N10.go0 A11.mod (by simp)
      have hO11:=hO.keep0 A11.mod
      have hI11:=hI.keep0 A11.mod
      have s11:=A11.mod.size
      have s11':=N11.size
      refine yaU (x:=q.s.a) (n:=q.s.n) (c:=q.s.c) (by simpa [add_zero,yf8] using g1 _ A11.mod 0 _ rfl) ?_
      refine yqO (f:=q.s) (y:=⟨t.t,((c1 + p:Nat):Int)⟩) (hO11.parts q hqm) (by have:=hqn q hqm; omega) (by omega) (fun b hb => by simp at hb; subst hb; exact hbq q hqm) fun a3 c3 w12 hR12 M12 hk12 => ?_
      have s12:=M12.size
      have N12:=N11.go0 M12 fun z hz => (yaG (hO11.parts q hqm) z hz).1
      have hI12:=yaA hI11 M12 (ya3 (hO11.parts q hqm) hI11 (by decide))
      have hb3:bm ∉ yaN a3:=fun hz => by
       rcases hk12 bm hz with hz | hz
       ·exact hbq q hqm hz
       ·omega
      refine (hO11.row1 hqm M12).store yeC (y:=⟨⟨a3,q.s.n + 1,c3⟩,q.l ++ [⟨t.t,((c1 + p:Nat):Int)⟩]⟩) rfl hq fun ad w13 had hR13 M13 => ?_
      have hsb:∀ z ∈ [ad.block],z ∈ yaN a7:=fun z hz => by simp at hz; subst hz; exact ycN _ ad had
      have hO13:=hO11.give hq M12 hR12 hk12 had hR13 M13
      refine ⟨yaF.of M13 fun b hb _ hz => hba (by simp at hb; subst hb; exact hsb _ hz),?_⟩
      have s13:=M13.size
      have ex:IntKind.wrap .i64 ((p:Int) + 1) = ((p + 1:Nat):Int):=by rw [yaI (by omega) (by omega)]; omega
      have ec:IntKind.wrap .i64 (((c1 + p:Nat):Int) + 1) = ((c1 + (p + 1):Nat):Int):=by rw [yaI (by omega) (by omega)]; omega
      rw [ex,ec]
      have hI13:=yaA hI12 M13 fun z hz => ya3 (hO11.row1 hqm M12) hI12 (by decide) z (hsb z hz)
      refine yt4 (cnt - (p + 1)) (by omega) ⟨p + 1,_,rfl,rfl,by omega,hO13,hI13,?_,by simpa using hql,fun x hx => ?_,fun x hx => ?_,N12.go0 M13 fun z hz => (yaG hO11.row z (hsb z hz)).1,by omega,rfl⟩
      ·rw [show cnt - p = (cnt - (p + 1)) + 1 by omega] at hr
       rw [yqQ hq]
       exact hr
      ·rcases yeF hx with rfl | ⟨jj,_,hxj⟩
       ·exact hb3
       ·exact hbq x (List.mem_of_getElem? hxj)
      ·rcases yeF hx with rfl | ⟨jj,_,hxj⟩
       ·have:=hqn q hqm
        simp; omega
       ·have:=hqn x (List.mem_of_getElem? hxj)
        omega
     ·have hp':p = cnt:=by omega
      subst hp'
      rw [Nat.sub_self] at hr
      have ex:IntKind.wrap .i64 ((k:Int) + 1) = ((k + 1:Nat):Int):=by rw [yaI (by omega) (by omega)]; omega
      rw [ex]
      exact yt3 (W.length - (k + 1)) (by omega) ⟨k + 1,c1 + p,qs,rfl,rfl,by omega,by omega,hO,hI,hr,hql,hbq,fun q hq => by have:=hqn q hq; omega,N10,s10,rfl⟩
    ·have e2:N' / W.length = ywT N' W.length k:=by rw [ywT,if_neg (by omega)]; omega
     rw [e2]
     generalize ywT N' W.length k = cnt at hr hcn ⊢
     refine yt5 (fun m x12 x70 w' => ∃ (p:Nat) (qs:List PsV),x70 = p ∧ x12 = ((c1 + p:Nat):Int) ∧ p ≤ cnt ∧ OutAt w' w.heap.size a7 n' n' qs ∧ Row w' w7.heap.size 3 1 ycO a10 W.length c10 (W.map fun j:Nat => (j:Int)) ∧ ygQ (ms.map (·.x)) (l.drop (i + 1)) (yhR t.t N' W.length (W.drop (k + 1)) (k + 1) (c1 + cnt) (yt9 t.t j (c1 + p) (cnt - p) (qs.map (·.l)))) = yi5 l (ms.map (·.x)) ∧ qs.length = ms.length ∧ (∀ q ∈ qs,bm ∉ yaN q.s.a) ∧ (∀ q ∈ qs,q.l.length ≤ 1000 * i + 10 * k + p) ∧ Mod [] w w' ∧ w7.heap.size ≤ w'.heap.size ∧ m = cnt - p) cnt
      ⟨0,qs,rfl,by simp,by omega,hO9,hI,hr,hql,hbq,by simpa using hqn,N9,s9,rfl⟩ ?_
     clear hr hO9 hI hbq hqn hql
     rintro m x12 x70 w10 ⟨p,qs,rfl,rfl,hp,hO,hI,hr,hql,hbq,hqn,N10,s10,rfl⟩
     refine yaC (fun hlt4 => ?_) fun hge4 => ?_
     ·obtain ⟨q,hq⟩:∃ q,qs[j]? = some q:=⟨_,List.getElem?_eq_getElem (by omega)⟩
      have hqm:=List.mem_of_getElem? hq
      refine (hO.row.sl yeC).ixW hq fun q1 g1 => ?_
      intro w11 A11
      have N11:=N10.go0 A11.mod (by simp)
      have hO11:=hO.keep0 A11.mod
      have hI11:=hI.keep0 A11.mod
      have s11:=A11.mod.size
      have s11':=N11.size
      refine yaU (x:=q.s.a) (n:=q.s.n) (c:=q.s.c) (by simpa [add_zero,yf8] using g1 _ A11.mod 0 _ rfl) ?_
      refine yqO (f:=q.s) (y:=⟨t.t,((c1 + p:Nat):Int)⟩) (hO11.parts q hqm) (by have:=hqn q hqm; omega) (by omega) (fun b hb => by simp at hb; subst hb; exact hbq q hqm) fun a3 c3 w12 hR12 M12 hk12 => ?_
      have s12:=M12.size
      have N12:=N11.go0 M12 fun z hz => (yaG (hO11.parts q hqm) z hz).1
      have hI12:=yaA hI11 M12 (ya3 (hO11.parts q hqm) hI11 (by decide))
      have hb3:bm ∉ yaN a3:=fun hz => by
       rcases hk12 bm hz with hz | hz
       ·exact hbq q hqm hz
       ·omega
      refine (hO11.row1 hqm M12).store yeC (y:=⟨⟨a3,q.s.n + 1,c3⟩,q.l ++ [⟨t.t,((c1 + p:Nat):Int)⟩]⟩) rfl hq fun ad w13 had hR13 M13 => ?_
      have hsb:∀ z ∈ [ad.block],z ∈ yaN a7:=fun z hz => by simp at hz; subst hz; exact ycN _ ad had
      have hO13:=hO11.give hq M12 hR12 hk12 had hR13 M13
      refine ⟨yaF.of M13 fun b hb _ hz => hba (by simp at hb; subst hb; exact hsb _ hz),?_⟩
      have s13:=M13.size
      have ex:IntKind.wrap .i64 ((p:Int) + 1) = ((p + 1:Nat):Int):=by rw [yaI (by omega) (by omega)]; omega
      have ec:IntKind.wrap .i64 (((c1 + p:Nat):Int) + 1) = ((c1 + (p + 1):Nat):Int):=by rw [yaI (by omega) (by omega)]; omega
      rw [ex,ec]
      have hI13:=yaA hI12 M13 fun z hz => ya3 (hO11.row1 hqm M12) hI12 (by decide) z (hsb z hz)
      refine yt4 (cnt - (p + 1)) (by omega) ⟨p + 1,_,rfl,rfl,by omega,hO13,hI13,?_,by simpa using hql,fun x hx => ?_,fun x hx => ?_,N12.go0 M13 fun z hz => (yaG hO11.row z (hsb z hz)).1,by omega,rfl⟩
      ·rw [show cnt - p = (cnt - (p + 1)) + 1 by omega] at hr
       rw [yqQ hq]
       exact hr
      ·rcases yeF hx with rfl | ⟨jj,_,hxj⟩
       ·exact hb3
       ·exact hbq x (List.mem_of_getElem? hxj)
      ·rcases yeF hx with rfl | ⟨jj,_,hxj⟩
       ·have:=hqn q hqm
        simp; omega
       ·have:=hqn x (List.mem_of_getElem? hxj)
        omega
     ·have hp':p = cnt:=by omega
      subst hp'
      rw [Nat.sub_self] at hr
      have ex:IntKind.wrap .i64 ((k:Int) + 1) = ((k + 1:Nat):Int):=by rw [yaI (by omega) (by omega)]; omega
      rw [ex]
      exact yt3 (W.length - (k + 1)) (by omega) ⟨k + 1,c1 + p,qs,rfl,rfl,by omega,by omega,hO,hI,hr,hql,hbq,fun q hq => by have:=hqn q hq; omega,N10,s10,rfl⟩
   ·have hk':k = W.length:=by omega
    subst hk'
    rw [List.drop_length] at hr
    have ex:IntKind.wrap .i64 ((i:Int) + 1) = ((i + 1:Nat):Int):=by rw [yaI (by omega) (by omega)]; omega
    rw [ex]
    exact yDz (l.length - (i + 1)) (by omega) ⟨i + 1,qs,rfl,by omega,hO9,hr,hql,fun q hq => by have:=hqn q hq; omega,N9,rfl⟩
 ·have hi':i = l.length:=by omega
  subst hi'
  rw [List.drop_length] at hr
  exact ⟨N,.inr ⟨g,_,_,_,qs,rfl,hO,hr⟩⟩
end Go.Proofs.YteldhjiiocmicaaGreat
namespace Go.Proofs.YteldhjiiocmicaaGreat
open Go Go.RowKit Go.Maps Go.MapKept
open Go.ChangeMaps (setBlock)
set_option linter.unusedVariables false
set_option linter.unusedSimpArgs false
set_option maxHeartbeats 2000000
def yAA (ms:List PMem) (t:ByteArray) (place:Nat):Option Nat:=(List.range ms.length).find? fun k => yhS ms t ((place + k) % ms.length)
def yuA (ms:List PMem) (t:ByteArray) (place:Nat):Option Nat:=(yAA ms t place).map fun k => (place + k) % ms.length
def yLS (o:Option Nat):Int:=match o with
 | some i => (i:Int)
 | none => -1
theorem yDM {w:World} {a':Option Addr} {n' c' b0 b1 place:Nat} {z0 z1:Nat × Nat} {ms:List MemV} (hm:ynA w a' n' ms) (h0:w.heap[b0]? = some (.cells #[.slice a' n' c'] 217 z0)) (h1:w.heap[b1]? = some (.cells #[.int .i64 (place:Int)] 3 z1)) (hp:place ≤ 8) (hm8:ms.length ≤ 8) (t:ByteArray) :
  Calls pP 147 #[.string t,.pointer (some ⟨b0,0,none⟩),.pointer (some ⟨b1,0,none⟩)] w fun e w' => e = .returned (.int .i64 (yLS (yuA (ms.map (·.x)) t place))) ∧ Mod [] w w':=by
 obtain rfl:n' = ms.length:=hm.1.1
 refine ya0 (yLP ?_)
 refine yaU (x:=a') (n:=ms.length) (c:=c') (by rw [yaM h0]; rfl) ?_
 refine yDJ (fun m x w' => ∃ k:Nat,x = k ∧ k ≤ ms.length ∧ (∀ j,j < k → yhS (ms.map (·.x)) t ((place + j) % ms.length) = false) ∧ Mod [] w w' ∧ m = ms.length - k) ms.length ⟨0,rfl,by omega,fun j hj => by omega,Mod.refl _,rfl⟩ ?_
 rintro m x w1 ⟨k,rfl,hk,hno,M1,rfl⟩
 refine yaC (fun hlt => ?_) fun hge => ?_
 ·refine yaK (x:=(place:Int)) (by rw [yaM (M1.keep0 h1)]; rfl) ?_
  refine yaU (x:=a') (n:=ms.length) (c:=c') (by rw [yaM (M1.keep0 h0)]; rfl) ⟨by omega,?_⟩
  refine yaU (x:=a') (n:=ms.length) (c:=c') (by rw [yaM (M1.keep0 h0)]; rfl) ?_
  have ei:Int.tmod (IntKind.wrap .i64 ((place:Int) + k)) (ms.length:Int) = (((place + k) % ms.length:Nat):Int):=by
   rw [yaI (by omega) (by omega),show (place:Int) + k = ((place + k:Nat):Int) by omega]
   exact (Int.ofNat_tmod _ _).symm
  rw [ei]
  have hi:(place + k) % ms.length < ms.length:=Nat.mod_lt _ (by omega)
  obtain ⟨y,hy⟩:∃ y,ms[(place + k) % ms.length]? = some y:=⟨_,List.getElem?_eq_getElem hi⟩
  refine (hm.1.keep0 M1).ix hy fun q hq => yaL (x:=y.x.name) (by simpa [add_zero,yAz] using hq 0 _ rfl) (yaU (x:=y.ts.a) (n:=y.ts.n) (c:=y.ts.c) (by simpa [yAz] using hq 1 _ rfl) ?_)
  obtain ⟨hys,hyl⟩:=hm.2 y (List.mem_of_getElem? hy)
  refine (yy3 (hys.keep0 M1) hyl t).mono ?_
  rintro _ w10 ⟨rfl,M10⟩
  have ew:yhS (ms.map (·.x)) t ((place + k) % ms.length) = inS y.x.topics t:=by simp [yhS,hy]
  refine ⟨_,rfl,yaE (fun g => ?_) fun g => ?_⟩
  ·have:yAA (ms.map (·.x)) t place = some k:=by
    rw [yAA,List.length_map,List.find?_range_eq_some]
    exact ⟨by rw [ew,g],by simp; omega,fun j hj => by rw [hno j hj]; rfl⟩
   refine ⟨?_,M1.go0 M10 (by simp)⟩
   rw [yuA,this,Option.map_some,List.length_map]
   rfl
  ·refine yDI (ms.length - (k + 1)) (by omega) ⟨k + 1,by rw [yaI (by omega) (by omega)]; omega,by omega,fun j hj => ?_,M1.go0 M10 (by simp),rfl⟩
   by_cases e:j = k
   ·subst e; rw [ew,g]
   ·exact hno j (by omega)
 ·have:yAA (ms.map (·.x)) t place = none:=by
   rw [yAA,List.length_map,List.find?_range_eq_none]
   exact fun j hj => by rw [hno j (by omega)]; rfl
  refine ⟨?_,M1⟩
  rw [yuA,this]; rfl
theorem yFx {ms:List PMem} {t:ByteArray} {place i:Nat} (h:yuA ms t place = some i):i < ms.length:=by
 obtain ⟨k,hk,rfl⟩:=Option.map_eq_some_iff.1 h
 rw [yAA,List.find?_range_eq_some] at hk
 have:=hk.2.1
 exact Nat.mod_lt _ (by simp at this; omega)
def yi6 (ms:List PMem) (t:ByteArray):Nat → Nat → Nat → List (List PPart) → List (List PPart) × Nat
 | _,0,place,L => (L,place)
 | p,r + 1,place,L => match yuA ms t place with
  | none => (L,place)
  | some i => yi6 ms t (p + 1) r (i + 1) (yqP L i ⟨t,(p:Int)⟩)
def yi7 (ms:List PMem):List PTop → Nat → List (List PPart) → List (List PPart)
 | [],_,L => L
 | x :: r,place,L => yi7 ms r (yi6 ms x.t 0 x.n.toNat place L).2 (yi6 ms x.t 0 x.n.toNat place L).1
def ynB (l:List PTop) (ms:List PMem):List (List PPart):=yi7 ms l 0 (List.replicate ms.length [])
theorem yFy {w:World} {a a':Option Addr} {n c n' c':Nat} {l:List PTop} {ms:List MemV} (h:ybF w 2 ynU a n l) (hm:ynA w a' n' ms) :
  Calls pP 111 #[.slice a n c,.slice a' n' c'] w fun e w' => ∃ v,e = .returned v ∧ Mod [] w w' ∧ yGB w w' (ycQ l (ms.map (·.x))) (ynB l (ms.map (·.x))) v:=by
 have hn:=h.1
 have hn':=hm.1.1
 refine yLM ?_
 intro b0 hb0 w1 A1
 have M1:=A1.mod
 have s1:=M1.size
 refine (yt7 (h.keep0 M1) (hm.1.keep0 M1)).mono ?_
 rintro _ w3 ⟨rfl,M3'⟩
 have M3:=M1.go0 M3' (by simp)
 refine ⟨_,rfl,yaF.of0 M3',yaE (fun g => ?_) fun g => ?_⟩
 ·have g:ycQ l (ms.map (·.x)) ≠ 0:=by simpa using g
  exact ⟨M3,.inl ⟨g,rfl⟩⟩
 have g:ycQ l (ms.map (·.x)) = 0:=by simpa using g
 obtain ⟨hl8,hm8,hx8⟩:=ypC g
 rw [List.length_map] at hm8
 have s3:=M3.size
 have s3':=M3'.size
 have hb03:b0 < w1.heap.size:=A1.lt b0 (by simp)
 obtain ⟨i0,hi0,hz0,hz1,hz2⟩:=info_parts yGz
 obtain ⟨w5,hw5,ho5,hg5⟩:=run_makeSlice_full (P:=pP) (w:=w3) w3.heap.size 219 28 i0 (.slice none 0 0) 1 Tryz.underlying219 hi0 hz0 hz1 .i64 .i64 n' (by omega) (by rw [hz2]; omega) (by unfold maxLen; omega) (by omega)
 refine ⟨_,_,_,w5,hw5,?_⟩
 have M5:Mod [] w3 w5:=⟨hg5.os,hg5.tape,hg5.output,hg5.size,fun j hj _ => hg5.block j hj (by simp)⟩
 have hO5:OutAt w5 w3.heap.size (some ⟨w3.heap.size,0,none⟩) n' n' (List.replicate n' ⟨ya8,[]⟩):=by
  refine ⟨⟨by simp,by rw [← yGA n' (by omega)]; exact ho5⟩,fun q hq => ?_,?_⟩
  ·rw [List.eq_of_mem_replicate hq]; exact Row.nil _ _ _ _ _
  ·refine List.pairwise_replicate.2 (.inr ?_)
   intro z hz
   simp [ya8,yaN] at hz
 have N5:=M3.go0 M5 (by simp)
 generalize (some ⟨w3.heap.size,0,none⟩:Option Addr) = a7 at hO5 ⊢
 refine ⟨yaF.of0 M5,?_⟩
 intro b1 hb1 w6 A6 h06 h16
 have s5:=M5.size
 have N6:=N5.go0 A6.mod (by simp)
 have hb16:b1 < w6.heap.size:=A6.lt b1 (by simp)
 have s6:=A6.mod.size
 have hO6:=hO5.keep0 A6.mod
 have hba0:b0 ∉ yaN a7:=fun hz => by have:=(yaG hO5.row b0 hz).1; omega
 have hba1:b1 ∉ yaN a7:=fun hz => by have:=(yaG hO5.row b1 hz).2; omega
 have hab:∀ z ∈ yaN a7,z < w5.heap.size:=fun z hz => (yaG hO5.row z hz).2
 have hR0:∀ {w'},OutAt w' w3.heap.size a7 n' n' (List.replicate n' ⟨ya8,[]⟩) → OutAt w' w.heap.size a7 n' n' (List.replicate n' ⟨ya8,[]⟩):=fun h => ⟨h.row.rebase (by omega),fun q hq => (h.parts q hq).rebase (by omega),h.apart⟩
 have hO6:=hR0 hO6
 refine yDF (fun m x a0 n0 c0 xp w' => ∃ (i place:Nat) (qs:List PsV),x = i ∧ a' = a0 ∧ n' = n0 ∧ c' = c0 ∧ xp = (place:Int) ∧ place ≤ 8 ∧ i ≤ l.length ∧ OutAt w' w.heap.size a7 n' n' qs ∧ yi7 (ms.map (·.x)) (l.drop i) place (qs.map (·.l)) = ynB l (ms.map (·.x)) ∧ qs.length = ms.length ∧ (∀ q ∈ qs,b0 ∉ yaN q.s.a ∧ b1 ∉ yaN q.s.a) ∧ (∀ q ∈ qs,q.l.length ≤ 100 * i) ∧ Mod [] w w' ∧ w6.heap.size ≤ w'.heap.size ∧ m = l.length - i) l.length
  ⟨0,0,_,rfl,rfl,rfl,rfl,rfl,by omega,by omega,hO6,by rw [ynB,List.length_map,← hn',List.map_replicate]; rfl,by simp [hn'],fun q hq => by rw [List.eq_of_mem_replicate hq]; simp [ya8,yaN],fun q hq => by rw [List.eq_of_mem_replicate hq]; simp,N6,Nat.le_refl _,rfl⟩ ?_
 clear hO6 hO5 hR0 h06 h16
 rintro m x _ _ _ _ w7 ⟨i,place,qs,rfl,rfl,rfl,rfl,rfl,hpl,hi,hO,hr,hql,hbq,hqn,N,s7,rfl⟩ h0 h1
 refine yaC (fun hlt => ?_) fun hge => ?_
 ·obtain ⟨t,ht⟩:∃ t,l[i]? = some t:=⟨_,List.getElem?_eq_getElem (by omega)⟩
  obtain ⟨N',hN'⟩:∃ N':Nat,t.n = N':=⟨t.n.toNat,by have:=(hx8 t (List.mem_of_getElem? ht)).1; omega⟩
  have hN8:N' ≤ 8:=by have:=(hx8 t (List.mem_of_getElem? ht)).2; omega
  refine (h.keep0 N).ix ht fun q hq => yaL (by simpa [add_zero,ynU] using hq 0 _ rfl) (yaK (x:=t.n) (by simpa [ynU] using hq 1 _ rfl) ?_)
  intro b2 hb2 w8 A8 h08 h18
  have hb28:b2 < w8.heap.size:=A8.lt b2 (by simp)
  have N8:=N.go0 A8.mod (by simp)
  have s8:=A8.mod.size
  have sw:=N.size
  have hO8:=hO.keep0 A8.mod
  have hba2:b2 ∉ yaN a7:=fun hz => by have:=hab b2 hz; omega
  have hbq':∀ q ∈ qs,b0 ∉ yaN q.s.a ∧ b1 ∉ yaN q.s.a ∧ b2 ∉ yaN q.s.a:=fun q hq => ⟨(hbq q hq).1,(hbq q hq).2,fun hz => by have:=(yaG (hO.parts q hq) b2 hz).2; omega⟩
  rw [yFv ht] at hr
  rw [hN']
  change yi7 _ _ (yi6 _ t.t 0 t.n.toNat _ _).2 (yi6 _ t.t 0 t.n.toNat _ _).1 = _ at hr
  rw [hN',Int.toNat_natCast] at hr
  refine yDH (fun m x32 a0 n0 c0 xp w' => ∃ (p place:Nat) (qs:List PsV),x32 = p ∧ a' = a0 ∧ n' = n0 ∧ c' = c0 ∧ xp = (place:Int) ∧ place ≤ 8 ∧ p ≤ N' ∧ OutAt w' w.heap.size a7 n' n' qs ∧ yi7 (ms.map (·.x)) (l.drop (i + 1)) (yi6 (ms.map (·.x)) t.t p (N' - p) place (qs.map (·.l))).2 (yi6 (ms.map (·.x)) t.t p (N' - p) place (qs.map (·.l))).1 = ynB l (ms.map (·.x)) ∧ qs.length = ms.length ∧ (∀ q ∈ qs,b0 ∉ yaN q.s.a ∧ b1 ∉ yaN q.s.a ∧ b2 ∉ yaN q.s.a) ∧ (∀ q ∈ qs,q.l.length ≤ 100 * i + p) ∧ Mod [] w w' ∧ w8.heap.size ≤ w'.heap.size ∧ m = N' - p) N'
   ⟨0,place,qs,rfl,rfl,rfl,rfl,rfl,hpl,by omega,hO8,hr,hql,hbq',by simpa using hqn,N8,Nat.le_refl _,rfl⟩ ?_
  clear hr hO hO8 hbq hbq' hqn hql h08 h18 h0 h1 hpl
  rintro m x32 _ _ _ _ w9 ⟨p,place,qs,rfl,rfl,rfl,rfl,rfl,hpl,hp,hO,hr,hql,hbq,hqn,N9,s9,rfl⟩ h0 h1
  have ei:IntKind.wrap .i64 ((i:Int) + 1) = ((i + 1:Nat):Int):=by rw [yaI (by omega) (by omega)]; omega
  rw [ei]
  refine yaC (fun hlt2 => ?_) fun hge2 => ?_
  ·refine (yDM (hm.keep0 N9) h0 h1 hpl hm8 t.t).mono ?_
   rintro _ w10 ⟨rfl,M10⟩
   have N10:=N9.go0 M10 (by simp)
   have h010:=M10.keep0 h0
   have h110:=M10.keep0 h1
   have hO10:=hO.keep0 M10
   have s10:=M10.size
   refine ⟨_,rfl,yaF.of0 M10,_,_,_,h010,_,h110,?_⟩
   rw [show N' - p = (N' - (p + 1)) + 1 by omega] at hr
   rw [yi6] at hr
   cases hnx:yuA (ms.map (·.x)) t.t place with
   | none =>
    rw [hnx] at hr
    refine yaE (fun _ => ?_) fun g => by simp [yLS] at g
    exact yt6 (l.length - (i + 1)) (by omega) ⟨i + 1,place,qs,rfl,rfl,rfl,rfl,rfl,hpl,by omega,hO10,hr,hql,fun q hq => ⟨(hbq q hq).1,(hbq q hq).2.1⟩,fun q hq => by have:=hqn q hq; omega,N10,by omega,rfl⟩
   | some j =>
    rw [hnx] at hr
    change yi7 _ _ (yi6 _ t.t (p + 1) (N' - (p + 1)) (j + 1) (yqP _ j ⟨t.t,(p:Int)⟩)).2 (yi6 _ t.t (p + 1) (N' - (p + 1)) (j + 1) (yqP _ j ⟨t.t,(p:Int)⟩)).1 = _ at hr
    have hj:=yFx hnx
    rw [List.length_map] at hj
    change brB ((j:Int) == -1) _ _
    refine yaE (fun g => by simp at g) fun _ => ?_
    obtain ⟨q,hq⟩:∃ q,qs[j]? = some q:=⟨_,List.getElem?_eq_getElem (by omega)⟩
    have hqm:=List.mem_of_getElem? hq
    refine (hO10.row.sl yeC).ixW hq fun q1 g1 => ?_
    intro w11 A11 h011 h111
    have N11:=N10.go0 A11.mod (by simp)
    have hO11:=hO10.keep0 A11.mod
    have s11:=A11.mod.size
    refine yaU (x:=q.s.a) (n:=q.s.n) (c:=q.s.c) (by simpa [add_zero,yf8] using g1 _ A11.mod 0 _ rfl) ?_
    obtain ⟨hq0,hq1,hq2⟩:=hbq q hqm
    refine yqO (f:=q.s) (y:=⟨t.t,(p:Int)⟩) (hO11.parts q hqm) (by have:=hqn q hqm; omega) (by omega) (fun b hb => by simp at hb; rcases hb with rfl | rfl | rfl <;> assumption) fun a3 c3 w12 hR12 M12 hk12 => ?_
    have s12:=M12.size
    have N12:=N11.go0 M12 fun z hz => (yaG (hO11.parts q hqm) z hz).1
    have hb3:b0 ∉ yaN a3 ∧ b1 ∉ yaN a3 ∧ b2 ∉ yaN a3:=by
     refine ⟨fun hz => ?_,fun hz => ?_,fun hz => ?_⟩ <;> rcases hk12 _ hz with hz | hz
     ·exact hq0 hz
     ·omega
     ·exact hq1 hz
     ·omega
     ·exact hq2 hz
     ·omega
    refine (hO11.row1 hqm M12).store yeC (y:=⟨⟨a3,q.s.n + 1,c3⟩,q.l ++ [⟨t.t,(p:Int)⟩]⟩) rfl hq fun ad w13 had hR13 M13 => ?_
    have hsb:∀ z ∈ [ad.block],z ∈ yaN a7:=fun z hz => by simp at hz; subst hz; exact ycN _ ad had
    have hO13:=hO11.give hq M12 hR12 hk12 had hR13 M13
    refine ⟨yaF.of M13 fun b hb _ hz => ?_,?_⟩
    ·simp at hb; subst hb; exact hba2 (hsb _ hz)
    have s13:=M13.size
    have h012:=M12.keep h011 hq0
    have h112:=M12.keep h111 hq1
    refine ⟨_,_,_,M13.keep h012 fun hz => hba0 (hsb _ hz),_,M13.keep h112 fun hz => hba1 (hsb _ hz),?_⟩
    intro w14 A14 h014 h114
    have ex:IntKind.wrap .i64 ((p:Int) + 1) = ((p + 1:Nat):Int):=by rw [yaI (by omega) (by omega)]; omega
    have ec:IntKind.wrap .i64 ((j:Int) + 1) = ((j + 1:Nat):Int):=by rw [yaI (by omega) (by omega)]; omega
    change KS _ (ym8 _ _ _ _ _ _ _ _ _ _ _ _ _ _ _ _ (IntKind.wrap .i64 ((p:Int) + 1),_,_,_,IntKind.wrap .i64 ((j:Int) + 1))) _
    rw [ex,ec]
    have N13:=N12.go0 M13 fun z hz => (yaG hO11.row z (hsb z hz)).1
    have s14:=A14.mod.size
    have hbn:∀ x ∈ qs.set j ⟨⟨a3,q.s.n + 1,c3⟩,q.l ++ [⟨t.t,(p:Int)⟩]⟩,b0 ∉ yaN x.s.a ∧ b1 ∉ yaN x.s.a ∧ b2 ∉ yaN x.s.a:=fun x hx => by
     rcases yeF hx with rfl | ⟨jj,_,hxj⟩
     ·exact hb3
     ·exact hbq x (List.mem_of_getElem? hxj)
    have hO14:=hO13.keep A14.mod (fun z hz => by simp at hz; subst hz; exact hba1) fun x hx z hz => by simp at hz; subst hz; exact (hbn x hx).2.1
    refine yDG (N' - (p + 1)) (by omega) ⟨p + 1,j + 1,_,rfl,rfl,rfl,rfl,rfl,by omega,by omega,hO14,?_,by simpa using hql,hbn,fun x hx => ?_,N13.go0 A14.mod fun z hz => by simp at hz; omega,by omega,rfl⟩
    ·rw [yqQ hq]
     exact hr
    ·rcases yeF hx with rfl | ⟨jj,_,hxj⟩
     ·have:=hqn q hqm
      simp; omega
     ·have:=hqn x (List.mem_of_getElem? hxj)
      omega
  ·have hp':p = N':=by omega
   subst hp'
   rw [Nat.sub_self] at hr
   exact yt6 (l.length - (i + 1)) (by omega) ⟨i + 1,place,qs,rfl,rfl,rfl,rfl,rfl,hpl,by omega,hO,hr,hql,fun q hq => ⟨(hbq q hq).1,(hbq q hq).2.1⟩,fun q hq => by have:=hqn q hq; omega,N9,by omega,rfl⟩
 ·have hi':i = l.length:=by omega
  subst hi'
  rw [List.drop_length] at hr
  exact ⟨N,.inr ⟨g,_,_,_,qs,rfl,hO,hr⟩⟩
end Go.Proofs.YteldhjiiocmicaaGreat
namespace Go.Proofs.YteldhjiiocmicaaGreat
open Go Go.RowKit Go.Maps Go.MapKept
open Go.ChangeMaps (setBlock)
set_option linter.unusedVariables false
set_option linter.unusedSimpArgs false
set_option maxHeartbeats 2000000
def ydV (q:SeatV):List Value:=[.string q.x.name,.slice q.ts.a q.ts.n q.ts.c,.int .i64 q.x.tmo,.int .i64 q.x.seen]
theorem ynC (q:SeatV):(ydV q).length = 4:=rfl
theorem ywV (q:SeatV):∀ u ∈ ydV q,u.oneCell' = true:=by simp [ydV,Value.oneCell']
theorem yFz:(Tryz.prog.info? 122).map (fun i => (i.zero,i.size,i.bytes)) = some (some (.agg #[.string ByteArray.empty,.slice none 0 0,.int .i64 0,.int .i64 0]),4,56):=by kernel_rfl
theorem yHZ:(Tryz.prog.info? 120).map (fun i => (i.zero,i.size,i.bytes)) = some (some (.agg #[.string ByteArray.empty,.slice none 0 0]),2,40):=by kernel_rfl
theorem yAB {w:World} {B:Nat} {f:Sl} {l:List SeatV} {y:SeatV} {bs:List Nat} {F:Option Addr → Nat → Nat → World → Prop} (hR:Row w B 122 4 ydV f.a f.n f.c l) (hl:l.length ≤ 1000000) (hB:B ≤ w.heap.size) (hbs:∀ b ∈ bs,b ∉ yaN f.a)
  (hF:∀ a' c' w',Row w' B 122 4 ydV a' (f.n + 1) c' (l ++ [y]) → Mod (yaN f.a) w w' → F a' (f.n + 1) c' w') :
  al w (.cells (ydV y).toArray 122) fun b w1 => ybC pP (Builtin.append_ #[163,163] 163 #[.slice f.a f.n f.c,.slice (some ⟨b,0,none⟩) 1 1]) w1 fun a n c w2 => yaF bs w1 w2 ∧ F a n c w2:=by
 refine yd6 fun b w1 c1 M1 f1 => ?_
 have s1:=M1.size
 obtain ⟨i0,hi0,hz0,hz1,hz2⟩:=info_parts yFz
 refine yl1 (x:=y) (hR.keep0 M1) Tryz.underlying163 hi0 hz0 hz1 hz2 rfl (by decide) c1 rfl (ywV _) (by omega) (by unfold maxLen; omega) (by omega) fun a' c' w8 hR8 hM8 => ?_
 have M8:=hM8 _ (ycN f.a)
 refine ⟨yaF.of M8 fun b hb _ => hbs b hb,hF a' c' w8 hR8 ?_⟩
 exact (M1.trans M8).less fun k hk _ => by simpa using hk
theorem yDN {w:World} {B:Nat} {f:Sl} {l:List MemV} {y:MemV} {bs:List Nat} {F:Option Addr → Nat → Nat → World → Prop} (hR:Row w B 120 2 yAz f.a f.n f.c l) (hl:l.length ≤ 1000000) (hB:B ≤ w.heap.size) (hbs:∀ b ∈ bs,b ∉ yaN f.a)
  (hF:∀ a' c' w',Row w' B 120 2 yAz a' (f.n + 1) c' (l ++ [y]) → Mod (yaN f.a) w w' → F a' (f.n + 1) c' w') :
  al w (.cells (yAz y).toArray 120) fun b w1 => ybC pP (Builtin.append_ #[217,217] 217 #[.slice f.a f.n f.c,.slice (some ⟨b,0,none⟩) 1 1]) w1 fun a n c w2 => yaF bs w1 w2 ∧ F a n c w2:=by
 refine yd6 fun b w1 c1 M1 f1 => ?_
 have s1:=M1.size
 obtain ⟨i0,hi0,hz0,hz1,hz2⟩:=info_parts yHZ
 refine yl1 (x:=y) (hR.keep0 M1) Tryz.underlying217 hi0 hz0 hz1 hz2 rfl (by decide) c1 rfl (yFt _) (by omega) (by unfold maxLen; omega) (by omega) fun a' c' w8 hR8 hM8 => ?_
 have M8:=hM8 _ (ycN f.a)
 refine ⟨yaF.of M8 fun b hb _ => hbs b hb,hF a' c' w8 hR8 ?_⟩
 exact (M1.trans M8).less fun k hk _ => by simpa using hk
def ydK (G:GL):List PSeat:=(ycW (G.map (·.1))).map fun k => (lkp G k).getD yfH
structure SeatsAt (w:World) (B:Nat) (a:Option Addr) (n c:Nat) (qs:List SeatV):Prop where
 row:Row w B 122 4 ydV a n c qs
 ts:∀ q ∈ qs,Row w B 9 1 yc8 q.ts.a q.ts.n q.ts.c q.x.topics
theorem SeatsAt.keep0 {w w':World} {B:Nat} {a:Option Addr} {n c:Nat} {qs:List SeatV} (h:SeatsAt w B a n c qs) (M:Mod [] w w'):SeatsAt w' B a n c qs:=⟨h.row.keep0 M,fun q hq => (h.ts q hq).keep0 M⟩
theorem yuB {w:World} {b:Nat} {gen:Int} {robin:Bool} {G:GL} {F:List Nat} (h:ycP w b gen robin G F) (hl:G.length ≤ 1000000) (hG:∀ q ∈ G,q.2.topics.length ≤ 1000000) :
  Calls pP 77 #[.pointer (some ⟨b,0,none⟩)] w fun e w' => ∃ v,e = .returned v ∧ ∃ (s:Sl) (qs:List SeatV),v = .slice s.a s.n s.c ∧ SeatsAt w' w.heap.size s.a s.n s.c qs ∧ qs.map (·.x) = ydK G ∧ Mod [] w w':=by
 have hA:=h
 obtain ⟨m,L,hc,hm,hT,rfl,rfl⟩:=h
 have lb:=yaH hc
 refine yLw hc ?_
 intro w9 A9 hc9
 have s9:=A9.mod.size
 refine (yi4 (hA.keep0 A9.mod) hl).mono ?_
 rintro _ w10 ⟨_,rfl,s,rfl,hN,M10⟩
 have N10:=A9.mod.go0 M10 (by simp)
 have s10:=M10.size
 refine ⟨_,_,_,rfl,_,_,_,M10.keep0 hc9,?_⟩
 have hlen:(ycW ((yaT L).map (·.1))).length ≤ 1000000:=by rw [ye3,List.length_map]; exact hl
 have hmemS:∀ k ∈ ycW ((yaT L).map (·.1)),k.size ≤ maxLen:=fun k hk => by
  have:=(ybX _).mem_iff.1 hk
  obtain ⟨p,hp,rfl⟩:=List.mem_map.1 this
  obtain ⟨p',hp',rfl⟩:=List.mem_map.1 hp
  exact hm.nameSize p' hp'
 unfold ydK
 generalize ycW ((yaT L).map (·.1)) = K at hN hlen hmemS ⊢
 have hn:=hN.1
 refine yDm (fun mm a3 n3 c3 x9 x0 t1 m2 w' => ∃ (k:Nat) (qs:List SeatV),x9 = k ∧ k ≤ K.length ∧ x0 = gen ∧ t1 = robin ∧ m2 = some m ∧ SeatsAt w' w.heap.size a3 n3 c3 qs ∧ qs.map (·.x) = (K.take k).map (fun k => (lkp (yaT L) k).getD yfH) ∧ Mod [] w w' ∧ Row w' w9.heap.size 9 1 yc8 s.a s.n s.c K ∧ mm = K.length - k) K.length
  ⟨0,[],rfl,by omega,rfl,rfl,rfl,⟨Row.nil _ _ _ _ _,by simp⟩,rfl,N10,hN,rfl⟩ ?_
 clear hN
 rintro mm a3 n3 c3 _ _ _ _ w1 ⟨k,qs,rfl,hk,rfl,rfl,rfl,hS,hqs,N,hN,rfl⟩ hcb
 refine yaC (fun hlt => ?_) fun hge => ?_
 ·obtain ⟨nm,hnm⟩:∃ nm,K[k]? = some nm:=⟨_,List.getElem?_eq_getElem (by omega)⟩
  refine (hN.sl (fun _ => rfl)).ix hnm fun q hq => yaL (x:=nm) (by simpa [add_zero,yc8] using hq 0 _ rfl) ?_
  have hlk:=(hm.keepM0 N).lkF (k:=nm) ydT ybH Tryz.underlying188 yhA (ybK (hmemS nm (List.mem_of_getElem? hnm)))
  refine ⟨_,_,_,_,_,_,hlk,?_⟩
  have eq:(lkp (yaT L) nm).getD yfH = ((lkp L nm).getD ⟨yfH,ya8⟩:SeatV).x:=by rw [yeA]; cases lkp L nm <;> rfl
  have hq:Row w1 0 9 1 yc8 ((lkp L nm).getD ⟨yfH,ya8⟩:SeatV).ts.a ((lkp L nm).getD ⟨yfH,ya8⟩:SeatV).ts.n ((lkp L nm).getD ⟨yfH,ya8⟩:SeatV).ts.c ((lkp L nm).getD ⟨yfH,ya8⟩:SeatV).x.topics ∧ ((lkp L nm).getD ⟨yfH,ya8⟩:SeatV).x.topics.length ≤ 1000000:=by
   cases e:lkp L nm with
   | none => exact ⟨Row.nil _ _ _ _ _,by simp [yfH]⟩
   | some q =>
    have hqm:=yaQ e
    exact ⟨(hT _ hqm).keep0 N,hG (nm,q.x) (List.mem_map.2 ⟨_,hqm,rfl⟩)⟩
  generalize (lkp L nm).getD ⟨yfH,ya8⟩ = q at hq eq ⊢
  obtain ⟨hq,hql⟩:=hq
  refine (ywI q.x (ts:=q.ts) (hq.sl (fun _ => rfl)) hql).mono ?_
  rintro _ w2 ⟨_,rfl,t',rfl,hR2,M2⟩
  refine ⟨_,_,_,_,_,_,rfl,_,_,_,M2.keep0 hcb,?_⟩
  have s2:=M2.size
  have sN:=N.size
  have hS2:=hS.keep0 M2
  have hN2:=hN.keep0 M2
  have N2:=N.go0 M2 (by simp)
  have hql':qs.length ≤ 1000000:=by
   have:=congrArg List.length hqs
   simp at this; omega
  refine yAB (f:=⟨a3,n3,c3⟩) (y:=⟨q.x,t'⟩) hS2.row hql' (by omega) (fun z hz hz' => by simp at hz; subst hz; have:=(yaG hS2.row _ hz').1; omega) fun a4 c4 w4 hR4 M4 => ?_
  have ex:IntKind.wrap .i64 ((k:Int) + 1) = ((k + 1:Nat):Int):=by rw [yaI (by omega) (by omega)]; omega
  rw [ex]
  have hd:∀ z ∈ yaN a3,w.heap.size ≤ z:=fun z hz => (yaG hS2.row z hz).1
  refine yDl (K.length - (k + 1)) (by omega) ⟨k + 1,qs ++ [⟨q.x,t'⟩],rfl,by omega,rfl,rfl,rfl,⟨hR4,fun x hx => ?_⟩,?_,N2.go0 M4 hd,yaA hN2 M4 (ya3 hS2.row hN2 (by decide)),rfl⟩
  ·rcases List.mem_append.1 hx with hx | hx
   ·exact yaA (hS2.ts x hx) M4 (ya3 hS2.row (hS2.ts x hx) (by decide))
   ·simp at hx; subst hx
    exact (yaA hR2 M4 (ya3 hS2.row hR2 (by decide))).rebase (by omega)
  ·rw [List.map_append,hqs,ybO hnm,List.map_append]
   simp [eq]
 ·have hk:k = K.length:=by omega
  subst hk
  rw [List.take_length] at hqs
  exact ⟨⟨a3,n3,c3⟩,qs,rfl,hS,hqs,N⟩
def yn4 (x:PSeat):PMem:=⟨x.name,x.topics⟩
def yMk (q:SeatV):MemV:=⟨yn4 q.x,q.ts⟩
def ywW (robin:Bool) (l:List PTop) (ms:List PMem):List (List PPart):=if robin = true then ynB l ms else yi5 l ms
def ycF (gen:Int) (robin:Bool) (G:GL) (l:List PTop) (name:ByteArray) (g:Int):Int × List PPart :=
 if ycQ l ((ydK G).map yn4) ≠ 0 then (ycQ l ((ydK G).map yn4),[]) else if ybM gen G name g ≠ 0 then (ybM gen G name g,[])
 else (0,(ywW robin l ((ydK G).map yn4)).getD ((ycW (G.map (·.1))).findIdx (eqS name)) [])
theorem yGC {l:List ByteArray} {s:ByteArray} {k:Nat} (h:l[k]? = some s) (h2:s ∉ l.take k):l.findIdx (eqS s) = k:=by
 obtain ⟨hk,e⟩:=List.getElem?_eq_some_iff.1 h
 rw [List.findIdx_eq hk]
 refine ⟨by rw [e]; simp [eqS],fun j hj => ?_⟩
 have:s ≠ l[j]:=fun e2 => h2 (by rw [e2]; exact List.mem_take_iff_getElem.2 ⟨j,by omega,rfl⟩)
 simp [eqS,this]
theorem yy4 {i:Nat} {p:PPart} {L:List (List PPart)}:(yqP L i p).length = L.length:=by simp [yqP]
theorem yy5 {t:ByteArray} {i:Nat}:∀ (n k:Nat) (L:List (List PPart)),(yt9 t i k n L).length = L.length
 | 0,_,_ => rfl
 | n + 1,k,L => by rw [yt9,yy5 n,yy4]
theorem yuC {t:ByteArray} {N tot:Nat}:∀ (W:List Nat) (k c:Nat) (L:List (List PPart)),(yhR t N tot W k c L).length = L.length
 | [],_,_,_ => rfl
 | i :: r,k,c,L => by rw [yhR,yuC r,yy5]
theorem yuD {ms:List PMem}:∀ (l:List PTop) (L:List (List PPart)),(ygQ ms l L).length = L.length
 | [],_ => rfl
 | x :: r,L => by rw [ygQ,yuD r,yuC]
theorem yAC (l:List PTop) (ms:List PMem):(yi5 l ms).length = ms.length:=by rw [yi5,yuD,List.length_replicate]
theorem yy6 {ms:List PMem} {t:ByteArray}:∀ (r p place:Nat) (L:List (List PPart)),(yi6 ms t p r place L).1.length = L.length
 | 0,_,_,_ => rfl
 | r + 1,p,place,L => by
  rw [yi6]
  cases yuA ms t place with
  | none => rfl
  | some i => exact (yy6 r _ _ _).trans yy4
theorem yuE {ms:List PMem}:∀ (l:List PTop) (place:Nat) (L:List (List PPart)),(yi7 ms l place L).length = L.length
 | [],_,_ => rfl
 | x :: r,place,L => by rw [yi7,yuE r,yy6]
theorem yAD (l:List PTop) (ms:List PMem):(ynB l ms).length = ms.length:=by rw [ynB,yuE,List.length_replicate]
theorem yuF {w:World} {b:Nat} {gen:Int} {robin:Bool} {G:GL} {F:List Nat} (h:ycP w b gen robin G F) (hl:G.length ≤ 1000000) (hG:∀ q ∈ G,q.2.topics.length ≤ 1000000) {a:Option Addr} {n c:Nat} {l:List PTop} (hT:ybF w 2 ynU a n l) {name:ByteArray} (hs:name.size ≤ maxLen) (g:Int) :
  Calls pP 54 #[.pointer (some ⟨b,0,none⟩),.string name,.int .i64 g,.slice a n c] w fun e w' => ∃ v,e = .returned v ∧ Mod [] w w' ∧ ∃ s:Sl,v = .tuple #[.slice s.a s.n s.c,.int .i64 (ycF gen robin G l name g).1] ∧ Row w' w.heap.size 33 2 yiH s.a s.n s.c (ycF gen robin G l name g).2:=by
 have hA:=h
 obtain ⟨m,L,hc,hm,hT',rfl,rfl⟩:=h
 have lb:=yaH hc
 refine yLz hc ?_
 intro w9 A9 hc9
 have s9:=A9.mod.size
 refine (yuB (hA.keep0 A9.mod) hl hG).mono ?_
 rintro _ w10 ⟨_,rfl,s,qs,rfl,hS,hqs,M10⟩
 have N10:=A9.mod.go0 M10 (by simp)
 have hc10:=M10.keep0 hc9
 refine ⟨_,_,_,rfl,_,_,_,hc10,?_⟩
 have hn:=hS.row.1
 have hlq:qs.length ≤ 1000000:=by
  have:=congrArg List.length hqs
  rw [ydK,List.length_map,List.length_map,ye3,List.length_map] at this
  omega
 have hqt:∀ q ∈ qs,q.x.topics.length ≤ 1000000:=fun q hq => by
  have:q.x ∈ ydK (yaT L):=by rw [← hqs]; exact List.mem_map.2 ⟨q,hq,rfl⟩
  obtain ⟨k,hk,e⟩:=List.mem_map.1 this
  rw [← e]
  cases e2:lkp (yaT L) k with
  | none => simp [yfH]
  | some y => exact hG (k,y) (yaQ e2)
 refine yDo (fun mm a10 n10 c10 x20 w' => ∃ k:Nat,x20 = k ∧ k ≤ qs.length ∧ Row w' w.heap.size 120 2 yAz a10 n10 c10 ((qs.take k).map yMk) ∧ SeatsAt w' w9.heap.size s.a s.n s.c qs ∧ Mod [] w w' ∧ mm = qs.length - k) qs.length
  ⟨0,rfl,by omega,Row.nil _ _ _ _ _,hS,N10,rfl⟩ ?_
 clear hS
 rintro mm a10 n10 c10 _ w1 ⟨k,rfl,hk,hR,hS,N,rfl⟩ hcb
 have sN:=N.size
 refine yaC (fun hlt => ?_) fun hge => ?_
 ·obtain ⟨q,hq⟩:∃ q,qs[k]? = some q:=⟨_,List.getElem?_eq_getElem (by omega)⟩
  refine (hS.row.sl ynC).ix hq fun p hp => yaL (x:=q.x.name) (by simpa [add_zero,ydV] using hp 0 _ rfl) (yaU (x:=q.ts.a) (n:=q.ts.n) (c:=q.ts.c) (by simpa [ydV] using hp 1 _ rfl) (yaK (x:=q.x.tmo) (by simpa [ydV] using hp 2 _ rfl) (yaK (x:=q.x.seen) (by simpa [ydV] using hp 3 _ rfl) ?_)))
  intro b2 hb2 w2 A2 hc2
  have hR2:=hR.keep0 A2.mod
  have hS2:=hS.keep0 A2.mod
  have N2:=N.go0 A2.mod (by simp)
  have s2:=A2.mod.size
  refine yDN (f:=⟨a10,n10,c10⟩) (y:=yMk q) hR2 (by simp; omega) (by omega) (fun z hz hz' => by
   have:=yaG hR _ hz'
   simp at hz; omega) fun a4 c4 w4 hR4 M4 => ?_
  have ex:IntKind.wrap .i64 ((k:Int) + 1) = ((k + 1:Nat):Int):=by rw [yaI (by omega) (by omega)]; omega
  rw [ex]
  refine yDn (qs.length - (k + 1)) (by omega) ⟨k + 1,rfl,by omega,by rw [ybO hq,List.map_append]; exact hR4,⟨yaA hS2.row M4 (ya3 hR2 hS2.row (by decide)),fun x hx => yaA (hS2.ts x hx) M4 (ya3 hR2 (hS2.ts x hx) (by decide))⟩,N2.go0 M4 fun z hz => (yaG hR2 z hz).1,rfl⟩
 ·have hk:k = qs.length:=by omega
  subst hk
  rw [List.take_length] at hR
  have hMs:ynA w1 a10 n10 (qs.map yMk):=⟨hR.sl yFs,fun x hx => by
   obtain ⟨q,hq,rfl⟩:=List.mem_map.1 hx
   exact ⟨(hS.ts q hq).sl (fun _ => rfl),hqt q hq⟩⟩
  have eM:(qs.map yMk).map (·.x) = (ydK (yaT L)).map yn4:=by rw [← hqs,List.map_map,List.map_map]; rfl
  have hT1:=hT.keep0 N
  have hA1:=hA.keep0 N
  refine yaE (fun hrb => ?_) fun hrb => ?_
  ·refine (yFy hT1 hMs).mono ?_
   rintro _ w2 ⟨_,rfl,M2,hg⟩
   rw [eM] at hg
   have N2:=N.go0 M2 (by simp)
   have hA2:=hA1.keep0 M2
   rcases hg with ⟨he,rfl⟩ | ⟨he,a5,n5,c5,xs,rfl,hO,hxs⟩
   ·refine ⟨_,_,_,_,rfl,_,_,_,M2.keep0 hcb,yaE (fun _ => ?_) fun g3 => absurd (by simpa using g3) he⟩
    refine ⟨N2,ya8,?_,?_⟩
    ·rw [ycF,if_pos he]; rfl
    ·rw [ycF,if_pos he]; exact Row.nil _ _ _ _ _
   ·refine ⟨_,_,_,_,rfl,_,_,_,M2.keep0 hcb,yaE (fun g3 => by simp at g3) fun _ => ?_⟩
    refine (yi3 hA2 hs g).mono ?_
    rintro _ w3 ⟨rfl,M3⟩
    have N3:=N2.go0 M3 (by simp)
    have hA3:=hA2.keep0 M3
    refine ⟨_,rfl,_,_,_,M3.keep0 (M2.keep0 hcb),yaE (fun g4 => ?_) fun g4 => ?_⟩
    ·have g4:ybM gen (yaT L) name g ≠ 0:=by simpa using g4
     refine ⟨N3,ya8,?_,?_⟩
     ·rw [ycF,if_neg (by simpa using he),if_pos g4]; rfl
     ·rw [ycF,if_neg (by simpa using he),if_pos g4]; exact Row.nil _ _ _ _ _
    have g4:ybM gen (yaT L) name g = 0:=by simpa using g4
    refine (yi4 hA3 hl).mono ?_
    rintro _ w4 ⟨_,rfl,s4,rfl,hN4,M4⟩
    have N4:=N3.go0 M4 (by simp)
    refine ⟨_,_,_,rfl,_,_,_,M4.keep0 (M3.keep0 (M2.keep0 hcb)),?_⟩
    refine (ym9 (hN4.sl (fun _ => rfl)) (by rw [ye3,List.length_map]; exact hl) name).mono ?_
    rintro _ w5 ⟨_,rfl,r,rfl,M5,hr⟩
    have N5:=N4.go0 M5 (by simp)
    refine ⟨_,rfl,_,_,_,M5.keep0 (M4.keep0 (M3.keep0 (M2.keep0 hcb))),?_⟩
    rcases hr with ⟨_,hno⟩ | ⟨k,rfl,hk,hk2⟩
    ·exfalso
     refine hno ((ybX _).mem_iff.2 ?_)
     cases e:lkp (yaT L) name with
     | none => simp [ybM,e] at g4
     | some y => exact List.mem_map.2 ⟨_,yaQ e,rfl⟩
    ·have hxl:xs.length = (ycW ((yaT L).map (·.1))).length:=by
      have:=congrArg List.length hxs
      rw [List.length_map,yAD,List.length_map,ydK,List.length_map] at this
      exact this
     have hkl:=(List.getElem?_eq_some_iff.1 hk).1
     obtain ⟨q,hq⟩:∃ q,xs[k]? = some q:=⟨_,List.getElem?_eq_getElem (by omega)⟩
     have hO5:=((hO.keep0 M3).keep0 M4).keep0 M5
     refine (hO5.row.sl yeC).ix hq fun p hp => yaU (x:=q.s.a) (n:=q.s.n) (c:=q.s.c) (by simpa [add_zero,yf8] using hp 0 _ rfl) ?_
     have hE:ycF gen robin (yaT L) l name g = (0,q.l):=by
      rw [ycF,if_neg (by simpa using he),if_neg (by simpa using g4),yGC hk hk2,ywW,hrb,if_pos rfl,← hxs]
      simp [List.getD,hq]
     rw [hE]
     exact ⟨N5,q.s,rfl,(hO5.parts q (List.mem_of_getElem? hq)).rebase sN⟩
  ·refine (yFw hT1 hMs).mono ?_
   rintro _ w2 ⟨_,rfl,M2,hg⟩
   rw [eM] at hg
   have N2:=N.go0 M2 (by simp)
   have hA2:=hA1.keep0 M2
   rcases hg with ⟨he,rfl⟩ | ⟨he,a5,n5,c5,xs,rfl,hO,hxs⟩
   ·refine ⟨_,_,_,_,rfl,_,_,_,M2.keep0 hcb,yaE (fun _ => ?_) fun g3 => absurd (by simpa using g3) he⟩
    refine ⟨N2,ya8,?_,?_⟩
    ·rw [ycF,if_pos he]; rfl
    ·rw [ycF,if_pos he]; exact Row.nil _ _ _ _ _
   ·refine ⟨_,_,_,_,rfl,_,_,_,M2.keep0 hcb,yaE (fun g3 => by simp at g3) fun _ => ?_⟩
    refine (yi3 hA2 hs g).mono ?_
    rintro _ w3 ⟨rfl,M3⟩
    have N3:=N2.go0 M3 (by simp)
    have hA3:=hA2.keep0 M3
    refine ⟨_,rfl,_,_,_,M3.keep0 (M2.keep0 hcb),yaE (fun g4 => ?_) fun g4 => ?_⟩
    ·have g4:ybM gen (yaT L) name g ≠ 0:=by simpa using g4
     refine ⟨N3,ya8,?_,?_⟩
     ·rw [ycF,if_neg (by simpa using he),if_pos g4]; rfl
     ·rw [ycF,if_neg (by simpa using he),if_pos g4]; exact Row.nil _ _ _ _ _
    have g4:ybM gen (yaT L) name g = 0:=by simpa using g4
    refine (yi4 hA3 hl).mono ?_
    rintro _ w4 ⟨_,rfl,s4,rfl,hN4,M4⟩
    have N4:=N3.go0 M4 (by simp)
    refine ⟨_,_,_,rfl,_,_,_,M4.keep0 (M3.keep0 (M2.keep0 hcb)),?_⟩
    refine (ym9 (hN4.sl (fun _ => rfl)) (by rw [ye3,List.length_map]; exact hl) name).mono ?_
    rintro _ w5 ⟨_,rfl,r,rfl,M5,hr⟩
    have N5:=N4.go0 M5 (by simp)
    refine ⟨_,rfl,_,_,_,M5.keep0 (M4.keep0 (M3.keep0 (M2.keep0 hcb))),?_⟩
    rcases hr with ⟨_,hno⟩ | ⟨k,rfl,hk,hk2⟩
    ·exfalso
     refine hno ((ybX _).mem_iff.2 ?_)
     cases e:lkp (yaT L) name with
     | none => simp [ybM,e] at g4
     | some y => exact List.mem_map.2 ⟨_,yaQ e,rfl⟩
    ·have hxl:xs.length = (ycW ((yaT L).map (·.1))).length:=by
      have:=congrArg List.length hxs
      rw [List.length_map,yAC,List.length_map,ydK,List.length_map] at this
      exact this
     have hkl:=(List.getElem?_eq_some_iff.1 hk).1
     obtain ⟨q,hq⟩:∃ q,xs[k]? = some q:=⟨_,List.getElem?_eq_getElem (by omega)⟩
     have hO5:=((hO.keep0 M3).keep0 M4).keep0 M5
     refine (hO5.row.sl yeC).ix hq fun p hp => yaU (x:=q.s.a) (n:=q.s.n) (c:=q.s.c) (by simpa [add_zero,yf8] using hp 0 _ rfl) ?_
     have hE:ycF gen robin (yaT L) l name g = (0,q.l):=by
      rw [ycF,if_neg (by simpa using he),if_neg (by simpa using g4),yGC hk hk2,ywW,hrb,if_neg (by decide),← hxs]
      simp [List.getD,hq]
     rw [hE]
     exact ⟨N5,q.s,rfl,(hO5.parts q (List.mem_of_getElem? hq)).rebase sN⟩
end Go.Proofs.YteldhjiiocmicaaGreat
namespace Go.Proofs.YteldhjiiocmicaaGreat
open Go Go.RowKit
set_option linter.all false
theorem yAE {f:FA} {d1 d2 q b1 b2:Nat} {T1 T2:TypeId} {cs1 cs2:List Value} {x:Value} {w:World} {js:Nat → Value} (h1:w.heap[b1]? = some (.cells cs1.toArray T1)) (h2:w.heap[b2]? = some (.cells cs2.toArray T2)) (hne:b1 ≠ b2)
  (hf:f = ⟨[(d1,.pointer (some ⟨b1,0,none⟩),some (0,0)),(d2,.pointer (some ⟨b2,0,none⟩),some (1,0)),(q,x,none)],js⟩):Inv f ⟨[⟨b1,T1,cs1,false⟩,⟨b2,T2,cs2,false⟩],w,[],[],true⟩ w:=by
 subst hf
 have get:∀ (k:Nat) (tb:TB),[(⟨b1,T1,cs1,false⟩:TB),⟨b2,T2,cs2,false⟩][k]? = some tb → (k = 0 ∧ tb = ⟨b1,T1,cs1,false⟩) ∨ (k = 1 ∧ tb = ⟨b2,T2,cs2,false⟩):=fun k tb h => by
  match k,h with
  | 0,h => simp at h; exact .inl ⟨rfl,h.symm⟩
  | 1,h => simp at h; exact .inr ⟨rfl,h.symm⟩
  | k + 2,h => simp at h
 refine ⟨fun k tb hk => by rcases get k tb hk with ⟨_,rfl⟩ | ⟨_,rfl⟩ <;> assumption,fun i j x y hx hy hb => ?_,fun i k off ht => ?_,(Mod.refl w).less (by simp [yxK]),by simp,⟨by simp,by simp⟩,fun _ => rfl⟩
 ·rcases get i x hx with ⟨rfl,rfl⟩ | ⟨rfl,rfl⟩ <;> rcases get j y hy with ⟨rfl,rfl⟩ | ⟨rfl,rfl⟩
  ·rfl
  ·exact absurd hb hne
  ·exact absurd hb.symm hne
  ·rfl
 ·simp only [FA.tag,lkT] at ht
  split at ht
  ·rename_i hi
   have hi:d1 = i:=Nat.eq_of_beq_eq_true hi
   subst hi; cases ht
   exact ⟨_,rfl,by simp [FA.get,lkV]⟩
  ·rename_i hi
   split at ht
   ·rename_i hi2
    have hi2:d2 = i:=Nat.eq_of_beq_eq_true hi2
    subst hi2; cases ht
    exact ⟨_,rfl,by simp [FA.get,lkV,hi]⟩
   ·split at ht <;> cases ht
theorem yAF {n d1 d2 q:Nat} {p1 p2 x:Value} {t1 t2:Tag} {a:Act} (h1:a.tmps.getD d1 undef = p1) (h2:a.tmps.getD d2 undef = p2) (h3:a.tmps.getD q undef = x) (hd:a.defers = []) (hn:a.tmps.size = n):Rel n ⟨[(d1,p1,t1),(d2,p2,t2),(q,x,none)],fun i => a.tmps.getD i undef⟩ a :=
 ⟨fun i => by
  simp only [FA.get,lkV]
  split
  ·rename_i hi
   rw [← Nat.eq_of_beq_eq_true hi,h1]
  ·split
   ·rename_i hi
    rw [← Nat.eq_of_beq_eq_true hi,h2]
   ·split
    ·rename_i hi
     rw [← Nat.eq_of_beq_eq_true hi,h3]
    ·rfl,hd,hn⟩
theorem yH0 {P:Program} {o:Oper} {a:Act} {l:Nat} {next:Act → World → Prop} {Q:Exit → Act → World → Prop} (hQ:¬ LetsOut Q):∀ {r:Result Next},o.upon P a next Q r → o.uponIn (Fence.wide.inRound l) 0 P a next Q r:=fun {r} h => by
 unfold Oper.upon at h
 unfold Oper.uponIn
 split at h
 ·exact h
 ·exact h
 ·exact h
 ·refine ⟨fun hh => by simp [Fence.wide] at hh,(CallsIn.inRound l (callsIn_wide.2 h)).mono fun e w'' hv => ?_⟩
  cases e <;> exact hv
 ·refine ⟨fun hh => by simp [Fence.wide] at hh,?_⟩
  exact fun c cs _ => let ⟨v,w',r,s⟩:=h c cs; ⟨v,w',r,stepsIn_wide.2 s⟩
 ·exact h
 ·exact h.elim
theorem yy7 {P:Program} {ops:Array Oper} {md:Region.Mode} {l:Nat} {Q:Exit → Act → World → Prop} (hnd:∀ (i:Nat) o,ops[i]? = some o → ∀ c,o.op ≠ .defer c) (hQ:¬ LetsOut Q):∀ (n:Nat) (ls:Array Bool) (a:Act) (w:World),wpAny P md ops Q n ls a w → wpAnyIn (Fence.wide.inRound l) 0 P md ops Q n ls a w
 | 0,ls,a,w,h => h
 | n + 1,ls,a,w,h => by
  refine ⟨h.1,fun i hi => ?_⟩
  have h2:=h.2 i hi
  unfold wpOp at h2
  unfold wpOpIn
  cases ho:ops[i]? with
  | none =>
   simp only [ho] at h2 ⊢
   exact yy7 hnd hQ n _ _ _ h2
  | some o =>
   simp only [ho] at h2 ⊢
   split at h2
   ·rename_i hw
    rw [if_pos hw]
    rcases h2 with h2 | ⟨_,h2⟩
    ·have h3:=Oper.wp_mono (K':=wpAnyIn (Fence.wide.inRound l) 0 P md ops Q n (ls.setIfInBounds i true)) (fun a w => yy7 hnd hQ n _ a w) h2
     refine ⟨fun _ _ => trivial,?_⟩
     rw [Oper.semAt_eq _ _ _ (hnd i o ho)]
     exact yH0 hQ h3
    ·exact absurd h2 hQ
   ·rename_i hw
    rw [if_neg hw]
    exact ⟨fun _ _ => trivial,yy7 hnd hQ n _ _ _ h2⟩
def ynD (Q:Act → World → Prop):Exit → Act → World → Prop:=fun e a w => e = .normal ∧ Q a w
theorem yAG {Q:Act → World → Prop}:¬ LetsOut (ynD Q):=by rintro ⟨_,_,h,_⟩; cases h
theorem yDO {P:Program} (hm:P.follows .mixedOrders = true) {id l:Nat} {ops:Array Oper} {Q:Act → World → Prop} {a:Act} {w:World} (hnd:∀ (i:Nat) o,ops[i]? = some o → ∀ c,o.op ≠ .defer c)
 (h:wpAny P .any ops (ynD Q) ops.size (Array.replicate ops.size false) a { w with drawn:=w.drawn + 1 }):(Code.region id ops true).wpIn (Fence.wide.inRound l) 0 P (ynD Q) a w:=wpIn_region_any hm (yy7 hnd yAG _ _ _ _ h)
theorem yDP {P:Program} {ops:Array Oper} {Q:Exit → Act → World → Prop} {a:Act} {w:World} {L:List Nat} (hL:yI6 P ops L = true)
  (h:∀ w1,Mod [] w w1 → ycZ P ops (clo ops) (Q .normal) L [] a w1):wpAny P .any ops Q ops.size (Array.replicate ops.size false) a { w with drawn:=w.drawn + 1 }:=by
 simp only [yI6,yz1,Bool.and_eq_true,List.all_eq_true,decide_eq_true_eq,beq_iff_eq] at hL
 obtain ⟨⟨⟨⟨⟨h1,h2⟩,h3⟩,h6⟩,h4⟩,h5⟩:=hL
 have hmem:∀ i,i < ops.size → i ∈ L:=fun i hi => by simpa using h6 i (by simpa using hi)
 refine yhV ops.size h1 (by simp) h3 ?_ h2 h4 h5 ?_ (h _ (Mod.drewN w 1))
 ·intro i hi
  simp [hi,hmem i hi]
 ·intro x o hx ho
  exact absurd (hmem x (Array.getElem?_eq_some_iff.1 ho).1) hx
theorem yDQ {P:Program} {ops:Array Oper} {C:World → Prop} {Q:Exit → Act → World → Prop} {a:Act} {w:World} (hB:Region.lexB .any ops = true) (hC:C { w with drawn:=w.drawn + 1 })
  (h:wpQuiet P ops C (fun a' => ∀ w',C w' → Q .normal a' w') ops.toList a):wpAny P .any ops Q ops.size (Array.replicate ops.size false) a { w with drawn:=w.drawn + 1 }:=by
 simp only [Region.lexB,Bool.and_eq_true] at hB
 refine wpAny_of_quiet (Q:=fun a' => ∀ w',C w' → Q .normal a' w') (fun _ w' hw' h => h w' hw') _ _ _ _ hC ?_
 have:=wpAnyQ_lex (C:=C) (md:=.any) hB.1 ops.toList 0 (Array.replicate ops.size false) a (by simp) (by simpa using hB.2) h
 simpa using this
def yH1 (P:Program) (ops:Array Oper) (K:FA → St → Prop) (f:FA) (s:St):Prop:=match yxM (fun o => ycA P o && Nat.beq (ysE P o) 0) ops.toList && ypR P ops with
 | true => ybS P ops ops.toList (fun f s => K f (dirty s)) f s
 | false => match yEW P ops (yBS P ops) with
  | true => ygM P ops (clo ops) (yBS P ops) [] [] K f (dirty s)
  | false => False
def ylB (P:Program):Code → (FA → St → Prop) → FA → St → Prop
 | .skip,K,f,s => K f s
 | .region _ ops draw,K,f,s => match draw with
  | false => ybS P ops ops.toList K f s
  | true => yH1 P ops K f s
 | .seq a b,K,f,s => ylB P a (ylB P b K) f s
 | .cond c a b,K,f,s => match evA f c with
  | .bool t => brB t (ylB P a K f s) (ylB P b K f s)
  | _ => False
 | .block _ c,K,f,s => ylB P c K f s
 | _,_,_,_ => False
def yuG:List Oper → Bool
 | [] => true
 | o :: r => match o.op with
  | .defer _ => false
  | _ => yuG r
theorem ypD:∀ {l:List Oper},yuG l = true → ∀ o ∈ l,∀ c,o.op ≠ .defer c
 | [],_,o,ho => by cases ho
 | x :: r,h,o,ho => by
  unfold yuG at h
  split at h
  ·cases h
  ·rename_i hn
   rcases List.mem_cons.1 ho with rfl | ho
   ·exact hn
   ·exact ypD h o ho
def yy8 (n:Nat):Code → Bool
 | .skip => true
 | .region _ ops draw => match draw with
  | false => yj1 ops.toList && yEZ n ops.toList
  | true => yuG ops.toList && yEZ n ops.toList
 | .seq a b => yy8 n a && yy8 n b
 | .cond _ a b => yy8 n a && yy8 n b
 | .block _ c => yy8 n c
 | _ => false
theorem ywX {P:Program} (hm:P.follows .mixedOrders = true) {n l id:Nat} {ops:Array Oper} {Q:Act → World → Prop} {K:FA → St → Prop} (hK:∀ f s wa a,K f s → Inv f s wa → Rel n f a → Q a wa) {f:FA} {s:St} {w:World} {a:Act}
  (hd:yuG ops.toList = true) (hn:yEZ n ops.toList = true) (h:yH1 P ops K f s) (hI:Inv f s w) (hR:Rel n f a):(Code.region id ops true).wpIn (Fence.wide.inRound l) 0 P (ynD Q) a w:=by
 have hdm:=yiV hn
 have dirt:∀ {f:FA} {s:St} {w w1:World},Inv f s w → Mod [] w w1 → Inv f (dirty s) w1:=fun {f s w w1} hI hM => by
  obtain ⟨mem,ws,S,N,cl⟩:=s
  exact ⟨fun k tb hk => hM.keep0 (hI.at_ k tb hk),hI.nd,hI.tags,by simpa [dirty] using hI.mod.trans hM,hI.new,hI.nn,by simp [dirty]⟩
 refine yDO hm (fun i o ho => ypD hd o (by rw [← Array.getElem?_toList] at ho; exact List.mem_of_getElem? ho)) ?_
 unfold yH1 at h
 split at h
 ·rename_i hq
  simp only [Bool.and_eq_true] at hq
  obtain ⟨hq2,hq1⟩:=hq
  have hq2:∀ o ∈ ops.toList,ycA P o = true ∧ Nat.beq (ysE P o) 0 = true:=fun o ho => by simpa only [Bool.and_eq_true] using yeE hq2 o ho
  unfold ypR at hq1
  simp only [Bool.and_eq_true] at hq1
  refine yDQ (C:=fun w' => Mod [] w w') hq1.2 (Mod.drewN w 1) ?_
  exact yd0 (fun f s a h hI hR w' hw' => ⟨rfl,hK _ _ _ _ h (dirt hI hw') hR⟩) hdm (fun o ho => Nat.eq_of_beq_eq_true (hq2 o ho).2) h hI hR
 ·split at h
  ·rename_i hL
   have hL:=ysY hL
   exact yDP hL fun w1 h1 => ybN (fun i o ho => hdm o (by rw [← Array.getElem?_toList] at ho; exact List.mem_of_getElem? ho)) (fun f s w a h hI hR => ⟨rfl,hK _ _ _ _ h hI hR⟩) h (dirt hI h1) hR ⟨by simp,by simp,by simp⟩
  ·exact h.elim
theorem ycX {P:Program} (hm:P.follows .mixedOrders = true) {n l:Nat}:∀ {c:Code} {Q:Act → World → Prop} {K:FA → St → Prop} {f:FA} {s:St} {wa:World} {a:Act},(∀ f s wa a,K f s → Inv f s wa → Rel n f a → Q a wa) → yy8 n c = true → ylB P c K f s → Inv f s wa → Rel n f a → c.wpIn (Fence.wide.inRound l) 0 P (ynD Q) a wa
 | .skip,Q,K,f,s,wa,a,hK,_,h,hI,hR => wpIn_skip ⟨rfl,hK f s wa a h hI hR⟩
 | .region id ops draw,Q,K,f,s,wa,a,hK,hc,h,hI,hR => by
  cases draw with
  | false =>
   simp only [yy8,Bool.and_eq_true] at hc
   exact wpIn_region_list (yk4 (fun f s wa a h hI hR => ⟨rfl,hK f s wa a h hI hR⟩) hc.1 (yiV hc.2) h hI hR)
  | true =>
   simp only [yy8,Bool.and_eq_true] at hc
   exact ywX hm hK hc.1 hc.2 h hI hR
 | .seq x y,Q,K,f,s,wa,a,hK,hc,h,hI,hR => by
  simp only [yy8,Bool.and_eq_true] at hc
  have h1:=ycX hm (c:=x) (l:=l) (Q:=fun a w => y.wpIn (Fence.wide.inRound l) 0 P (ynD Q) a w) (K:=ylB P y K) (fun f s wa a h1 hI1 hR1 => ycX hm (c:=y) hK hc.2 h1 hI1 hR1) hc.1 h hI hR
  refine wpIn_seq (wpIn_mono h1 ?_)
  rintro e a w ⟨rfl,h2⟩
  exact h2
 | .cond c x y,Q,K,f,s,wa,a,hK,hc,h,hI,hR => by
  simp only [yy8,Bool.and_eq_true] at hc
  unfold ylB at h
  split at h
  ·rename_i t ht
   have hev:a.eval c = .bool t:=by rw [hR.eval]; exact ht
   refine wpIn_cond_split hev (fun e => ?_) fun e => ?_
   ·subst e; exact ycX hm (c:=x) hK hc.1 h hI hR
   ·subst e; exact ycX hm (c:=y) hK hc.2 h hI hR
  ·exact h.elim
 | .block id c,Q,K,f,s,wa,a,hK,hc,h,hI,hR => by
  have h1:=ycX hm (c:=c) (l:=l) (fun f s wa a h1 hI1 hR1 => hK f s wa a h1 hI1 hR1) hc h hI hR
  refine wpIn_block (wpIn_mono h1 ?_)
  rintro e a w ⟨rfl,h2⟩
  exact ⟨rfl,h2⟩
def yDR (P:Program) (c:Code) (l:Nat) (lp:Loop) (R:World → List TB → World → Prop) (ids:List Nat) (f:FA) (s:St):Prop:=match c with
 | .rangeFunc _ _ A body => ylB P A (fun f s => ygB s fun s => s.w.heap[l]? = some (.loop lp) ∧ ∀ w2,Mod [l] s.w w2 → ylB P body (fun _ s => ygB (ycI ids s) fun s => R w2 s.mem s.w) f ⟨s.mem,w2,[],[],true⟩) f s
 | _ => False
def ylN (n:Nat) (c:Code):Bool:=match c with
 | .rangeFunc _ _ A body => yy8 n A && yy8 n body
 | _ => false
theorem ynE {P:Program} (hm:P.follows .mixedOrders = true) {n l:Nat} {g:Operand} {ps:Array Tmp} {assign body:Code} (hc:ylN n (.rangeFunc g ps assign body) = true) {R:World → List TB → World → Prop} {ids:List Nat} {f:FA} {s:St} {a:Act} {w:World} {lp:Loop}
  (h:yDR P (.rangeFunc g ps assign body) l lp R ids f s) (hI:Inv f s w) (hR:Rel n f a) :
  assign.wpIn (Fence.wide.inRound l) 0 P (Exit.then (fun a1 w1 => w1.heap[l]? = some (.loop lp) ∧ ∀ lp':Loop,body.wpIn (Fence.wide.inRound l) 0 P (fun e _ w' => e = .normal ∧ ∃ mem,R (w1.putObj l (.loop lp')) mem w') a1 (w1.putObj l (.loop lp'))) fun _ _ _ => False) a w:=by
 simp only [ylN,Bool.and_eq_true] at hc
 obtain ⟨c1,c2⟩:=hc
 have h1:=ycX hm (c:=assign) (l:=l) (n:=n) (Q:=fun a1 w1 => w1.heap[l]? = some (.loop lp) ∧ ∀ lp':Loop,body.wpIn (Fence.wide.inRound l) 0 P (fun e _ w' => e = .normal ∧ ∃ mem,R (w1.putObj l (.loop lp')) mem w') a1 (w1.putObj l (.loop lp'))) (fun f1 s1 w1 a1 h1 hI1 hR1 => ?_) c1 h hI hR
 ·refine wpIn_mono h1 ?_
  rintro e a w ⟨rfl,h2⟩
  exact h2
 ·obtain ⟨s2,⟨hl,h2⟩,hI2,hw2,hm2,_⟩:=yc7 h1 hI1
  rw [hw2] at hl h2
  refine ⟨hl,fun lp' => ?_⟩
  have hne:∀ (k:Nat) tb,s2.mem[k]? = some tb → tb.b ≠ l:=fun k tb hk e => by
   have:=hI2.at_ k tb hk
   rw [e,hl] at this; cases this
  have hI3:Inv f1 ⟨s2.mem,w1.putObj l (.loop lp'),[],[],true⟩ (w1.putObj l (.loop lp')) :=
   ⟨fun k tb hk => by rw [World.putObj_heap_other (hne k tb hk)]; exact hI2.at_ k tb hk,hI2.nd,hI2.tags,(Mod.refl _).less (by simp [yxK]),by simp,⟨by simp,by simp⟩,fun _ => rfl⟩
  have h3:=ycX hm (c:=body) (l:=l) (n:=n) (Q:=fun _ w' => ∃ mem,R (w1.putObj l (.loop lp')) mem w') (fun f4 s4 w4 a4 h4 hI4 hR4 => by
   obtain ⟨s5,h5,hI5,hw5,hm5,_⟩:=yc7 h4 (ybL hI4)
   rw [hw5] at h5; exact ⟨_,h5⟩) c2 (h2 _ (ydU w1 l _)) hI3 hR1
  exact h3
theorem yDS {P:Program} (hm:P.follows .mixedOrders = true) {n l:Nat} {c:Code} (hc:yy8 n c = true) {R:List TB → World → Prop} {ids:List Nat} {f:FA} {s:St} {a:Act} {w:World}
  (h:ylB P c (fun _ s => ygB (ycI ids s) fun s => R s.mem s.w) f s) (hI:Inv f s w) (hR:Rel n f a):c.wpIn (Fence.wide.inRound l) 0 P (ynD fun _ w' => ∃ mem,R mem w') a w :=
 ycX hm (fun f4 s4 w4 a4 h4 hI4 hR4 => by
  obtain ⟨s5,h5,hI5,hw5,hm5,_⟩:=yc7 h4 (ybL hI4)
  rw [hw5] at h5; exact ⟨_,h5⟩) hc h hI hR
def yk5:Code → Code
 | .rangeFunc _ _ _ b => b
 | c => c
def yMH:Code → Code
 | .rangeFunc _ _ a _ => a
 | c => c
theorem ynF {α:Type} {P:Program} {g:Operand} {ps:Array Tmp} {assign body:Code} {Q:Exit → Act → World → Prop} {a:Act} {w:World} {l0:Nat} {r0:Loop} (hl0:w.heap[l0]? = some (.loop r0))
  {gf:Nat} {lb:Array Value} (hg:a.eval g = .func (.func gf) #[] lb) (eg:∀ args w,(callFunc gf args).run P w = .ok (.enter gf args) w)
  {encs:α → Array Value} {S:List Nat} {X:Nat → α → World → Prop} {N:Nat} (hseq:yLG P gf lb encs w S X N (w.heap.size + 1)) (hps:∀ x,(encs x).size = ps.size) (hS:∀ i ∈ S,i < w.heap.size)
  (I:List α → World → Prop) (hIm:∀ s W W',I s W → Mod [] W W' → I s W') (hIp:∀ s W l (o:Loop),l = w.heap.size → I s W → I s (W.putObj l (.loop o))) (hIS:∀ s W,I s W → Mod S w W) (h0:I [] w)
  (hround:∀ (pre:List α) (x:α) (W:World) (lp:Loop),I pre W → pre.length < N → X pre.length x W → W.heap[w.heap.size]? = some (.loop lp) →
   assign.wpIn (Fence.wide.inRound w.heap.size) 0 P (Exit.then (fun a1 W1 => W1.heap[w.heap.size]? = some (.loop lp) ∧ ∀ lp':Loop,body.wpIn (Fence.wide.inRound w.heap.size) 0 P
    (fun e _ W' => e = .normal ∧ W'.heap[w.heap.size]? = some (.loop lp') ∧ I (pre ++ [x]) W') a1 (W1.putObj w.heap.size (.loop lp'))) fun _ _ _ => False)
    { tmps:=(ps.zip (encs x)).foldl (fun t (p,v) => t.setIfInBounds p v) a.tmps,defers:=[] } W)
  (hdone:∀ (W:World) xs,xs.length = N → I xs W → Q .normal a W) :
  (Code.rangeFunc g ps assign body).wpIn (Fence.wide.inRound l0) 0 P Q a w:=by
 refine wpIn_rangeFunc ?_
 intro fn hfn
 have hro:(Fence.wide.inRound l0).round = some l0:=rfl
 rw [hro]
 obtain ⟨rec,hrec⟩:∃ rec:LoopState → Option Code → Loop,rec = fun st pe => { state:=st,pending:=pe,fn,tmps:=a.tmps,params:=ps,assign,body,defers:=r0.defers }:=⟨_,rfl⟩
 obtain ⟨W1,hW1⟩:∃ W1,w.alloc (.loop (rec .ready none)) = W1:=⟨_,rfl⟩
 have hL1:W1.heap[w.heap.size]? = some (.loop (rec .ready none)):=by rw [← hW1]; exact World.alloc_heap_new w _
 have M:∀ (x:World) (o:Obj),Mod [] x (x.alloc o):=fun x o => Mod.of_below ((Below.refl _ _).alloc (Nat.le_refl _) _)
 have hI1:I [] W1:=by rw [← hW1]; exact hIm _ _ _ h0 (M _ _)
 refine ⟨w.heap.size,[],W1,{ target:=.fn (.func gf) lb,args:=#[.func (.yield w.heap.size) #[] #[]] },W1,gf,
  #[.func (.yield w.heap.size) #[] #[]] ++ lb,W1,?_,?_,fun _ _ => trivial,?_,fun h => (by simp [Fence.wide] at h),?_⟩
 ·rw [← hW1,hrec]; exact run_enterLoop_inner hl0 _ _ _ _ _
 ·simp only [resolve,hg]
  simp [go_sem]
 ·simp [invoke,go_sem,eg]
 ·have h1:=hseq w.heap.size
   (fun pre W => I pre W ∧ W.heap[w.heap.size]? = some (.loop (rec .ready none)))
   ?_ ?_ ?_ W1 ⟨hI1,hL1⟩
  ·refine (CallsIn.inRound l0 (callsIn_wide.2 (callsIn_wide.1 h1))).mono ?_
   rintro e W2 ⟨⟨v,rfl⟩,xs,hxs,hi,hl⟩
   refine ⟨none,_,by have:=run_endLoop (P:=P) hl (by rw [hrec]; simp); rw [hrec] at this; exact this,?_⟩
   exact hdone _ xs hxs (hIp _ _ _ _ rfl hi)
  ·rintro pre W W' ⟨hi,hl⟩ hM
   exact ⟨hIm _ _ _ hi hM,(hM.block _ (yaW hl) (by simp)).trans hl⟩
  ·rintro pre W ⟨hi,hl⟩
   exact ⟨hIS _ _ hi,yaW hl⟩
  ·rintro pre x W ⟨hi,hl⟩ hx hlen
   have hlt:=yaW hl
   have hy:=run_yield (P:=P) (args:=encs x) hl (by rw [hrec]; exact hps x)
   rw [hrec] at hy
   refine ⟨fn,_,assign,body,hy,roundIn_of_wpIn trivial ?_⟩
   refine wpIn_mono (hround pre x W (rec .ready none) hi hlen hx hl) ?_
   intro e a1 W2 hq
   cases e with
   | normal =>
    obtain ⟨hl2,hb⟩:=hq
    refine ⟨_,run_beginRound hl2 (by rw [hrec]),?_⟩
    refine wpIn_mono (hb { rec .ready none with state:=.busy }) ?_
    rintro e a3 W3 ⟨rfl,hr1,hi3⟩
    have hr:=run_endRound (P:=P) none hr1
    have hlt3:=yaW hr1
    refine ⟨_,_,hr,rfl,⟨hIp _ _ _ _ rfl hi3,?_⟩⟩
    rw [World.putObj_heap_same hlt3,hrec]; rfl
   | _ => exact hq.elim
theorem yGD {f:FA} {mem:List TB} {w:World} (hat:∀ (k:Nat) tb,mem[k]? = some tb → w.heap[tb.b]? = some (.cells tb.cs.toArray tb.T)) (hnd:(mem.map (·.b)).Nodup) (htg:∀ i k off,f.tag i = some (k,off) → ∃ tb,mem[k]? = some tb ∧ f.get i = .pointer (some ⟨tb.b,off,none⟩)):Inv f ⟨mem,w,[],[],true⟩ w:=by
 refine ⟨hat,fun i j x y hx hy hb => ?_,htg,(Mod.refl w).less (by simp [yxK]),by simp,⟨by simp,by simp⟩,fun _ => rfl⟩
 obtain ⟨h1,rfl⟩:=List.getElem?_eq_some_iff.1 hx
 obtain ⟨h2,rfl⟩:=List.getElem?_eq_some_iff.1 hy
 have:=List.pairwise_iff_getElem.1 hnd
 rcases Nat.lt_trichotomy i j with h | h | h
 ·exact absurd (show (mem.map (·.b))[i]'(by simpa using h1) = (mem.map (·.b))[j]'(by simpa using h2) by rw [List.getElem_map,List.getElem_map]; exact hb) (this i j _ _ h)
 ·exact h
 ·exact absurd (show (mem.map (·.b))[j]'(by simpa using h2) = (mem.map (·.b))[i]'(by simpa using h1) by rw [List.getElem_map,List.getElem_map]; exact hb.symm) (this j i _ _ h)
theorem yGE {n:Nat} {u:List (Nat × Value × Tag)} {a:Act} (h:∀ p ∈ u,a.tmps.getD p.1 undef = p.2.1) (hd:a.defers = []) (hn:a.tmps.size = n):Rel n ⟨u,fun i => a.tmps.getD i undef⟩ a:=by
 refine ⟨fun i => ?_,hd,hn⟩
 change _ = lkV u _ i
 induction u with
 | nil => rfl
 | cons p r ih =>
  obtain ⟨j,v,t⟩:=p
  unfold lkV
  split
  ·rename_i hi
   rw [← Nat.eq_of_beq_eq_true hi]
   exact h (j,v,t) (by simp)
  ·exact ih fun p hp => h p (by simp [hp])
theorem yDT {u:List (Nat × Value × Tag)} {js:Nat → Value} {mem:List TB} (h:∀ p ∈ u,∀ k off,p.2.2 = some (k,off) → ∃ tb,mem[k]? = some tb ∧ p.2.1 = .pointer (some ⟨tb.b,off,none⟩)):∀ i k off,FA.tag ⟨u,js⟩ i = some (k,off) → ∃ tb,mem[k]? = some tb ∧ FA.get ⟨u,js⟩ i = .pointer (some ⟨tb.b,off,none⟩):=by
 intro i k off
 change lkT u i = _ → ∃ tb,_ ∧ lkV u js i = _
 induction u with
 | nil => intro h; cases h
 | cons p r ih =>
  obtain ⟨j,v,t⟩:=p
  unfold lkT lkV
  cases Nat.beq j i with
  | true => exact fun e => h (j,v,t) (by simp) k off e
  | false => exact ih fun p hp => h p (by simp [hp])
theorem yGF {ts:Array Value} {q1 q2:Tmp} {v1 v2:Value}:((#[q1,q2]:Array Tmp).zip #[v1,v2]).foldl (fun t (x:Tmp × Value) => match x with | (p,v) => t.setIfInBounds p v) ts = (ts.setIfInBounds q1 v1).setIfInBounds q2 v2:=by simp
theorem ydL {ts:Array Value} {i j:Nat} {v:Value}:(ts.setIfInBounds i v).getD j undef = if i = j ∧ i < ts.size then v else ts.getD j undef:=by
 simp only [Array.getD_eq_getD_getElem?,Array.getElem?_setIfInBounds]
 by_cases h:i = j
 ·subst h
  by_cases h2:i < ts.size
  ·simp [h2]
  ·simp [h2]
 ·simp [h]
section
set_option maxRecDepth 100000
variable {R:VWP} {w w0:World} {m:Nat} {i0 i1 i2 i3 i4 i5 i6 i7 i8 i9 j0 j1 j2 j3 j4 j5 j6 j7 j8 j9 k0 k1 k2 k3 k4 k5 k6 k7 k8 k9 l0 l1 l2 l3 l4 l5 l6 l7 l8 l9:Int} {s0 s1 s2 s3 s4 s5 s6 s7 s8 s9 t0 t1 t2 t3 t4 t5 t6 t7 t8 t9:BA} {n0 n1 n2 n3 n4 n5 n6 n7 n8 n9 o0 o1 o2 o3 o4 o5 o6 o7 o8 o9 p0 p1 p2 p3 p4 p5 p6 p7 p8 p9:Nat} {q0 q1 q2 q3 q4 q5 q6 q7 q8 q9 r0 r1 r2 r3 r4 r5 r6 r7 r8 r9:OA} {B0 B1 B2 B3 B4 B5 B6 B7 B8 B9:Bool} {M0 M1 M2 M3:Option Nat} {V0 V1 V2 V3 V4 V5:Value} {A0 A1 A2:Addr}
theorem yLT (h :
 ∀ b2,w.heap.size ≤ b2 →
 ∀ w3,Adv [] [b2] w w3 → w3.heap[b2]? = some (.cells #[.slice q0 n0 n1] 37) →
 R (.func (.func 152) #[] #[(.pointer (some ⟨b2,0,none⟩))]) w3) :
 CR pP 116 #[.slice q0 n0 n1] w R :=
 yaB Tryz.wide_mixed (an:=[]) Tryz.func116 rfl rfl (by kernel_rfl) rfl (Eq.mpr (by kernel_rfl) h)
end
section
set_option maxRecDepth 100000
variable {R:VWP} {w w0:World} {m:Nat} {i0 i1 i2 i3 i4 i5 i6 i7 i8 i9 j0 j1 j2 j3 j4 j5 j6 j7 j8 j9 k0 k1 k2 k3 k4 k5 k6 k7 k8 k9 l0 l1 l2 l3 l4 l5 l6 l7 l8 l9:Int} {s0 s1 s2 s3 s4 s5 s6 s7 s8 s9 t0 t1 t2 t3 t4 t5 t6 t7 t8 t9:BA} {n0 n1 n2 n3 n4 n5 n6 n7 n8 n9 o0 o1 o2 o3 o4 o5 o6 o7 o8 o9 p0 p1 p2 p3 p4 p5 p6 p7 p8 p9:Nat} {q0 q1 q2 q3 q4 q5 q6 q7 q8 q9 r0 r1 r2 r3 r4 r5 r6 r7 r8 r9:OA} {B0 B1 B2 B3 B4 B5 B6 B7 B8 B9:Bool} {M0 M1 M2 M3:Option Nat} {V0 V1 V2 V3 V4 V5:Value} {A0 A1 A2:Addr}
def ygG (l:Nat) (lp:Loop) (B0:Nat) (o0_0:OA) (B1:Nat) (o1_0_a:OA) (o1_0_n o1_0_c:Nat) (y16_0:BA) (R:World → List TB → World → Prop) (w:World):Prop :=
 w.heap[l]? = some (.loop lp) ∧
 ∀ w1,Mod [l] w w1 →
 yb7 o0_0 fun q2 =>
 ∀ w3,Adv [] [] w1 w3 →
 yd4 w3 q2 fun m4 =>
 ∃ x5,(∀ w',Mod [] w3 w' → (Instr.lookup 84 (.map m4) (.string y16_0) false).run pP w' = .ok (.int .i64 x5) w') ∧
 al w3 (.cells #[.string y16_0,.int .i64 x5] 226) fun b6 w7 =>
 ybC pP (Builtin.append_ #[67,67] 67 #[.slice o1_0_a o1_0_n o1_0_c,(.slice (some ⟨b6,0,none⟩) 1 1)]) w7 fun a9 a2 a1 w8 => yaF [B0,B1] w7 w8 ∧
 ∀ a0,Adv [B1] [] w8 a0 → a0.heap[B0]? = some (.cells #[.pointer o0_0] 49) →
 a0.heap[B1]? = some (.cells #[.slice a9 a2 a1] 67) →
 R w1 [⟨B0,49,[.pointer o0_0],true⟩,⟨B1,67,[.slice a9 a2 a1],true⟩] a0
theorem yfI (l:Nat) (lp:Loop) (B0:Nat) (o0_0:OA) (B1:Nat) (o1_0_a:OA) (o1_0_n o1_0_c:Nat) (y16_0:BA) (js:Nat → Value) (R:World → List TB → World → Prop) (w:World) :
 yDR pP (yiT (code Tryz.f55) [0,1,0,1,1,1,1]) l lp R [0,1] ⟨[(1,.pointer (some ⟨B0,0,none⟩),some (0,0)),(4,.pointer (some ⟨B1,0,none⟩),some (1,0)),(16,.string y16_0,none)],js⟩ ⟨[⟨B0,49,[.pointer o0_0],false⟩,⟨B1,67,[.slice o1_0_a o1_0_n o1_0_c],false⟩],w,[],[],true⟩ = ygG l lp B0 o0_0 B1 o1_0_a o1_0_n o1_0_c y16_0 R w:=by kernel_rfl
end
end Go.Proofs.YteldhjiiocmicaaGreat
namespace Go.Proofs.YteldhjiiocmicaaGreat
open Go Go.RowKit Go.Maps Go.Sort Go.Shelf Go.MapKept Go.WideElems Go.WideShapes
set_option linter.unusedVariables false
set_option linter.unusedSimpArgs false
theorem yAH (s:Sl) (w:World):Calls pP 116 #[.slice s.a s.n s.c] w fun e w' => ∃ b,e = .returned (.func (.func 152) #[] #[.pointer (some ⟨b,0,none⟩)]) ∧ w.heap.size ≤ b ∧ b < w'.heap.size ∧ w'.heap[b]? = some (.cells #[.slice s.a s.n s.c] 37) ∧ Mod [] w w':=by
 refine (yLT (R:=fun v w' => ∃ b,v = .func (.func 152) #[] #[.pointer (some ⟨b,0,none⟩)] ∧ w.heap.size ≤ b ∧ b < w'.heap.size ∧ w'.heap[b]? = some (.cells #[.slice s.a s.n s.c] 37) ∧ Mod [] w w') ?_).mono (fun e w' ⟨v,he,b,hv,h⟩ => ⟨b,by rw [he,hv],h⟩)
 intro b1 f1 w2 A2 h2
 exact ⟨b1,rfl,f1,A2.lt b1 (by simp),h2,A2.mod⟩
section
attribute [local go_sem] Oper.semAt_some
set_option maxRecDepth 100000 in
set_option maxHeartbeats 2000000 in
theorem yuH {w0:World} {S:List Nat} {b1 B:Nat} {s:Sl} {l:List ByteArray} (hl:l.length ≤ 1000000) (hw:∀ W,Mod S w0 W → W.heap[b1]? = some (.cells #[.slice s.a s.n s.c] 37) ∧ ybF W 1 yc8 s.a s.n l) :
  yLG pP 152 #[.pointer (some ⟨b1,0,none⟩)] (fun x:ByteArray => #[.string x]) w0 S (fun k x W => l[k]? = some x) l.length B:=fun lp J hJm hJw hY W h0 => by
 obtain ⟨sa,sn,sc⟩:=s
 have hro:Fence.wide.round = none:=rfl
 refine callsIn_of_wp Tryz.func152 rfl trivial ?_ hro
 simp only [Tryz.ntmps152,List.size_toArray,List.length_cons,List.length_nil,Nat.reduceAdd,Nat.reduceSub,Array.replicate_succ,Array.replicate_zero,List.push_toArray,List.append_toArray,List.nil_append,List.cons_append]
 obtain ⟨hb0,hs0⟩:=hw W (hJw _ _ h0).1
 have hc1:W.cell? ⟨b1,0,none⟩ = some (.slice sa sn sc):=by rw [yaM hb0]; rfl
 have hn:sn = l.length:=hs0.1
 gi_wp2
 gi_loopg [7] l.length (fun k i wr => ∃ (j:Nat) (pre:List ByteArray),i = .int .i64 j ∧ j ≤ l.length ∧ k = l.length - j ∧ pre.length = j ∧ J pre wr)
 case atStart => exact ⟨0,[],rfl,by omega,rfl,rfl,h0⟩
 case round =>
  obtain ⟨j,pre,rfl,hj,hk,hpl,hJ⟩:=hrel
  obtain ⟨hMw,hBw⟩:=hJw _ _ hJ
  by_cases hlt:j < l.length
  ·obtain ⟨x,hx⟩:∃ x,l[j]? = some x:=⟨_,List.getElem?_eq_getElem hlt⟩
   obtain ⟨ad,ha,hcx⟩:=(hw _ hMw).2.2 j x hx
   have hcx:wr.cell? (ad.add j) = some (.string x):=by have:=hcx 0 _ rfl; rwa [add_zero,Nat.mul_one] at this
   obtain ⟨fn,tmps,assign,body,hy,hR⟩:=hY pre x wr hJ (by rw [hpl]; exact hx) (by omega)
   have ha:sa = some ad:=ha
   subst ha
   gi_wp2
   refine hR.mono ?_
   rintro e W3 ⟨rfl,hJ3⟩
   gi_wp2
   gi_roundg (gk - 1)
   case rel => exact ⟨j + 1,_,by simp,by omega,by omega,by simp [hpl],hJ3⟩
   case measure => omega
  ·gi_wp2
   go_end0
   exact ⟨⟨_,rfl⟩,pre,by omega,hJ⟩
end
def ycR (L:TL):List PTop:=(ycW (L.map (·.1))).map fun k => ⟨k,(lkp L k).getD 0⟩
theorem yH2:(Tryz.prog.info? 226).map (fun i => (i.zero,i.size,i.bytes)) = some (some (.agg #[.string ByteArray.empty,.int .i64 0]),2,24):=by kernel_rfl
theorem yDU {w:World} {B:Nat} {f:Sl} {l:List PTop} {y:PTop} {bs:List Nat} {F:Option Addr → Nat → Nat → World → Prop} (hR:Row w B 226 2 ynU f.a f.n f.c l) (hl:l.length ≤ 1000000) (hB:B ≤ w.heap.size) (hbs:∀ b ∈ bs,b ∉ yaN f.a)
  (hF:∀ a' c' w',Row w' B 226 2 ynU a' (f.n + 1) c' (l ++ [y]) → Mod (yaN f.a) w w' → F a' (f.n + 1) c' w') :
  al w (.cells (ynU y).toArray 226) fun b w1 => ybC pP (Builtin.append_ #[67,67] 67 #[.slice f.a f.n f.c,.slice (some ⟨b,0,none⟩) 1 1]) w1 fun a n c w2 => yaF bs w1 w2 ∧ F a n c w2:=by
 refine yd6 fun b w1 c1 M1 f1 => ?_
 have s1:=M1.size
 obtain ⟨i0,hi0,hz0,hz1,hz2⟩:=info_parts yH2
 refine yl1 (x:=y) (hR.keep0 M1) Tryz.underlying67 hi0 hz0 hz1 hz2 rfl (by decide) c1 rfl (yFu _) (by omega) (by unfold maxLen; omega) (by omega) fun a' c' w8 hR8 hM8 => ?_
 have M8:=hM8 _ (ycN f.a)
 refine ⟨yaF.of M8 fun b hb _ => hbs b hb,hF a' c' w8 hR8 ?_⟩
 exact (M1.trans M8).less fun k hk _ => by simpa using hk
theorem yuI:ylN 29 (yiT (code Tryz.f55) [0,1,0,1,1,1,1]) = true:=by kernel_rfl
section
attribute [local go_sem] Oper.semAt_some
set_option maxRecDepth 100000 in
set_option maxHeartbeats 2000000 in
theorem yH3 {w:World} {b:Nat} {L:TL} {F:List Nat} (h:ydO w b L F) (hL:L.length ≤ 1000000) :
  CallsIn Fence.wide 2 pP 55 #[.pointer (some ⟨b,0,none⟩)] w fun e w' => ∃ s:Sl,e = .returned (.slice s.a s.n s.c) ∧ Row w' w.heap.size 226 2 ynU s.a s.n s.c (ycR L) ∧ Mod [] w w':=by
 obtain ⟨m,hc,hm,rfl⟩:=h
 have lb:=yaH hc
 have hro:Fence.wide.round = none:=rfl
 refine callsIn_of_wp_marks Tryz.func55 rfl trivial ?_ hro
 simp only [Tryz.ntmps55,List.size_toArray,List.length_cons,List.length_nil,Nat.reduceAdd,Nat.reduceSub,Array.replicate_succ,Array.replicate_zero,List.push_toArray,List.append_toArray,List.nil_append,List.cons_append]
 have hM0:Mod [] w (w.alloc (Obj.cells #[Value.pointer (some ⟨b,0,none⟩)] 49)):=Mod.of_below ((Below.refl _ _).alloc (Nat.le_refl _) _)
 have hc0:(w.alloc (Obj.cells #[Value.pointer (some ⟨b,0,none⟩)] 49)).cell? ⟨b,0,none⟩ = some (.map (some m)):=by rw [yaM (hM0.keep0 hc)]; rfl
 have hP0:(w.alloc (Obj.cells #[Value.pointer (some ⟨b,0,none⟩)] 49)).heap[w.heap.size]? = some (.cells #[.pointer (some ⟨b,0,none⟩)] 49):=World.alloc_heap_new w _
 have z0:(w.alloc (Obj.cells #[Value.pointer (some ⟨b,0,none⟩)] 49)).heap.size = w.heap.size + 1:=by simp
 gi_wp2
 generalize w.alloc (Obj.cells #[Value.pointer (some ⟨b,0,none⟩)] 49) = W0 at hM0 hc0 hP0 z0 ⊢
 refine ⟨trivial,(callsIn_wide.2 (yFn (some m) W0)).mono ?_⟩
 rintro _ w1 ⟨rfl,rfl⟩
 have M1:Mod [] W0 (W0.alloc (.cells #[.map (some m)] 84)):=Mod.of_below ((Below.refl _ _).alloc (Nat.le_refl _) _)
 have h1:(W0.alloc (.cells #[.map (some m)] 84)).cell? ⟨W0.heap.size,0,none⟩ = some (.map (some m)):=by rw [yaM (World.alloc_heap_new W0 _)]; rfl
 have z1:(W0.alloc (.cells #[.map (some m)] 84)).heap.size = W0.heap.size + 1:=by simp
 generalize W0.alloc (.cells #[.map (some m)] 84) = W1 at M1 h1 z1 ⊢
 rw [z0] at h1
 gi_wp2
 have hm1:=(hm.keepM0 hM0).keepM0 M1
 refine ⟨trivial,(callsIn_wide.2 (ywD hm1 hL (by omega) h1)).mono ?_⟩
 rintro _ w3 ⟨_,rfl,s,l,rfl,hR3,hperm,M3⟩
 gi_wp2
 have hll:l.length = L.length:=by rw [hperm.length_eq,List.length_map]
 refine ⟨trivial,(callsIn_wide.2 (yFo hR3 (by omega))).mono ?_⟩
 rintro _ w4 ⟨rfl,hR4,M4⟩
 gi_wp2
 have M5:Mod [] w4 (w4.alloc (Obj.cells #[Value.slice none 0 0] 67)):=Mod.of_below ((Below.refl _ _).alloc (Nat.le_refl _) _)
 have hO5:(w4.alloc (Obj.cells #[Value.slice none 0 0] 67)).heap[w4.heap.size]? = some (.cells #[.slice none 0 0] 67):=World.alloc_heap_new w4 _
 have z5:(w4.alloc (Obj.cells #[Value.slice none 0 0] 67)).heap.size = w4.heap.size + 1:=by simp
 generalize w4.alloc (Obj.cells #[Value.slice none 0 0] 67) = W5 at M5 hO5 z5 ⊢
 refine ⟨trivial,(callsIn_wide.2 (yAH s W5)).mono ?_⟩
 rintro _ w6 ⟨b6,rfl,f6,l6,h6,M6⟩
 gi_wp2
 have s1:=M1.size
 have s3:=M3.size
 have s4:=M4.size
 have s5:=M5.size
 have s6:=M6.size
 have lR3:=yaG hR3
 have N3:Mod [] w w3:=(hM0.go0 M1 (by simp)).go0 M3 (by simp)
 have N6:Mod [] w w6:=((N3.go0 M4 fun z hz => by have:=(lR3 z hz).1; omega).go0 M5 (by simp)).go0 M6 (by simp)
 have hP6:w6.heap[w.heap.size]? = some (.cells #[.pointer (some ⟨b,0,none⟩)] 49):=M6.keep0 (M5.keep0 (M4.keep (M3.keep0 (M1.keep0 hP0)) fun hz => by have:=(lR3 _ hz).1; omega))
 have hO6:=M6.keep0 hO5
 have hR6:=(hR4.keep0 M5).keep0 M6
 have lR4:=yaG hR4
 rw [yAq hperm] at hR6
 have hKl:(ycW (L.map (·.1))).length = L.length:=by rw [ye3,List.length_map]
 have hmemS:∀ k ∈ ycW (L.map (·.1)),k.size ≤ maxLen:=fun k hk => by
  obtain ⟨p,hp,rfl⟩:=List.mem_map.1 ((ybX _).mem_iff.1 hk)
  exact hm.nameSize p hp
 obtain ⟨K,hKe⟩:∃ K,ycW (L.map (·.1)) = K:=⟨_,rfl⟩
 have eL:ycR L = K.map fun k => ⟨k,(lkp L k).getD 0⟩:=by rw [ycR,hKe]
 rw [hKe] at hR6 hKl hmemS
 have k1:∀ k ∈ [w4.heap.size],w.heap.size ≤ k:=by simp; omega
 have hout:w4.heap.size ∉ yaN s.a:=fun hz => by have:=(lR4 _ hz).2; omega
 refine yhQ (S:=[w4.heap.size]) (N:=K.length) (encs:=fun x:ByteArray => #[.string x]) (X:=fun k x W => K[k]? = some x) rfl (enters_of Tryz.func152 (by kernel_rfl) rfl)
  (yuH (s:=s) (l:=K) (by omega) fun W M => ⟨M.keep h6 (by simp; omega),(yaA hR6 M fun k hk => by simp at hk; subst hk; exact hout).sl (fun _ => rfl)⟩) (fun _ => rfl) (by simp; omega)
  (fun pre W => ∃ s:Sl,W.heap[w4.heap.size]? = some (.cells #[.slice s.a s.n s.c] 67) ∧ Row W (w6.heap.size + 2) 226 2 ynU s.a s.n s.c (pre.map fun k => ⟨k,(lkp L k).getD 0⟩) ∧ (∀ (i:Nat) y,pre[i]? = some y → K[i]? = some y) ∧ Mod [w4.heap.size] w6 W)
  ?im ?ip ?is ⟨ya8,hO6,Row.nil ..,by simp,(Mod.refl _).less (by simp)⟩ ?round ?done
 case im =>
  rintro pre W W' ⟨s,hb,hr,hx,hm⟩ M
  exact ⟨s,M.keep0 hb,hr.keep0 M,hx,(hm.trans M).less (by simp)⟩
 case ip =>
  rintro pre W l o rfl ⟨s,hb,hr,hx,hm⟩
  have M:=ydU W (w6.heap.size + 1) (.loop o)
  refine ⟨s,M.keep hb (by simp; omega),hr.keep M fun ad ha hk => ?_,hx,(hm.trans M).less fun i hi hlt => ?_⟩
  ·have:=hr.base ad ha; simp at hk; omega
  ·simp at hi ⊢; omega
 case is =>
  rintro pre W ⟨s,hb,hr,hx,hm⟩
  exact hm
 case round =>
  rintro pre x W lp ⟨s,hb,hr,hx,hmW⟩ hlen2 hx1 hl hD
  simp only [yMG]
  have hPW:W.heap[w.heap.size]? = some (.cells #[.pointer (some ⟨b,0,none⟩)] 49):=hmW.keep hP6 (by simp; omega)
  refine wpIn_mono (ynE Tryz.wide_mixed (n:=29) (lp:=lp) yuI (ids:=[0,1]) (f:=⟨[(1,.pointer (some ⟨w.heap.size,0,none⟩),some (0,0)),(4,.pointer (some ⟨w4.heap.size,0,none⟩),some (1,0)),(16,.string x,none)],_⟩) (s:=⟨[⟨w.heap.size,49,[.pointer (some ⟨b,0,none⟩)],false⟩,⟨w4.heap.size,67,[.slice s.a s.n s.c],false⟩],W,[],[],true⟩)
   (R:=fun W2 _ W' => W'.heap[w6.heap.size + 1]? = W2.heap[w6.heap.size + 1]? ∧ W'.heap[w6.heap.size]? = W.heap[w6.heap.size]? ∧ ∃ s:Sl,W'.heap[w4.heap.size]? = some (.cells #[.slice s.a s.n s.c] 67) ∧ Row W' (w6.heap.size + 2) 226 2 ynU s.a s.n s.c ((pre ++ [x]).map fun k => ⟨k,(lkp L k).getD 0⟩) ∧ (∀ (i:Nat) y,(pre ++ [x])[i]? = some y → K[i]? = some y) ∧ Mod [w4.heap.size] w6 W')
   (Eq.mpr (yfI ..) ?cond) (yAE hPW hb (by omega) rfl) (yAF rfl rfl rfl rfl rfl)) ?post
  case cond =>
   refine ⟨hl,?_⟩
   intro w2 M2
   refine ya6 ?_
   intro w3' A3'
   have ll:=yaW hl
   have s2:=M2.size
   have sW:=hmW.size
   have s3':=A3'.mod.size
   have NW:Mod [] w W:=N6.go0 hmW k1
   have N2:Mod [] w w2:=NW.go0 M2 (by simp; omega)
   have N3':Mod [] w w3':=N2.go0 A3'.mod (by simp)
   refine yb2 (x:=some m) (by rw [yaM (N3'.keep0 hc)]; rfl) ?_
   have hxK:x ∈ K:=List.mem_of_getElem? hx1
   refine ⟨_,(hm.keepM0 N3').lkF (k:=x) ydT ybH Tryz.underlying84 ymX (ybK (hmemS x hxK)),?_⟩
   have hr3:=((hr.keep M2 fun ad ha hk => by have:=hr.base ad ha; simp at hk; omega).keep0 A3'.mod:Row w3' _ _ _ _ _ _ _ _)
   have hrow:=yaP hr3
   have hx':∀ (i:Nat) y,(pre ++ [x])[i]? = some y → K[i]? = some y:=fun i y hy => by
    by_cases hi:i < pre.length
    ·rw [List.getElem?_append_left hi] at hy; exact hx i y hy
    ·rw [List.getElem?_append_right (by omega)] at hy
     have hie:i - pre.length = 0:=by
      have:=(List.getElem?_eq_some_iff.1 hy).1; simp at this; omega
     rw [hie] at hy
     simp at hy; subst hy
     rw [show i = pre.length by omega]; exact hx1
   refine yDU (f:=s) (y:=⟨x,(lkp L x).getD 0⟩) hr3 (by rw [List.length_map]; omega) (by omega) (fun k hk hk' => by have:=(hrow k hk').1; simp at hk; omega) fun a' c' w31 hR31 M31 => ?_
   have s31:=M31.size
   intro w35 A35 _ hb35
   have s35:=A35.mod.size
   have kk:∀ k,k ≤ w6.heap.size + 1 → k ≠ w4.heap.size → k < W.heap.size → w35.heap[k]? = w2.heap[k]?:=fun k h1 h2 h3 =>
    (A35.mod.block _ (by omega) (by simp; omega)).trans ((M31.block _ (by omega) (fun hh => by have:=(hrow _ hh).1; omega)).trans (A3'.mod.block _ (by omega) (by simp)))
   refine ⟨kk _ (by omega) (by omega) ll,(kk _ (by omega) (by omega) (by omega)).trans (M2.block _ (by omega) (by simp)),⟨a',_,c'⟩,hb35,?_,hx',?_⟩
   ·rw [List.map_append]
    exact hR31.keep A35.mod fun ad ha hk => by have:=hR31.base ad ha; simp at hk; omega
   ·refine ((((hmW.trans M2).trans A3'.mod).trans M31).trans A35.mod).less fun i hi hlt => ?_
    have:i ∈ yaN s.a → w6.heap.size + 2 ≤ i:=fun hh => (hrow i hh).1
    simp at hi ⊢
    rcases hi with hi | hi | hi | hi
    all_goals first | exact hi | omega | (have:=this hi; omega)
  case post =>
   intro e a1 W1 hq
   cases e with
   | normal =>
    obtain ⟨q1,q2⟩:=hq
    refine ⟨q1,fun lp' => wpIn_mono (q2 lp') ?_⟩
    rintro e a' W' ⟨rfl,mem,h3,h4,h5⟩
    exact ⟨rfl,by rw [h3]; exact World.putObj_heap_same (yaW q1),h4,h5⟩
   | _ => exact hq.elim
 case done =>
  rintro W xs hxs ⟨s,hb,hr,hx,hmW⟩ hK
  have hcs:W.cell? ⟨w4.heap.size,0,none⟩ = some (.slice s.a s.n s.c):=by rw [yaM hb]; rfl
  gi_wp2
  refine ⟨by simp,.inl ⟨_,_,rfl,run_takeDeferred hK,?_⟩⟩
  refine ⟨_,results_tmp rfl _ _ _,s,rfl,?_⟩
  have M:=ydU W w6.heap.size (.deferred none)
  have exs:xs = K:=by
   apply List.ext_getElem?
   intro i
   by_cases hi:i < xs.length
   ·obtain ⟨y,hy⟩:∃ y,xs[i]? = some y:=⟨_,List.getElem?_eq_getElem hi⟩
    rw [hy,hx i y hy]
   ·rw [List.getElem?_eq_none (by omega),List.getElem?_eq_none (by omega)]
  rw [exs] at hr
  rw [eL]
  exact ⟨(hr.keep M fun ad ha hk => by have:=hr.base ad ha; simp at hk; omega).rebase (by omega),(N6.go0 hmW k1).go0 M (by simp; omega)⟩
end
theorem yfS {w:World} {b:Nat} {L:TL} {F:List Nat} (h:ydO w b L F) (hL:L.length ≤ 1000000) :
 Calls pP 55 #[.pointer (some ⟨b,0,none⟩)] w fun e w' => ∃ s:Sl,e = .returned (.slice s.a s.n s.c) ∧ Row w' w.heap.size 226 2 ynU s.a s.n s.c (ycR L) ∧ Mod [] w w':=(callsIn_wide (n:=2)).1 (yH3 h hL)
end Go.Proofs.YteldhjiiocmicaaGreat
namespace Go.Proofs.YteldhjiiocmicaaGreat
open Go Go.RowKit Go.Maps Go.Sort Go.Shelf Go.MapKept Go.WideElems Go.WideShapes
set_option linter.unusedVariables false
set_option linter.unusedSimpArgs false
theorem yFA (s:Sl) (w:World):Calls pP 102 #[.slice s.a s.n s.c] w fun e w' => ∃ b,e = .returned (.func (.func 142) #[] #[.pointer (some ⟨b,0,none⟩)]) ∧ w.heap.size ≤ b ∧ b < w'.heap.size ∧ w'.heap[b]? = some (.cells #[.slice s.a s.n s.c] 81) ∧ Mod [] w w':=by
 refine (yKK (R:=fun v w' => ∃ b,v = .func (.func 142) #[] #[.pointer (some ⟨b,0,none⟩)] ∧ w.heap.size ≤ b ∧ b < w'.heap.size ∧ w'.heap[b]? = some (.cells #[.slice s.a s.n s.c] 81) ∧ Mod [] w w') ?_).mono (fun e w' ⟨v,he,b,hv,h⟩ => ⟨b,by rw [he,hv],h⟩)
 intro b1 f1 w2 A2 h2
 exact ⟨b1,rfl,f1,A2.lt b1 (by simp),h2,A2.mod⟩
section
attribute [local go_sem] Oper.semAt_some
set_option maxRecDepth 100000 in
set_option maxHeartbeats 2000000 in
theorem yDV {w0:World} {S:List Nat} {b1 B:Nat} {s:Sl} {l:List SegV} (hl:l.length ≤ 1000000) (hw:∀ W,Mod S w0 W → W.heap[b1]? = some (.cells #[.slice s.a s.n s.c] 81) ∧ ybF W 1 ygF s.a s.n l) :
  yLG pP 142 #[.pointer (some ⟨b1,0,none⟩)] (fun x:Int × SegV => #[.int .i64 x.1,.pointer (some ⟨x.2.p,0,none⟩)]) w0 S (fun k x W => x.1 = ((l.length - 1 - k:Nat):Int) ∧ l[l.length - 1 - k]? = some x.2) l.length B:=fun lp J hJm hJw hY W h0 => by
 obtain ⟨sa,sn,sc⟩:=s
 have hro:Fence.wide.round = none:=rfl
 refine callsIn_of_wp Tryz.func142 rfl trivial ?_ hro
 simp only [Tryz.ntmps142,List.size_toArray,List.length_cons,List.length_nil,Nat.reduceAdd,Nat.reduceSub,Array.replicate_succ,Array.replicate_zero,List.push_toArray,List.append_toArray,List.nil_append,List.cons_append]
 obtain ⟨hb0,hs0⟩:=hw W (hJw _ _ h0).1
 have hc1:W.cell? ⟨b1,0,none⟩ = some (.slice sa sn sc):=by rw [yaM hb0]; rfl
 have hn:sn = l.length:=hs0.1
 have ew:IntKind.wrap .i64 ((sn:Int) - 1) = (sn:Int) - 1:=yaI (by omega) (by omega)
 gi_wp2
 gi_loopg [3] l.length (fun k i wr => ∃ (pre:List (Int × SegV)),i = .int .i64 ((k:Int) - 1) ∧ k ≤ l.length ∧ pre.length = l.length - k ∧ J pre wr)
 case atStart => exact ⟨[],by first | rfl | rw [ew,hn],by omega,by simp,h0⟩
 case round =>
  obtain ⟨pre,rfl,hk,hpl,hJ⟩:=hrel
  obtain ⟨hMw,hBw⟩:=hJw _ _ hJ
  by_cases hlt:gk = 0
  ·subst hlt
   gi_wp2
   go_end0
   exact ⟨⟨_,rfl⟩,pre,by omega,hJ⟩
  ·obtain ⟨j,rfl⟩:∃ j,gk = j + 1:=⟨gk - 1,by omega⟩
   obtain ⟨x,hx⟩:∃ x,l[j]? = some x:=⟨_,List.getElem?_eq_getElem (by omega)⟩
   obtain ⟨hb1,hs1⟩:=hw _ hMw
   have hc2:wr.cell? ⟨b1,0,none⟩ = some (.slice sa sn sc):=by rw [yaM hb1]; rfl
   obtain ⟨ad,ha,hcx⟩:=hs1.2 j x hx
   have hcx:wr.cell? (ad.add j) = some (.pointer (some ⟨x.p,0,none⟩)):=by have:=hcx 0 _ rfl; rwa [add_zero,Nat.mul_one] at this
   obtain ⟨fn,tmps,assign,body,hy,hR⟩:=hY pre (((j:Nat):Int),x) wr hJ ⟨by rw [hpl]; congr 1; omega,by rw [hpl,show l.length - 1 - (l.length - (j + 1)) = j by omega]; exact hx⟩ (by omega)
   have ha:sa = some ad:=ha
   subst ha
   have ej:(((j + 1:Nat):Int) - 1) = (j:Int):=by omega
   have ew2:IntKind.wrap .i64 ((j:Int) - 1) = (j:Int) - 1:=yaI (by omega) (by omega)
   rw [ej]
   gi_wp2
   refine hR.mono ?_
   rintro e W3 ⟨rfl,hJ3⟩
   gi_wp2
   gi_roundg j
   case rel => exact ⟨_,by first | rfl | rw [ew2],by omega,by simp; omega,hJ3⟩
   case measure => omega
end
theorem yFB (s:Sl) (w:World):Calls pP 103 #[.slice s.a s.n s.c] w fun e w' => ∃ b,e = .returned (.func (.func 143) #[] #[.pointer (some ⟨b,0,none⟩)]) ∧ w.heap.size ≤ b ∧ b < w'.heap.size ∧ w'.heap[b]? = some (.cells #[.slice s.a s.n s.c] 27) ∧ Mod [] w w':=by
 refine (yKL (R:=fun v w' => ∃ b,v = .func (.func 143) #[] #[.pointer (some ⟨b,0,none⟩)] ∧ w.heap.size ≤ b ∧ b < w'.heap.size ∧ w'.heap[b]? = some (.cells #[.slice s.a s.n s.c] 27) ∧ Mod [] w w') ?_).mono (fun e w' ⟨v,he,b,hv,h⟩ => ⟨b,by rw [he,hv],h⟩)
 intro b1 f1 w2 A2 h2
 exact ⟨b1,rfl,f1,A2.lt b1 (by simp),h2,A2.mod⟩
section
attribute [local go_sem] Oper.semAt_some
set_option maxRecDepth 100000 in
set_option maxHeartbeats 2000000 in
theorem yDW {w0:World} {S:List Nat} {b1 B:Nat} {s:Sl} {l:List PFound} (hl:l.length ≤ 1000000) (hw:∀ W,Mod S w0 W → W.heap[b1]? = some (.cells #[.slice s.a s.n s.c] 27) ∧ ybF W 5 yjH s.a s.n l) :
  yLG pP 143 #[.pointer (some ⟨b1,0,none⟩)] (fun x:Int × PFound => #[.int .i64 x.1,.agg #[.int .i64 x.2.off,.bool x.2.r.hk,.string x.2.r.key,.bool x.2.r.tomb,.string x.2.r.val]]) w0 S (fun k x W => x.1 = ((l.length - 1 - k:Nat):Int) ∧ l[l.length - 1 - k]? = some x.2) l.length B:=fun lp J hJm hJw hY W h0 => by
 obtain ⟨sa,sn,sc⟩:=s
 have hro:Fence.wide.round = none:=rfl
 refine callsIn_of_wp Tryz.func143 rfl trivial ?_ hro
 simp only [Tryz.ntmps143,List.size_toArray,List.length_cons,List.length_nil,Nat.reduceAdd,Nat.reduceSub,Array.replicate_succ,Array.replicate_zero,List.push_toArray,List.append_toArray,List.nil_append,List.cons_append]
 obtain ⟨hb0,hs0⟩:=hw W (hJw _ _ h0).1
 have hc1:W.cell? ⟨b1,0,none⟩ = some (.slice sa sn sc):=by rw [yaM hb0]; rfl
 have hn:sn = l.length:=hs0.1
 have ew:IntKind.wrap .i64 ((sn:Int) - 1) = (sn:Int) - 1:=yaI (by omega) (by omega)
 gi_wp2
 gi_loopg [3] l.length (fun k i wr => ∃ (pre:List (Int × PFound)),i = .int .i64 ((k:Int) - 1) ∧ k ≤ l.length ∧ pre.length = l.length - k ∧ J pre wr)
 case atStart => exact ⟨[],by first | rfl | rw [ew,hn],by omega,by simp,h0⟩
 case round =>
  obtain ⟨pre,rfl,hk,hpl,hJ⟩:=hrel
  obtain ⟨hMw,hBw⟩:=hJw _ _ hJ
  by_cases hlt:gk = 0
  ·subst hlt
   gi_wp2
   go_end0
   exact ⟨⟨_,rfl⟩,pre,by omega,hJ⟩
  ·obtain ⟨j,rfl⟩:∃ j,gk = j + 1:=⟨gk - 1,by omega⟩
   obtain ⟨x,hx⟩:∃ x,l[j]? = some x:=⟨_,List.getElem?_eq_getElem (by omega)⟩
   obtain ⟨hb1,hs1⟩:=hw _ hMw
   have hc2:wr.cell? ⟨b1,0,none⟩ = some (.slice sa sn sc):=by rw [yaM hb1]; rfl
   obtain ⟨ad,ha,hcx⟩:=hs1.2 j x hx
   have hcx0:wr.cell? (ad.add (j * 5)) = some (.int .i64 x.off):=by have:=hcx 0 _ rfl; rwa [add_zero] at this
   have hcx1:wr.cell? { block:=(ad.add (j * 5)).block,off:=(ad.add (j * 5)).off + 1 } = some (.bool x.r.hk):=hcx 1 _ rfl
   have hcx2:wr.cell? { block:=(ad.add (j * 5)).block,off:=(ad.add (j * 5)).off + 2 } = some (.string x.r.key):=hcx 2 _ rfl
   have hcx3:wr.cell? { block:=(ad.add (j * 5)).block,off:=(ad.add (j * 5)).off + 3 } = some (.bool x.r.tomb):=hcx 3 _ rfl
   have hcx4:wr.cell? { block:=(ad.add (j * 5)).block,off:=(ad.add (j * 5)).off + 4 } = some (.string x.r.val):=hcx 4 _ rfl
   obtain ⟨fn,tmps,assign,body,hy,hR⟩:=hY pre (((j:Nat):Int),x) wr hJ ⟨by rw [hpl]; congr 1; omega,by rw [hpl,show l.length - 1 - (l.length - (j + 1)) = j by omega]; exact hx⟩ (by omega)
   have ha:sa = some ad:=ha
   subst ha
   have ej:(((j + 1:Nat):Int) - 1) = (j:Int):=by omega
   have ew2:IntKind.wrap .i64 ((j:Int) - 1) = (j:Int) - 1:=yaI (by omega) (by omega)
   rw [ej]
   gi_wp2
   refine hR.mono ?_
   rintro e W3 ⟨rfl,hJ3⟩
   gi_wp2
   gi_roundg j
   case rel => exact ⟨_,by first | rfl | rw [ew2],by omega,by simp; omega,hJ3⟩
   case measure => omega
end
end Go.Proofs.YteldhjiiocmicaaGreat
