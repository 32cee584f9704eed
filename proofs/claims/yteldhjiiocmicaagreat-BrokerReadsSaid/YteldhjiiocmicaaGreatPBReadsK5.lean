/- Part 5 of the proof of PBReads. -/
import Derived.Test.YteldhjiiocmicaaGreatPBReadsK4
namespace Go.Proofs.YteldhjiiocmicaaGreat
open Go Go.RowKit
set_option linter.all false
section
set_option maxRecDepth 100000
variable {R:VWP} {w w0:World} {m:Nat} {i0 i1 i2 i3 i4 i5 i6 i7 i8 i9 j0 j1 j2 j3 j4 j5 j6 j7 j8 j9 k0 k1 k2 k3 k4 k5 k6 k7 k8 k9 l0 l1 l2 l3 l4 l5 l6 l7 l8 l9:Int} {s0 s1 s2 s3 s4 s5 s6 s7 s8 s9 t0 t1 t2 t3 t4 t5 t6 t7 t8 t9:BA} {n0 n1 n2 n3 n4 n5 n6 n7 n8 n9 o0 o1 o2 o3 o4 o5 o6 o7 o8 o9 p0 p1 p2 p3 p4 p5 p6 p7 p8 p9:Nat} {q0 q1 q2 q3 q4 q5 q6 q7 q8 q9 r0 r1 r2 r3 r4 r5 r6 r7 r8 r9:OA} {B0 B1 B2 B3 B4 B5 B6 B7 B8 B9:Bool} {M0 M1 M2 M3:Option Nat} {V0 V1 V2 V3 V4 V5:Value} {A0 A1 A2:Addr}
def yeD (l:Nat) (lp:Loop) (B0:Nat) (o0_0:OA) (B1:Nat) (o1_0:Option Nat) (B2:Nat) (o2_0:Int) (B3:Nat) (o3_0_a:OA) (o3_0_n o3_0_c:Nat) (y21_0 y22_0:Int) (y22_1:Bool) (y22_2:BA) (y22_3:Bool) (y22_4:BA) (R:World → List TB → World → Prop) (w:World):Prop :=
 ∀ b1,w.heap.size ≤ b1 →
 ∀ w2,Adv [] [b1] w w2 →
 w2.heap[l]? = some (.loop lp) ∧
 ∀ w3,Mod [l] w2 w3 →
 brB (!y22_1) (
 brB true (
 ∀ w4,Adv [] [] w3 w4 →
 al w4 (.cells #[.int .i64 y22_0] 3) fun b5 w6 =>
 ybC pP (Builtin.append_ #[22,22] 22 #[.slice o3_0_a o3_0_n o3_0_c,(.slice (some ⟨b5,0,none⟩) 1 1)]) w6 fun a8 n9 b7 w7 => yaF [B0,B1,B2,B3,b1] w6 w7 ∧
 brB y22_1 (
 ∀ c2,Adv [B3] [] w7 c2 →
 ydM pP (Instr.mapUpdate 205 (.map o1_0) (.string y22_2) (.bool true)) c2 fun d1 => yaF [B0,B1,B2,B3,b1] c2 d1 ∧
 ∀ a0,Adv [] [] d1 a0 → a0.heap[B0]? = some (.cells #[.pointer o0_0] 46) →
 a0.heap[B1]? = some (.cells #[(.map o1_0)] 205) →
 a0.heap[B2]? = some (.cells #[.int .i64 o2_0] 3) →
 a0.heap[B3]? = some (.cells #[.slice a8 n9 b7] 22) →
 R w3 [⟨B0,46,[.pointer o0_0],true⟩,⟨B1,205,[(.map o1_0)],true⟩,⟨B2,3,[.int .i64 o2_0],true⟩,⟨B3,22,[.slice a8 n9 b7],true⟩,⟨b1,76,[.int .i64 y22_0,.bool y22_1,.string y22_2,.bool y22_3,.string y22_4],false⟩] a0)
 (
 ∀ a1,Adv [B3] [] w7 a1 → a1.heap[B0]? = some (.cells #[.pointer o0_0] 46) →
 a1.heap[B1]? = some (.cells #[(.map o1_0)] 205) →
 a1.heap[B2]? = some (.cells #[.int .i64 o2_0] 3) →
 a1.heap[B3]? = some (.cells #[.slice a8 n9 b7] 22) →
 R w3 [⟨B0,46,[.pointer o0_0],true⟩,⟨B1,205,[(.map o1_0)],true⟩,⟨B2,3,[.int .i64 o2_0],true⟩,⟨B3,22,[.slice a8 n9 b7],true⟩,⟨b1,76,[.int .i64 y22_0,.bool y22_1,.string y22_2,.bool y22_3,.string y22_4],false⟩] a1))
 (
 brB y22_1 (
 ∀ c3,Adv [] [] w3 c3 →
 ydM pP (Instr.mapUpdate 205 (.map o1_0) (.string y22_2) (.bool true)) c3 fun d2 => yaF [B0,B1,B2,B3,b1] c3 d2 ∧
 ∀ a2,Adv [] [] d2 a2 → a2.heap[B0]? = some (.cells #[.pointer o0_0] 46) →
 a2.heap[B1]? = some (.cells #[(.map o1_0)] 205) →
 a2.heap[B2]? = some (.cells #[.int .i64 o2_0] 3) →
 a2.heap[B3]? = some (.cells #[.slice o3_0_a o3_0_n o3_0_c] 22) →
 R w3 [⟨B0,46,[.pointer o0_0],true⟩,⟨B1,205,[(.map o1_0)],true⟩,⟨B2,3,[.int .i64 o2_0],true⟩,⟨B3,22,[.slice o3_0_a o3_0_n o3_0_c],true⟩,⟨b1,76,[.int .i64 y22_0,.bool y22_1,.string y22_2,.bool y22_3,.string y22_4],false⟩] a2)
 (
 ∀ a3,Adv [] [] w3 a3 → a3.heap[B0]? = some (.cells #[.pointer o0_0] 46) →
 a3.heap[B1]? = some (.cells #[(.map o1_0)] 205) →
 a3.heap[B2]? = some (.cells #[.int .i64 o2_0] 3) →
 a3.heap[B3]? = some (.cells #[.slice o3_0_a o3_0_n o3_0_c] 22) →
 R w3 [⟨B0,46,[.pointer o0_0],true⟩,⟨B1,205,[(.map o1_0)],true⟩,⟨B2,3,[.int .i64 o2_0],true⟩,⟨B3,22,[.slice o3_0_a o3_0_n o3_0_c],true⟩,⟨b1,76,[.int .i64 y22_0,.bool y22_1,.string y22_2,.bool y22_3,.string y22_4],false⟩] a3)))
 (
 ∃ d0,(∀ w',Mod [] w3 w' → (Instr.lookup 205 (.map o1_0) (.string y22_2) false).run pP w' = .ok (.bool d0) w') ∧
 brB (!d0) (
 brB true (
 ∀ d3,Adv [] [] w3 d3 →
 al d3 (.cells #[.int .i64 y22_0] 3) fun e1 d4 =>
 ybC pP (Builtin.append_ #[22,22] 22 #[.slice o3_0_a o3_0_n o3_0_c,(.slice (some ⟨e1,0,none⟩) 1 1)]) d4 fun b4 c0 b8 c4 => yaF [B0,B1,B2,B3,b1] d4 c4 ∧
 brB y22_1 (
 ∀ c5,Adv [B3] [] c4 c5 →
 ydM pP (Instr.mapUpdate 205 (.map o1_0) (.string y22_2) (.bool true)) c5 fun d5 => yaF [B0,B1,B2,B3,b1] c5 d5 ∧
 ∀ a4,Adv [] [] d5 a4 → a4.heap[B0]? = some (.cells #[.pointer o0_0] 46) →
 a4.heap[B1]? = some (.cells #[(.map o1_0)] 205) →
 a4.heap[B2]? = some (.cells #[.int .i64 o2_0] 3) →
 a4.heap[B3]? = some (.cells #[.slice b4 c0 b8] 22) →
 R w3 [⟨B0,46,[.pointer o0_0],true⟩,⟨B1,205,[(.map o1_0)],true⟩,⟨B2,3,[.int .i64 o2_0],true⟩,⟨B3,22,[.slice b4 c0 b8],true⟩,⟨b1,76,[.int .i64 y22_0,.bool y22_1,.string y22_2,.bool y22_3,.string y22_4],false⟩] a4)
 (
 ∀ a5,Adv [B3] [] c4 a5 → a5.heap[B0]? = some (.cells #[.pointer o0_0] 46) →
 a5.heap[B1]? = some (.cells #[(.map o1_0)] 205) →
 a5.heap[B2]? = some (.cells #[.int .i64 o2_0] 3) →
 a5.heap[B3]? = some (.cells #[.slice b4 c0 b8] 22) →
 R w3 [⟨B0,46,[.pointer o0_0],true⟩,⟨B1,205,[(.map o1_0)],true⟩,⟨B2,3,[.int .i64 o2_0],true⟩,⟨B3,22,[.slice b4 c0 b8],true⟩,⟨b1,76,[.int .i64 y22_0,.bool y22_1,.string y22_2,.bool y22_3,.string y22_4],false⟩] a5))
 (
 brB y22_1 (
 ∀ c6,Adv [] [] w3 c6 →
 ydM pP (Instr.mapUpdate 205 (.map o1_0) (.string y22_2) (.bool true)) c6 fun d6 => yaF [B0,B1,B2,B3,b1] c6 d6 ∧
 ∀ a6,Adv [] [] d6 a6 → a6.heap[B0]? = some (.cells #[.pointer o0_0] 46) →
 a6.heap[B1]? = some (.cells #[(.map o1_0)] 205) →
 a6.heap[B2]? = some (.cells #[.int .i64 o2_0] 3) →
 a6.heap[B3]? = some (.cells #[.slice o3_0_a o3_0_n o3_0_c] 22) →
 R w3 [⟨B0,46,[.pointer o0_0],true⟩,⟨B1,205,[(.map o1_0)],true⟩,⟨B2,3,[.int .i64 o2_0],true⟩,⟨B3,22,[.slice o3_0_a o3_0_n o3_0_c],true⟩,⟨b1,76,[.int .i64 y22_0,.bool y22_1,.string y22_2,.bool y22_3,.string y22_4],false⟩] a6)
 (
 ∀ a7,Adv [] [] w3 a7 → a7.heap[B0]? = some (.cells #[.pointer o0_0] 46) →
 a7.heap[B1]? = some (.cells #[(.map o1_0)] 205) →
 a7.heap[B2]? = some (.cells #[.int .i64 o2_0] 3) →
 a7.heap[B3]? = some (.cells #[.slice o3_0_a o3_0_n o3_0_c] 22) →
 R w3 [⟨B0,46,[.pointer o0_0],true⟩,⟨B1,205,[(.map o1_0)],true⟩,⟨B2,3,[.int .i64 o2_0],true⟩,⟨B3,22,[.slice o3_0_a o3_0_n o3_0_c],true⟩,⟨b1,76,[.int .i64 y22_0,.bool y22_1,.string y22_2,.bool y22_3,.string y22_4],false⟩] a7)))
 (
 yb7 o0_0 fun e4 =>
 ya2 w3 (Addr.add e4 1) fun e5 e3 e6 =>
 brB (o2_0 == (IntKind.wrap .i64 ((e3:Int) - 1))) (
 ∀ d7,Adv [] [] w3 d7 →
 al d7 (.cells #[.int .i64 y22_0] 3) fun e2 d8 =>
 ybC pP (Builtin.append_ #[22,22] 22 #[.slice o3_0_a o3_0_n o3_0_c,(.slice (some ⟨e2,0,none⟩) 1 1)]) d8 fun b6 c1 b9 c7 => yaF [B0,B1,B2,B3,b1] d8 c7 ∧
 brB y22_1 (
 ∀ c8,Adv [B3] [] c7 c8 →
 ydM pP (Instr.mapUpdate 205 (.map o1_0) (.string y22_2) (.bool true)) c8 fun d9 => yaF [B0,B1,B2,B3,b1] c8 d9 ∧
 ∀ a9,Adv [] [] d9 a9 → a9.heap[B0]? = some (.cells #[.pointer o0_0] 46) →
 a9.heap[B1]? = some (.cells #[(.map o1_0)] 205) →
 a9.heap[B2]? = some (.cells #[.int .i64 o2_0] 3) →
 a9.heap[B3]? = some (.cells #[.slice b6 c1 b9] 22) →
 R w3 [⟨B0,46,[.pointer o0_0],true⟩,⟨B1,205,[(.map o1_0)],true⟩,⟨B2,3,[.int .i64 o2_0],true⟩,⟨B3,22,[.slice b6 c1 b9],true⟩,⟨b1,76,[.int .i64 y22_0,.bool y22_1,.string y22_2,.bool y22_3,.string y22_4],false⟩] a9)
 (
 ∀ b0,Adv [B3] [] c7 b0 → b0.heap[B0]? = some (.cells #[.pointer o0_0] 46) →
 b0.heap[B1]? = some (.cells #[(.map o1_0)] 205) →
 b0.heap[B2]? = some (.cells #[.int .i64 o2_0] 3) →
 b0.heap[B3]? = some (.cells #[.slice b6 c1 b9] 22) →
 R w3 [⟨B0,46,[.pointer o0_0],true⟩,⟨B1,205,[(.map o1_0)],true⟩,⟨B2,3,[.int .i64 o2_0],true⟩,⟨B3,22,[.slice b6 c1 b9],true⟩,⟨b1,76,[.int .i64 y22_0,.bool y22_1,.string y22_2,.bool y22_3,.string y22_4],false⟩] b0))
 (
 brB y22_1 (
 ∀ c9,Adv [] [] w3 c9 →
 ydM pP (Instr.mapUpdate 205 (.map o1_0) (.string y22_2) (.bool true)) c9 fun e0 => yaF [B0,B1,B2,B3,b1] c9 e0 ∧
 ∀ b2,Adv [] [] e0 b2 → b2.heap[B0]? = some (.cells #[.pointer o0_0] 46) →
 b2.heap[B1]? = some (.cells #[(.map o1_0)] 205) →
 b2.heap[B2]? = some (.cells #[.int .i64 o2_0] 3) →
 b2.heap[B3]? = some (.cells #[.slice o3_0_a o3_0_n o3_0_c] 22) →
 R w3 [⟨B0,46,[.pointer o0_0],true⟩,⟨B1,205,[(.map o1_0)],true⟩,⟨B2,3,[.int .i64 o2_0],true⟩,⟨B3,22,[.slice o3_0_a o3_0_n o3_0_c],true⟩,⟨b1,76,[.int .i64 y22_0,.bool y22_1,.string y22_2,.bool y22_3,.string y22_4],false⟩] b2)
 (
 ∀ b3,Adv [] [] w3 b3 → b3.heap[B0]? = some (.cells #[.pointer o0_0] 46) →
 b3.heap[B1]? = some (.cells #[(.map o1_0)] 205) →
 b3.heap[B2]? = some (.cells #[.int .i64 o2_0] 3) →
 b3.heap[B3]? = some (.cells #[.slice o3_0_a o3_0_n o3_0_c] 22) →
 R w3 [⟨B0,46,[.pointer o0_0],true⟩,⟨B1,205,[(.map o1_0)],true⟩,⟨B2,3,[.int .i64 o2_0],true⟩,⟨B3,22,[.slice o3_0_a o3_0_n o3_0_c],true⟩,⟨b1,76,[.int .i64 y22_0,.bool y22_1,.string y22_2,.bool y22_3,.string y22_4],false⟩] b3))))
theorem yfT (l:Nat) (lp:Loop) (B0:Nat) (o0_0:OA) (B1:Nat) (o1_0:Option Nat) (B2:Nat) (o2_0:Int) (B3:Nat) (o3_0_a:OA) (o3_0_n o3_0_c:Nat) (y21_0 y22_0:Int) (y22_1:Bool) (y22_2:BA) (y22_3:Bool) (y22_4:BA) (js:Nat → Value) (R:World → List TB → World → Prop) (w:World) :
 yDR pP (yiT (yk5 (yiT (code Tryz.f48) [0,1,0,1,1,1])) [0,1,0,1,0]) l lp R [0,1,2,3] ⟨[(1,.pointer (some ⟨B0,0,none⟩),some (0,0)),(3,.pointer (some ⟨B1,0,none⟩),some (1,0)),(5,.pointer (some ⟨B2,0,none⟩),some (2,0)),(7,.pointer (some ⟨B3,0,none⟩),some (3,0)),(21,.int .i64 y21_0,none),(22,(.agg (Z9 y22_0 y22_1 y22_2 y22_3 y22_4)),none)],js⟩ ⟨[⟨B0,46,[.pointer o0_0],false⟩,⟨B1,205,[(.map o1_0)],false⟩,⟨B2,3,[.int .i64 o2_0],false⟩,⟨B3,22,[.slice o3_0_a o3_0_n o3_0_c],false⟩],w,[],[],true⟩ = yeD l lp B0 o0_0 B1 o1_0 B2 o2_0 B3 o3_0_a o3_0_n o3_0_c y21_0 y22_0 y22_1 y22_2 y22_3 y22_4 R w:=by kernel_rfl
end
end Go.Proofs.YteldhjiiocmicaaGreat
namespace Go.Proofs.YteldhjiiocmicaaGreat
open Go Go.RowKit Go.Maps Go.Sort Go.Shelf Go.MapKept Go.WideElems Go.WideShapes
set_option linter.unusedVariables false
set_option linter.unusedSimpArgs false
abbrev LtL:=List (ByteArray × Bool)
def ylC (last:Bool) (lt:LtL) (f:PFound):Bool:=!f.r.hk || (!((lkp lt f.r.key).getD false) || last)
def yeH (last:Bool) (a:LtL × List Int) (f:PFound):LtL × List Int :=
 (if f.r.hk = true then put a.1 f.r.key true else a.1,if ylC last a.1 f = true then a.2 ++ [f.off] else a.2)
theorem yeV {last:Bool} {lt:LtL} {kp:List Int} {f:PFound} (h:ylC last lt f = true):(yeH last (lt,kp) f).2 = kp ++ [f.off]:=if_pos h
theorem ypE {last:Bool} {lt:LtL} {kp:List Int} {f:PFound} (h:ylC last lt f = false):(yeH last (lt,kp) f).2 = kp:=if_neg (by rw [h]; decide)
theorem ylO {last:Bool} {lt:LtL} {kp:List Int} {f:PFound} (h:f.r.hk = true):(yeH last (lt,kp) f).1 = put lt f.r.key true:=if_pos h
theorem ylP {last:Bool} {lt:LtL} {kp:List Int} {f:PFound} (h:f.r.hk = false):(yeH last (lt,kp) f).1 = lt:=if_neg (by rw [h]; decide)
set_option maxHeartbeats 4000000 in
theorem yLU {W:World} {l b mb B0 B1 B2 B3 base:Nat} {lp:Loop} {room i y:Int} {sl:Sl} {lt:LtL} {kp:List Int} {ka:Option Addr} {kn kc:Nat} {f:PFound} {last:Bool} {R:World → List TB → World → Prop}
  (hl:W.heap[l]? = some (.loop lp)) (hc:W.heap[b]? = some (.cells #[.int .i64 room,.slice sl.a sl.n sl.c] 83)) (hm:yaS pP 9 hks hkb W mb lt)
  (hR:Row W base 3 1 ycO ka kn kc kp) (hbase:base ≤ W.heap.size) (hkl:kp.length ≤ 1000000) (hB:∀ z ∈ [B0,B1,B2,B3],z < W.heap.size ∧ z ∉ yaN ka ∧ z ≠ mb ∧ z ≠ l) (hmk:mb ∉ yaN ka) (hlk:l ∉ yaN ka) (hsz:f.r.key.size ≤ maxLen) (hlast:last = (i == IntKind.wrap .i64 ((sl.n:Int) - 1)))
  (hfin:∀ w2 w3 W' (s':Sl) mem,Mod [] W w2 → Mod [l] w2 w3 → Mod (B3 :: mb :: yaN ka) w3 W' → W'.heap[B3]? = some (.cells #[.slice s'.a s'.n s'.c] 22) → Row W' base 3 1 ycO s'.a s'.n s'.c (yeH last (lt,kp) f).2 → yaS pP 9 hks hkb W' mb (yeH last (lt,kp) f).1 → R w3 mem W') :
  yeD l lp B0 (some ⟨b,0,none⟩) B1 (some mb) B2 i B3 ka kn kc y f.off f.r.hk f.r.key f.r.tomb f.r.val R W:=by
 have ll:=yaW hl
 have lm:=hm.lt
 have hbk:B3 ∉ yaN ka:=(hB B3 (by simp)).2.1
 have hmB:mb ≠ B3:=fun e => (hB B3 (by simp)).2.2.1 e.symm
 have lB3:=(hB B3 (by simp)).1
 intro b1 f1 w2 A2
 have s2:=A2.mod.size
 refine ⟨A2.mod.keep0 hl,?_⟩
 intro w3 M3
 have s3:=M3.size
 have hlm:mb ≠ l:=by
  rintro rfl
  obtain ⟨es,clock,hb,_⟩:=hm
  rw [hl] at hb; cases hb
 have hlb:b ≠ l:=by rintro rfl; rw [hl] at hc; cases hc
 have hm3:=(hm.keepM0 A2.mod).keepM M3 (by simpa using hlm)
 have hR3:=yaA (hR.keep0 A2.mod) M3 (by simpa using hlk)
 have hc3:=M3.keep (A2.mod.keep0 hc) (by simpa using hlb)
 have hbx:∀ z ∈ [B0,B1,B2,B3,b1],z ∉ yaN ka:=fun z hz hz' => by
  have h5:=(yaG hR z hz').2
  simp only [List.mem_cons,List.not_mem_nil,or_false] at hz
  rcases hz with rfl | rfl | rfl | rfl | rfl
  ·exact (hB _ (by simp)).2.1 hz'
  ·exact (hB _ (by simp)).2.1 hz'
  ·exact (hB _ (by simp)).2.1 hz'
  ·exact (hB _ (by simp)).2.1 hz'
  ·omega
 have hmx:mb ∉ [B0,B1,B2,B3,b1]:=fun hz => by
  simp only [List.mem_cons,List.not_mem_nil,or_false] at hz
  rcases hz with e | e | e | e | e
  ·exact (hB B0 (by simp)).2.2.1 e.symm
  ·exact (hB B1 (by simp)).2.2.1 e.symm
  ·exact (hB B2 (by simp)).2.2.1 e.symm
  ·exact (hB B3 (by simp)).2.2.1 e.symm
  ·omega
 refine yaE (fun g1 => ?_) fun g1 => ?_
 ·refine yaE (fun _ => ?_) fun g => absurd g (by decide)
  intro w4 A4
  have hR4:=hR3.keep0 A4.mod
  have s4:=A4.mod.size
  refine yjU (f:=⟨ka,kn,kc⟩) (y:=f.off) hR4 (by omega) (by omega) hbx fun a4 c4 w7 hR7 M7 hk7 => ?_
  have s7:=M7.size
  have B7:B3 ∉ yaN a4:=fun hz => by rcases hk7 _ hz with hz | hz; exact hbk hz; omega
  have m7:mb ∉ yaN a4:=fun hz => by rcases hk7 _ hz with hz | hz; exact hmk hz; omega
  refine yaE (fun g9 => ?_) fun g9 => ?_
  ·intro w11 A11
   have hm11:=((hm3.keepM0 A4.mod).keepM M7 hmk).keepM A11.mod (by simpa using hmB)
   have hR11:=yaA hR7 A11.mod (by simpa using B7)
   refine hm11.setU (k:=f.r.key) ydT ybH Tryz.underlying205 (v:=true) (ybK hsz) hmx fun w12 hm12 M12 => ?_
   intro w13 A13 _ _ _ hc13
   exact hfin w2 w3 w13 ⟨a4,_,c4⟩ _ A2.mod M3 (((((A4.mod.trans M7).trans A11.mod).trans M12).trans A13.mod).less fun z hz _ => by simp at hz ⊢; rcases hz with h | h | h <;> simp [h]) hc13 (by rw [yeV (by simp [ylC,show f.r.hk = false by simpa using g1])]; exact (yaA hR11 M12 (by simpa using m7)).keep0 A13.mod) (by rw [ylO g9]; exact hm12.keepM0 A13.mod)
  ·intro w14 A14 _ _ _ hc14
   exact hfin w2 w3 w14 ⟨a4,_,c4⟩ _ A2.mod M3 (((A4.mod.trans M7).trans A14.mod).less fun z hz _ => by simp at hz ⊢; rcases hz with h | h <;> simp [h]) hc14 (by rw [yeV (by simp [ylC,show f.r.hk = false by simpa using g1])]; exact yaA hR7 A14.mod (by simpa using B7)) (by rw [ylP g9]; exact ((hm3.keepM0 A4.mod).keepM M7 hmk).keepM A14.mod (by simpa using hmB))
 have g1:f.r.hk = true:=by simpa using g1
 refine ⟨_,hm3.lkF (k:=f.r.key) ydT ybH Tryz.underlying205 yyD (ybK hsz),?_⟩
 refine yaE (fun g2 => ?_) fun g2 => ?_
 ·refine yaE (fun _ => ?_) fun g => absurd g (by decide)
  have g2:(lkp lt f.r.key).getD false = false:=by simpa using g2
  intro w4 A4
  have hR4:=hR3.keep0 A4.mod
  have s4:=A4.mod.size
  refine yjU (f:=⟨ka,kn,kc⟩) (y:=f.off) hR4 (by omega) (by omega) hbx fun a4 c4 w7 hR7 M7 hk7 => ?_
  have s7:=M7.size
  have B7:B3 ∉ yaN a4:=fun hz => by rcases hk7 _ hz with hz | hz; exact hbk hz; omega
  have m7:mb ∉ yaN a4:=fun hz => by rcases hk7 _ hz with hz | hz; exact hmk hz; omega
  refine yaE (fun g9 => ?_) fun g9 => ?_
  ·intro w11 A11
   have hm11:=((hm3.keepM0 A4.mod).keepM M7 hmk).keepM A11.mod (by simpa using hmB)
   have hR11:=yaA hR7 A11.mod (by simpa using B7)
   refine hm11.setU (k:=f.r.key) ydT ybH Tryz.underlying205 (v:=true) (ybK hsz) hmx fun w12 hm12 M12 => ?_
   intro w13 A13 _ _ _ hc13
   exact hfin w2 w3 w13 ⟨a4,_,c4⟩ _ A2.mod M3 (((((A4.mod.trans M7).trans A11.mod).trans M12).trans A13.mod).less fun z hz _ => by simp at hz ⊢; rcases hz with h | h | h <;> simp [h]) hc13 (by rw [yeV (by simp [ylC,g2])]; exact (yaA hR11 M12 (by simpa using m7)).keep0 A13.mod) (by rw [ylO g9]; exact hm12.keepM0 A13.mod)
  ·intro w14 A14 _ _ _ hc14
   exact hfin w2 w3 w14 ⟨a4,_,c4⟩ _ A2.mod M3 (((A4.mod.trans M7).trans A14.mod).less fun z hz _ => by simp at hz ⊢; rcases hz with h | h <;> simp [h]) hc14 (by rw [yeV (by simp [ylC,g2])]; exact yaA hR7 A14.mod (by simpa using B7)) (by rw [ylP g9]; exact ((hm3.keepM0 A4.mod).keepM M7 hmk).keepM A14.mod (by simpa using hmB))
 have g2:(lkp lt f.r.key).getD false = true:=by simpa using g2
 refine ya6 (yaU (x:=sl.a) (n:=sl.n) (c:=sl.c) (by rw [ycC,yaM hc3]; rfl) ?_)
 refine yaE (fun g3 => ?_) fun g3 => ?_
 ·intro w4 A4
  have hR4:=hR3.keep0 A4.mod
  have s4:=A4.mod.size
  refine yjU (f:=⟨ka,kn,kc⟩) (y:=f.off) hR4 (by omega) (by omega) hbx fun a4 c4 w7 hR7 M7 hk7 => ?_
  have s7:=M7.size
  have B7:B3 ∉ yaN a4:=fun hz => by rcases hk7 _ hz with hz | hz; exact hbk hz; omega
  have m7:mb ∉ yaN a4:=fun hz => by rcases hk7 _ hz with hz | hz; exact hmk hz; omega
  refine yaE (fun g9 => ?_) fun g9 => ?_
  ·intro w11 A11
   have hm11:=((hm3.keepM0 A4.mod).keepM M7 hmk).keepM A11.mod (by simpa using hmB)
   have hR11:=yaA hR7 A11.mod (by simpa using B7)
   refine hm11.setU (k:=f.r.key) ydT ybH Tryz.underlying205 (v:=true) (ybK hsz) hmx fun w12 hm12 M12 => ?_
   intro w13 A13 _ _ _ hc13
   exact hfin w2 w3 w13 ⟨a4,_,c4⟩ _ A2.mod M3 (((((A4.mod.trans M7).trans A11.mod).trans M12).trans A13.mod).less fun z hz _ => by simp at hz ⊢; rcases hz with h | h | h <;> simp [h]) hc13 (by rw [yeV (by rw [hlast,g3]; simp [ylC])]; exact (yaA hR11 M12 (by simpa using m7)).keep0 A13.mod) (by rw [ylO g9]; exact hm12.keepM0 A13.mod)
  ·intro w14 A14 _ _ _ hc14
   exact hfin w2 w3 w14 ⟨a4,_,c4⟩ _ A2.mod M3 (((A4.mod.trans M7).trans A14.mod).less fun z hz _ => by simp at hz ⊢; rcases hz with h | h <;> simp [h]) hc14 (by rw [yeV (by rw [hlast,g3]; simp [ylC])]; exact yaA hR7 A14.mod (by simpa using B7)) (by rw [ylP g9]; exact ((hm3.keepM0 A4.mod).keepM M7 hmk).keepM A14.mod (by simpa using hmB))
 ·refine yaE (fun g9 => ?_) fun g9 => ?_
  ·intro w11 A11
   have hm11:=hm3.keepM0 A11.mod
   have s11:=A11.mod.size
   refine hm11.setU (k:=f.r.key) ydT ybH Tryz.underlying205 (v:=true) (ybK hsz) hmx fun w12 hm12 M12 => ?_
   intro w13 A13 _ _ _ hc13
   exact hfin w2 w3 w13 ⟨ka,kn,kc⟩ _ A2.mod M3 (((A11.mod.trans M12).trans A13.mod).less fun z hz _ => by simp at hz ⊢; simp [hz]) hc13 (by rw [ypE (by rw [hlast,g3]; simp [ylC,g1,g2])]; exact (yaA (hR3.keep0 A11.mod) M12 (by simpa using hmk)).keep0 A13.mod) (by rw [ylO g9]; exact hm12.keepM0 A13.mod)
  ·intro w14 A14 _ _ _ hc14
   exact hfin w2 w3 w14 ⟨ka,kn,kc⟩ _ A2.mod M3 (A14.mod.less fun z hz _ => by simp at hz) hc14 (by rw [ypE (by rw [hlast,g3]; simp [ylC,g1,g2])]; exact hR3.keep0 A14.mod) (by rw [ylP g9]; exact hm3.keepM0 A14.mod)
end Go.Proofs.YteldhjiiocmicaaGreat
namespace Go.Proofs.YteldhjiiocmicaaGreat
open Go Go.RowKit Go.Maps Go.Sort Go.Shelf Go.MapKept Go.WideElems Go.WideShapes
set_option linter.unusedVariables false
set_option linter.unusedSimpArgs false
theorem yuJ:ylN 63 (yiT (yk5 (yiT (code Tryz.f48) [0,1,0,1,1,1])) [0,1,0,1,0]) = true:=by kernel_rfl
theorem yqR {last:Bool}:∀ (l:List PFound) (a:LtL × List Int),((l.foldl (yeH last) a).2).length ≤ a.2.length + l.length
 | [],a => by simp
 | f :: r,a => by
  have:=yqR (last:=last) r (yeH last a f)
  rw [List.foldl_cons,List.length_cons]
  have h2:(yeH last a f).2.length ≤ a.2.length + 1:=by unfold yeH; dsimp only; split <;> simp
  omega
set_option maxHeartbeats 4000000 in
set_option maxRecDepth 100000 in
theorem yLV {W:World} {l0:Nat} {r0:Loop} (hl0:W.heap[l0]? = some (.loop r0)) {a:Act} {b mb B0 B1 B2 B3 b9:Nat} {room i:Int} {sl s:Sl} {lt:LtL} {fs:List PFound} {last:Bool} {Q:Exit → Act → World → Prop}
  (t1:a.tmps.getD 1 undef = .pointer (some ⟨B0,0,none⟩)) (t3:a.tmps.getD 3 undef = .pointer (some ⟨B1,0,none⟩)) (t5:a.tmps.getD 5 undef = .pointer (some ⟨B2,0,none⟩)) (t7:a.tmps.getD 7 undef = .pointer (some ⟨B3,0,none⟩))
  (t20:a.tmps.getD 20 undef = .func (.func 143) #[] #[.pointer (some ⟨b9,0,none⟩)]) (hsz:a.tmps.size = 63)
  (c0:W.heap[B0]? = some (.cells #[.pointer (some ⟨b,0,none⟩)] 46)) (c1:W.heap[B1]? = some (.cells #[.map (some mb)] 205)) (c2:W.heap[B2]? = some (.cells #[.int .i64 i] 3)) (c3:W.heap[B3]? = some (.cells #[.slice none 0 0] 22))
  (c9:W.heap[b9]? = some (.cells #[.slice s.a s.n s.c] 27)) (hF:Row W 0 76 5 yjH s.a s.n s.c fs) (hfl:fs.length ≤ 100000) (hky:∀ f ∈ fs,f.r.key.size ≤ maxLen)
  (hc:W.heap[b]? = some (.cells #[.int .i64 room,.slice sl.a sl.n sl.c] 83)) (hm:yaS pP 9 hks hkb W mb lt) (hnd:[B0,B1,B2,B3].Nodup) (hb3:b9 ≠ B3) (hlast:last = (i == IntKind.wrap .i64 ((sl.n:Int) - 1)))
  (hQ:∀ W' (s':Sl),W'.heap[B3]? = some (.cells #[.slice s'.a s'.n s'.c] 22) → Row W' W.heap.size 3 1 ycO s'.a s'.n s'.c (fs.reverse.foldl (yeH last) (lt,[])).2 → yaS pP 9 hks hkb W' mb (fs.reverse.foldl (yeH last) (lt,[])).1 → Mod [B3,mb] W W' → Q .normal a W') :
  (yiT (yk5 (yiT (code Tryz.f48) [0,1,0,1,1,1])) [0,1,0,1,0]).wpIn (Fence.wide.inRound l0) 0 pP Q a W:=by
 have k0:=yaH c0
 have k1:=yaH c1
 have k2:=yaH c2
 have k3:=yaH c3
 have km:=hm.lt
 have nm:∀ {k:Nat} {cs:Array Value} {T:TypeId},W.heap[k]? = some (.cells cs T) → k ≠ mb:=fun {k cs T} h e => hm.notCells (e ▸ h)
 have n0:B0 ≠ B3:=fun e => by subst e; simp at hnd
 have n1:B1 ≠ B3:=fun e => by subst e; simp at hnd
 have n2:B2 ≠ B3:=fun e => by subst e; simp at hnd
 have nb:b ≠ B3:=fun e => by subst e; rw [c3] at hc; cases hc
 have hlF:mb ∉ yaN s.a:=fun hz => by obtain ⟨_,_,cur,hcur⟩:=yaP hF mb hz; exact hm.notCells hcur
 have h3F:B3 ∉ yaN s.a:=yc5 hF c3 (by decide)
 have hlF':∀ k ∈ [B3,mb],k ∉ yaN s.a:=fun k hk => by simp at hk; rcases hk with rfl | rfl <;> assumption
 change (Code.rangeFunc (Operand.tmp 20) #[21,22] (yMH (yiT (yk5 (yiT (code Tryz.f48) [0,1,0,1,1,1])) [0,1,0,1,0])) (yk5 (yiT (yk5 (yiT (code Tryz.f48) [0,1,0,1,1,1])) [0,1,0,1,0]))).wpIn _ _ _ _ _ _
 refine ynF (S:=[B3,mb]) (N:=fs.length) hl0 (encs:=fun x:Int × PFound => #[.int .i64 x.1,.agg #[.int .i64 x.2.off,.bool x.2.r.hk,.string x.2.r.key,.bool x.2.r.tomb,.string x.2.r.val]]) (X:=fun k x W => x.1 = ((fs.length - 1 - k:Nat):Int) ∧ fs[fs.length - 1 - k]? = some x.2) t20 (enters_of Tryz.func143 (by kernel_rfl) rfl)
  (yDW (s:=s) (l:=fs) (by omega) fun W' M => ⟨M.keep c9 (by simp; exact ⟨hb3,nm c9⟩),(yaA hF M hlF').sl yd1⟩) (fun _ => rfl) (by simp; omega)
  (fun pre W' => ∃ s':Sl,W'.heap[B3]? = some (.cells #[.slice s'.a s'.n s'.c] 22) ∧ Row W' (W.heap.size + 1) 3 1 ycO s'.a s'.n s'.c ((pre.map (·.2)).foldl (yeH last) (lt,[])).2 ∧ yaS pP 9 hks hkb W' mb ((pre.map (·.2)).foldl (yeH last) (lt,[])).1 ∧ (∀ (j:Nat) y,pre[j]? = some y → fs[fs.length - 1 - j]? = some y.2) ∧ pre.length ≤ fs.length ∧ Mod [B3,mb] W W')
  ?im ?ip ?is ⟨ya8,c3,Row.nil ..,hm,by simp,by simp,(Mod.refl _).less (by simp)⟩ ?round ?done
 case im =>
  rintro pre W1 W2 ⟨s',hb,hr,hmm,hx,hpl,hM⟩ M
  exact ⟨s',M.keep0 hb,hr.keep0 M,hmm.keepM0 M,hx,hpl,(hM.trans M).less (by simp)⟩
 case ip =>
  rintro pre W1 l o rfl ⟨s',hb,hr,hmm,hx,hpl,hM⟩
  have M:=ydU W1 W.heap.size (.loop o)
  refine ⟨s',M.keep hb (by simp; omega),yaA hr M fun k hk hk' => ?_,hmm.keepM M (by simp; omega),hx,hpl,(hM.trans M).less fun z hz hlt => ?_⟩
  ·have:=(yaG hr k hk').1; simp at hk; omega
  ·simp at hz ⊢
   rcases hz with h | h | h
   ·exact .inl h
   ·exact .inr h
   ·omega
 case is =>
  rintro pre W1 ⟨s',hb,hr,hmm,hx,hpl,hM⟩
  exact hM
 case round =>
  rintro pre ⟨xi,f⟩ W1 lp ⟨s',hb,hr,hmm,hx,hpl,hM⟩ hlen ⟨hxi,hxf⟩ hl
  simp only [yGF]
  have hMk:∀ {k:Nat} {o:Obj},W.heap[k]? = some o → k ≠ B3 → k ≠ mb → W1.heap[k]? = some o:=fun {k o} h h1 h2 => (hM.block k (yaW h) (by simp; exact ⟨h1,h2⟩)).trans h
  have d0:=hMk c0 n0 (nm c0)
  have d1:=hMk c1 n1 (nm c1)
  have d2:=hMk c2 n2 (nm c2)
  have dc:=hMk hc nb (nm hc)
  have lW1:=hM.size
  have ll:=yaW hl
  have hfm:f ∈ fs:=List.mem_of_getElem? hxf
  have hkl:=yqR (last:=last) (pre.map (·.2)) (lt,[])
  simp only [List.length_nil,List.length_map,Nat.zero_add] at hkl
  have hrs:∀ z,z < W.heap.size + 1 → z ∉ yaN s'.a:=fun z hz hz' => by have:=(yaG hr z hz').1; omega
  have hsnoc:((pre ++ [(xi,f)]).map (·.2)).foldl (yeH last) (lt,[]) = yeH last ((pre.map (·.2)).foldl (yeH last) (lt,[])) f:=by rw [List.map_append,List.foldl_append]; rfl
  refine wpIn_mono (ynE Tryz.wide_mixed (n:=63) (lp:=lp) yuJ (ids:=[0,1,2,3]) (f:=⟨[(1,.pointer (some ⟨B0,0,none⟩),some (0,0)),(3,.pointer (some ⟨B1,0,none⟩),some (1,0)),(5,.pointer (some ⟨B2,0,none⟩),some (2,0)),(7,.pointer (some ⟨B3,0,none⟩),some (3,0)),(21,.int .i64 xi,none),(22,.agg #[.int .i64 f.off,.bool f.r.hk,.string f.r.key,.bool f.r.tomb,.string f.r.val],none)],_⟩)
   (s:=⟨[⟨B0,46,[.pointer (some ⟨b,0,none⟩)],false⟩,⟨B1,205,[.map (some mb)],false⟩,⟨B2,3,[.int .i64 i],false⟩,⟨B3,22,[.slice s'.a s'.n s'.c],false⟩],W1,[],[],true⟩)
   (R:=fun W2 _ W' => W'.heap[W.heap.size]? = W2.heap[W.heap.size]? ∧ ∃ s':Sl,W'.heap[B3]? = some (.cells #[.slice s'.a s'.n s'.c] 22) ∧ Row W' (W.heap.size + 1) 3 1 ycO s'.a s'.n s'.c (((pre ++ [(xi,f)]).map (·.2)).foldl (yeH last) (lt,[])).2 ∧ yaS pP 9 hks hkb W' mb (((pre ++ [(xi,f)]).map (·.2)).foldl (yeH last) (lt,[])).1 ∧ (∀ (j:Nat) y,(pre ++ [(xi,f)])[j]? = some y → fs[fs.length - 1 - j]? = some y.2) ∧ (pre ++ [(xi,f)]).length ≤ fs.length ∧ Mod [B3,mb] W W')
   (Eq.mpr (yfT ..) ?cond) (yGD ?hat (by simpa using hnd) (yDT ?htg)) (yGE ?hrel rfl (by simp [hsz]))) ?post
  case hat =>
   intro k tb hk
   match k,hk with
   | 0,hk => simp at hk; subst hk; exact d0
   | 1,hk => simp at hk; subst hk; exact d1
   | 2,hk => simp at hk; subst hk; exact d2
   | 3,hk => simp at hk; subst hk; exact hb
   | k + 4,hk => simp at hk
  case htg =>
   intro p hp k off e
   simp only [List.mem_cons,List.not_mem_nil,or_false] at hp
   rcases hp with rfl | rfl | rfl | rfl | rfl | rfl <;> simp at e
   all_goals (obtain ⟨rfl,rfl⟩:=e; exact ⟨_,rfl,rfl⟩)
  case hrel =>
   intro p hp
   simp only [List.mem_cons,List.not_mem_nil,or_false] at hp
   rcases hp with rfl | rfl | rfl | rfl | rfl | rfl
   ·rw [ydL,if_neg (by simp),ydL,if_neg (by simp)]; exact t1
   ·rw [ydL,if_neg (by simp),ydL,if_neg (by simp)]; exact t3
   ·rw [ydL,if_neg (by simp),ydL,if_neg (by simp)]; exact t5
   ·rw [ydL,if_neg (by simp),ydL,if_neg (by simp)]; exact t7
   ·rw [ydL,if_neg (by simp),ydL,if_pos ⟨rfl,by omega⟩]
   ·rw [ydL,if_pos ⟨rfl,by simp; omega⟩]
  case cond =>
   refine yLU hl dc hmm hr (by omega) (by omega) (fun z hz => ?_) (hrs mb (by omega)) (hrs _ (by omega)) (hky f hfm) hlast ?_
   ·have hz:z < W.heap.size ∧ z ≠ mb:=by
     simp only [List.mem_cons,List.not_mem_nil,or_false] at hz
     rcases hz with rfl | rfl | rfl | rfl
     ·exact ⟨k0,nm c0⟩
     ·exact ⟨k1,nm c1⟩
     ·exact ⟨k2,nm c2⟩
     ·exact ⟨k3,nm c3⟩
    exact ⟨by omega,hrs z (by omega),hz.2,by omega⟩
   ·intro w2 w3 W' s2 mem M2 M3 M' hb' hr' hm'
    have z2:=M2.size
    have z3:=M3.size
    refine ⟨M'.block _ (by omega) ?_,s2,hb',by rw [hsnoc]; exact hr',by rw [hsnoc]; exact hm',?_,by simp; omega,?_⟩
    ·simp only [List.mem_cons,not_or]
     exact ⟨by omega,by omega,hrs _ (by omega)⟩
    ·intro j y hy
     by_cases hj:j < pre.length
     ·rw [List.getElem?_append_left hj] at hy; exact hx j y hy
     ·rw [List.getElem?_append_right (by omega)] at hy
      have hje:j - pre.length = 0:=by
       have:=(List.getElem?_eq_some_iff.1 hy).1; simp at this; omega
      rw [hje] at hy
      simp at hy; subst hy
      rw [show j = pre.length by omega]; exact hxf
    ·refine ((((hM.trans M2).trans M3).trans M')).less fun z hz hlt => ?_
     have hzr:=hrs z (by omega)
     simp only [List.mem_cons,List.not_mem_nil,or_false]
     by_cases e1:z = B3
     ·exact .inl e1
     ·by_cases e2:z = mb
      ·exact .inr e2
      ·exfalso
       have e3:z ≠ W.heap.size:=by omega
       simp [e1,e2,e3,hzr] at hz
  case post =>
   intro e a1 W2 hq
   cases e with
   | normal =>
    obtain ⟨q1,q2⟩:=hq
    refine ⟨q1,fun lp' => wpIn_mono (q2 lp') ?_⟩
    rintro e a' W' ⟨rfl,mem,h3,h4⟩
    exact ⟨rfl,by rw [h3]; exact World.putObj_heap_same (yaW q1),h4⟩
   | _ => exact hq.elim
 case done =>
  rintro W1 xs hxs ⟨s',hb,hr,hmm,hx,hpl,hM⟩
  have exs:xs.map (·.2) = fs.reverse:=by
   apply List.ext_getElem?
   intro j
   rw [List.getElem?_map]
   by_cases hj:j < xs.length
   ·obtain ⟨y,hy⟩:∃ y,xs[j]? = some y:=⟨_,List.getElem?_eq_getElem hj⟩
    rw [hy,List.getElem?_reverse (by omega),hx j y hy]; rfl
   ·rw [List.getElem?_eq_none (by omega),List.getElem?_eq_none (by simp; omega)]; rfl
  rw [exs] at hr hmm
  exact hQ W1 s' hb (hr.rebase (by omega)) hmm hM
end Go.Proofs.YteldhjiiocmicaaGreat
namespace Go.Proofs.YteldhjiiocmicaaGreat
open Go Go.RowKit
set_option linter.all false
section
set_option maxRecDepth 100000
variable {R:VWP} {w w0:World} {m:Nat} {i0 i1 i2 i3 i4 i5 i6 i7 i8 i9 j0 j1 j2 j3 j4 j5 j6 j7 j8 j9 k0 k1 k2 k3 k4 k5 k6 k7 k8 k9 l0 l1 l2 l3 l4 l5 l6 l7 l8 l9:Int} {s0 s1 s2 s3 s4 s5 s6 s7 s8 s9 t0 t1 t2 t3 t4 t5 t6 t7 t8 t9:BA} {n0 n1 n2 n3 n4 n5 n6 n7 n8 n9 o0 o1 o2 o3 o4 o5 o6 o7 o8 o9 p0 p1 p2 p3 p4 p5 p6 p7 p8 p9:Nat} {q0 q1 q2 q3 q4 q5 q6 q7 q8 q9 r0 r1 r2 r3 r4 r5 r6 r7 r8 r9:OA} {B0 B1 B2 B3 B4 B5 B6 B7 B8 B9:Bool} {M0 M1 M2 M3:Option Nat} {V0 V1 V2 V3 V4 V5:Value} {A0 A1 A2:Addr}
def ygR (B0:Nat) (o0_0:Int) (B1:Nat) (o1_0_a:OA) (o1_0_n o1_0_c:Nat) (y6_0:Value) (R:List TB → World → Prop) (w:World):Prop :=
 ∀ w1,Adv [] [] w w1 →
 Calls pP 105 #[y6_0,.slice o1_0_a o1_0_n o1_0_c] w1 fun e w2 => ∃ x3,e = .returned (.int .i64 x3) ∧ yaF [B0,B1] w1 w2 ∧ (((.int .i64 o0_0):Value) = (.int .i64 o0_0)) ∧
 ∀ w4,Adv [B0] [] w2 w4 → w4.heap[B0]? = some (.cells #[(.int .i64 (IntKind.wrap .i64 (o0_0 + x3)))] 3) →
 w4.heap[B1]? = some (.cells #[.slice o1_0_a o1_0_n o1_0_c] 22) →
 R [⟨B0,3,[(.int .i64 (IntKind.wrap .i64 (o0_0 + x3)))],true⟩,⟨B1,22,[.slice o1_0_a o1_0_n o1_0_c],true⟩] w4
theorem yLW (B0:Nat) (o0_0:Int) (B1:Nat) (o1_0_a:OA) (o1_0_n o1_0_c:Nat) (y6_0:Value) (js:Nat → Value) (R:List TB → World → Prop) (w:World) :
 ylB pP (yiT (yk5 (yiT (code Tryz.f48) [0,1,0,1,1,1])) [1,1,0]) (fun _ s => ygB (ycI [0,1] s) fun s => R s.mem s.w) ⟨[(4,.pointer (some ⟨B0,0,none⟩),some (0,0)),(7,.pointer (some ⟨B1,0,none⟩),some (1,0)),(6,y6_0,none)],js⟩ ⟨[⟨B0,3,[.int .i64 o0_0],false⟩,⟨B1,22,[.slice o1_0_a o1_0_n o1_0_c],false⟩],w,[],[],true⟩ = ygR B0 o0_0 B1 o1_0_a o1_0_n o1_0_c y6_0 R w:=by kernel_rfl
end
end Go.Proofs.YteldhjiiocmicaaGreat
namespace Go.Proofs.YteldhjiiocmicaaGreat
open Go Go.RowKit Go.Maps Go.Sort Go.Shelf Go.MapKept Go.WideElems Go.WideShapes
set_option linter.unusedVariables false
set_option linter.unusedSimpArgs false
theorem yGG (w:World) (b:Nat):Mod [] w ((((w.alloc (Obj.cells #[Value.pointer (some ⟨b,0,none⟩)] 46)).alloc (Obj.map #[] 0)).alloc (Obj.cells #[Value.map (some (w.heap.size + 1))] 205)).alloc (Obj.cells #[Value.int IntKind.i64 0] 3)) ∧ ((((w.alloc (Obj.cells #[Value.pointer (some ⟨b,0,none⟩)] 46)).alloc (Obj.map #[] 0)).alloc (Obj.cells #[Value.map (some (w.heap.size + 1))] 205)).alloc (Obj.cells #[Value.int IntKind.i64 0] 3)).heap.size = w.heap.size + 4 ∧ ((((w.alloc (Obj.cells #[Value.pointer (some ⟨b,0,none⟩)] 46)).alloc (Obj.map #[] 0)).alloc (Obj.cells #[Value.map (some (w.heap.size + 1))] 205)).alloc (Obj.cells #[Value.int IntKind.i64 0] 3)).heap[w.heap.size]? = some (.cells #[.pointer (some ⟨b,0,none⟩)] 46) ∧ ((((w.alloc (Obj.cells #[Value.pointer (some ⟨b,0,none⟩)] 46)).alloc (Obj.map #[] 0)).alloc (Obj.cells #[Value.map (some (w.heap.size + 1))] 205)).alloc (Obj.cells #[Value.int IntKind.i64 0] 3)).heap[w.heap.size + 1]? = some (.map #[] 0) ∧ ((((w.alloc (Obj.cells #[Value.pointer (some ⟨b,0,none⟩)] 46)).alloc (Obj.map #[] 0)).alloc (Obj.cells #[Value.map (some (w.heap.size + 1))] 205)).alloc (Obj.cells #[Value.int IntKind.i64 0] 3)).heap[w.heap.size + 1 + 1]? = some (.cells #[.map (some (w.heap.size + 1))] 205) ∧ ((((w.alloc (Obj.cells #[Value.pointer (some ⟨b,0,none⟩)] 46)).alloc (Obj.map #[] 0)).alloc (Obj.cells #[Value.map (some (w.heap.size + 1))] 205)).alloc (Obj.cells #[Value.int IntKind.i64 0] 3)).heap[w.heap.size + 1 + 1 + 1]? = some (.cells #[.int .i64 0] 3):=by
 have MA:∀ (x:World) (o:Obj),Mod [] x (x.alloc o):=fun x o => Mod.of_below ((Below.refl _ _).alloc (Nat.le_refl _) _)
 refine ⟨(((MA _ _).go0 (MA _ _) (by simp)).go0 (MA _ _) (by simp)).go0 (MA _ _) (by simp),by simp,?_,?_,?_,?_⟩
 ·exact (MA _ _).keep0 ((MA _ _).keep0 ((MA _ _).keep0 (World.alloc_heap_new w _)))
 ·refine (MA _ _).keep0 ((MA _ _).keep0 ?_)
  have:=World.alloc_heap_new (w.alloc (Obj.cells #[Value.pointer (some ⟨b,0,none⟩)] 46)) (Obj.map #[] 0)
  rwa [World.size_alloc] at this
 ·refine (MA _ _).keep0 ?_
  have:=World.alloc_heap_new ((w.alloc (Obj.cells #[Value.pointer (some ⟨b,0,none⟩)] 46)).alloc (Obj.map #[] 0)) (Obj.cells #[Value.map (some (w.heap.size + 1))] 205)
  rwa [World.size_alloc,World.size_alloc] at this
 ·have:=World.alloc_heap_new (((w.alloc (Obj.cells #[Value.pointer (some ⟨b,0,none⟩)] 46)).alloc (Obj.map #[] 0)).alloc (Obj.cells #[Value.map (some (w.heap.size + 1))] 205)) (Obj.cells #[Value.int IntKind.i64 0] 3)
  rwa [World.size_alloc,World.size_alloc,World.size_alloc] at this
theorem Mod.keep' {S:List Nat} {w w':World} {k:Nat} {o:Obj} (M:Mod S w w') (h:w.heap[k]? = some o) (hk:k ∉ S):w'.heap[k]? = some o:=(M.block k (yaW h) hk).trans h
theorem Mod.keep0' {w w':World} {k:Nat} {o:Obj} (M:Mod [] w w') (h:w.heap[k]? = some o):w'.heap[k]? = some o:=(M.block k (yaW h) (by simp)).trans h
theorem yLX (W:World) (x:Int) (k:Nat) (lp:Loop) (hk:k < W.heap.size):Mod [k] W ((W.alloc (Obj.cells #[Value.int IntKind.i64 x] 3)).putObj k (Obj.loop lp)) ∧ ((W.alloc (Obj.cells #[Value.int IntKind.i64 x] 3)).putObj k (Obj.loop lp)).heap.size = W.heap.size + 1 ∧ ((W.alloc (Obj.cells #[Value.int IntKind.i64 x] 3)).putObj k (Obj.loop lp)).heap[W.heap.size]? = some (.cells #[.int .i64 x] 3) ∧ ((W.alloc (Obj.cells #[Value.int IntKind.i64 x] 3)).putObj k (Obj.loop lp)).heap[k]? = some (.loop lp):=by
 have M1:Mod [] W (W.alloc (Obj.cells #[Value.int IntKind.i64 x] 3)):=Mod.of_below ((Below.refl _ _).alloc (Nat.le_refl _) _)
 have z1:(W.alloc (Obj.cells #[Value.int IntKind.i64 x] 3)).heap.size = W.heap.size + 1:=by simp
 have M2:=ydU (W.alloc (Obj.cells #[Value.int IntKind.i64 x] 3)) k (Obj.loop lp)
 refine ⟨(M1.trans M2).less fun z hz _ => by simpa using hz,by simp [World.putObj],M2.keep (World.alloc_heap_new W _) (by simp; omega),World.putObj_heap_same (by omega)⟩
theorem yLY (W:World):Mod [] W (W.alloc (Obj.cells #[Value.slice none 0 0] 22)) ∧ (W.alloc (Obj.cells #[Value.slice none 0 0] 22)).heap.size = W.heap.size + 1 ∧ (W.alloc (Obj.cells #[Value.slice none 0 0] 22)).heap[W.heap.size]? = some (.cells #[.slice none 0 0] 22) :=
 ⟨Mod.of_below ((Below.refl _ _).alloc (Nat.le_refl _) _),by simp,World.alloc_heap_new W _⟩
theorem yy9 {last:Bool}:∀ (l:List PFound) (a:LtL × List Int) (x:Int),x ∈ (l.foldl (yeH last) a).2 → x ∈ a.2 ∨ ∃ f ∈ l,x = f.off
 | [],a,x,h => .inl h
 | f :: r,a,x,h => by
  rcases yy9 r (yeH last a f) x h with h | ⟨g,hg,e⟩
  ·have h:x ∈ (if ylC last a.1 f = true then a.2 ++ [f.off] else a.2):=h
   split at h
   ·rcases List.mem_append.1 h with h | h
    ·exact .inl h
    ·simp at h; exact .inr ⟨f,by simp,h⟩
   ·exact .inl h
  ·exact .inr ⟨g,by simp [hg],e⟩
theorem yuK:yy8 63 (yiT (yk5 (yiT (code Tryz.f48) [0,1,0,1,1,1])) [1,1,0]) = true:=by kernel_rfl
theorem yLZ (w:World):(Instr.makeMap 205 none).run pP w = .ok (.map (some w.heap.size)) (w.alloc (.map #[] 0)):=rfl
def ynG (N:Nat) (a:LtL × Int × List SegS) (x:Int × SegS):LtL × Int × List SegS :=
 ((x.2.l.reverse.foldl (yeH (x.1 == IntKind.wrap .i64 ((N:Int) - 1))) (a.1,[])).1,
  IntKind.wrap .i64 (a.2.1 + ((x.2.l.length:Int) - ((yiZ (x.2.l.reverse.foldl (yeH (x.1 == IntKind.wrap .i64 ((N:Int) - 1))) (a.1,[])).2 x.2.l).length:Int))),
  a.2.2.set x.1.toNat ⟨x.2.base,x.2.next,yiZ (x.2.l.reverse.foldl (yeH (x.1 == IntKind.wrap .i64 ((N:Int) - 1))) (a.1,[])).2 x.2.l⟩)
def yAI {α:Type} (L:List α):List (Int × α):=(L.zipIdx.map fun p => ((p.2:Int),p.1)).reverse
theorem yDX {α:Type} {L:List α} {j:Nat} {x:α} (hj:j < L.length) (h:L[L.length - 1 - j]? = some x):(yAI L)[j]? = some (((L.length - 1 - j:Nat):Int),x):=by
 unfold yAI
 rw [List.getElem?_reverse (by simpa using hj),List.getElem?_map,List.length_map,List.length_zipIdx,List.getElem?_zipIdx,h]
 simp
def yn5 (L:List SegS):LtL × Int × List SegS:=(yAI L).foldl (ynG L.length) ([],0,L)
structure CompI (w6:World) (nb mb:Nat) (qs:List SegV) (pre:List (Int × SegV)) (qs':List SegV) (W:World):Prop where
 n:W.heap[nb]? = some (.cells #[.int .i64 ((pre.map fun x => (x.1,x.2.s)).foldl (ynG qs.length) ([],0,qs.map (·.s))).2.1] 3)
 lt:yaS pP 9 hks hkb W mb ((pre.map fun x => (x.1,x.2.s)).foldl (ynG qs.length) ([],0,qs.map (·.s))).1
 seg:∀ q ∈ qs',yb5 W q.p q.s.base q.s.next q.s.l q.F
 ap:qs'.Pairwise fun a b => ydN a.F b.F
 ps:qs'.map (·.p) = qs.map (·.p)
 ss:qs'.map (·.s) = ((pre.map fun x => (x.1,x.2.s)).foldl (ynG qs.length) ([],0,qs.map (·.s))).2.2
 rest:∀ j,j < qs.length - pre.length → qs'[j]? = qs[j]?
 fp:∀ q ∈ qs',∀ z ∈ q.F,z ∈ qs.flatMap (·.F) ∨ w6.heap.size + 2 ≤ z
 done:∀ (j:Nat) y,pre[j]? = some y → y.1 = ((qs.length - 1 - j:Nat):Int) ∧ qs[qs.length - 1 - j]? = some y.2
 len:pre.length ≤ qs.length
 mod:Mod (nb :: mb :: qs.flatMap (·.F)) w6 W
theorem CompI.keep0 {w6:World} {nb mb:Nat} {qs:List SegV} {pre:List (Int × SegV)} {qs':List SegV} {W W':World} (h:CompI w6 nb mb qs pre qs' W) (M:Mod [] W W'):CompI w6 nb mb qs pre qs' W' :=
 ⟨M.keep0 h.n,h.lt.keepM0 M,fun q hq => (h.seg q hq).keep0 M,h.ap,h.ps,h.ss,h.rest,h.fp,h.done,h.len,(h.mod.trans M).less fun z hz _ => by simpa only [List.append_nil] using hz⟩
section
attribute [local go_sem] Oper.semAt_some yLZ
set_option maxRecDepth 100000 in
set_option maxHeartbeats 4000000 in
theorem yAJ {w:World} {b:Nat} {room:Int} {L:List SegS} {F:List Nat} (h:yc6 w b room L F) (ok:LogOk room L) (hl:L.length ≤ 100000) (hky:∀ s ∈ L,∀ f ∈ s.l,f.r.key.size ≤ maxLen) :
  CallsIn Fence.wide 2 pP 48 #[.pointer (some ⟨b,0,none⟩)] w fun e w' => e = .returned (.int .i64 (yn5 L).2.1) ∧ ∃ F',yc6 w' b room (yn5 L).2.2 F' ∧ Mod F w w' ∧ ybG w F F':=by
 obtain ⟨sl,qs,hc,hR,hS,hP,rfl,rfl⟩:=h
 have lb:=yaH hc
 have hro:Fence.wide.round = none:=rfl
 refine callsIn_of_wp_marks Tryz.func48 rfl trivial ?_ hro
 simp only [Tryz.ntmps48,List.size_toArray,List.length_cons,List.length_nil,Nat.reduceAdd,Nat.reduceSub,Array.replicate_succ,Array.replicate_zero,List.push_toArray,List.append_toArray,List.nil_append,List.cons_append]
 have hcell:((((w.alloc (Obj.cells #[Value.pointer (some ⟨b,0,none⟩)] 46)).alloc (Obj.map #[] 0)).alloc (Obj.cells #[Value.map (some (w.heap.size + 1))] 205)).alloc (Obj.cells #[Value.int IntKind.i64 0] 3)).cell? ⟨b,1,none⟩ = some (.slice sl.a sl.n sl.c):=by rw [yaM ((yGG w b).1.keep0 hc)]; rfl
 gi_wp2
 have hW:=yGG w b
 clear hcell
 generalize ((((w.alloc (Obj.cells #[Value.pointer (some ⟨b,0,none⟩)] 46)).alloc (Obj.map #[] 0)).alloc (Obj.cells #[Value.map (some (w.heap.size + 1))] 205)).alloc (Obj.cells #[Value.int IntKind.i64 0] 3)) = W0 at hW ⊢
 obtain ⟨hM0,z0,c0,cm,c1,cn⟩:=hW
 refine ⟨trivial,(callsIn_wide.2 (yFA sl W0)).mono ?_⟩
 rintro _ w6 ⟨b6,rfl,f6,l6,h6,M6⟩
 gi_wp2
 have s6:=M6.size
 have N6:=hM0.go0 M6 (by simp)
 have hn:=hR.1
 have hqF:∀ z ∈ qs.flatMap (·.F),z < w.heap.size:=fun z hz => by
  obtain ⟨q,hq,hz⟩:=List.mem_flatMap.1 hz
  exact (hS q hq).lt z hz
 have hSl:∀ z ∈ (w.heap.size + 1 + 1 + 1) :: (w.heap.size + 1) :: qs.flatMap (·.F),z ∉ yaN sl.a:=fun z hz hz' => by
  have hzw:=(yaG hR z hz').2
  rcases List.mem_cons.1 hz with rfl | hz
  ·omega
  rcases List.mem_cons.1 hz with rfl | hz
  ·omega
  obtain ⟨q,hq,hz⟩:=List.mem_flatMap.1 hz
  obtain ⟨_,_,cur,hcur⟩:=yaP hR z hz'
  rcases (hS q hq).types z hz _ _ hcur with e | e | e <;> exact absurd e (by decide)
 refine yhQ (S:=(w.heap.size + 1 + 1 + 1) :: (w.heap.size + 1) :: qs.flatMap (·.F)) (N:=qs.length) (encs:=fun x:Int × SegV => #[.int .i64 x.1,.pointer (some ⟨x.2.p,0,none⟩)]) (X:=fun k x W => x.1 = ((qs.length - 1 - k:Nat):Int) ∧ qs[qs.length - 1 - k]? = some x.2) rfl (enters_of Tryz.func142 (by kernel_rfl) rfl)
  (yDV (s:=sl) (l:=qs) (by simp at hl; omega) fun W' M => ⟨M.keep h6 (fun hz => by
   rcases List.mem_cons.1 hz with h | hz
   ·omega
   rcases List.mem_cons.1 hz with h | hz
   ·omega
   have:=hqF _ hz; omega),(yaA ((hR.keep0 N6)) M hSl).sl yd8⟩) (fun _ => rfl) (fun z hz => by
   rcases List.mem_cons.1 hz with rfl | hz
   ·omega
   rcases List.mem_cons.1 hz with rfl | hz
   ·omega
   have:=hqF _ hz; omega)
  (fun pre W => ∃ qs',CompI w6 (w.heap.size + 1 + 1 + 1) (w.heap.size + 1) qs pre qs' W)
  ?im ?ip ?is ⟨qs,M6.keep0 cn,yaS.of_new (M6.keep0 cm),fun q hq => (hS q hq).keep0 N6,hP,rfl,rfl,fun _ _ => rfl,fun q hq z hz => .inl (List.mem_flatMap.2 ⟨q,hq,hz⟩),by simp,by simp,(Mod.refl _).less (by simp)⟩ ?round ?done
 case im =>
  rintro pre W W' ⟨qs',h⟩ M
  exact ⟨qs',h.keep0 M⟩
 case ip =>
  rintro pre W l o rfl ⟨qs',h⟩
  have M:=ydU W (w6.heap.size + 1) (.loop o)
  refine ⟨qs',M.keep h.n (by simp; omega),h.lt.keepM M (by simp; omega),fun q hq => (h.seg q hq).keep M fun z hz hz' => ?_,h.ap,h.ps,h.ss,h.rest,h.fp,h.done,h.len,(h.mod.trans M).less fun z hz hlt => ?_⟩
  ·simp at hz
   rcases h.fp q hq z hz' with hf | hf
   ·have:=hqF z hf; omega
   ·omega
  ·rcases List.mem_append.1 hz with hz | hz
   ·exact hz
   ·simp at hz; omega
 case is =>
  rintro pre W ⟨qs',h⟩
  exact h.mod
 case round =>
  rintro pre ⟨xi,q0⟩ W lp ⟨qs',h⟩ hlen ⟨hxi,hx⟩ hlo hD
  simp only [yGF,List.setIfInBounds_toArray,List.set_cons_succ,List.set_cons_zero]
  subst hxi
  gi_wp2
  have hkW:w6.heap.size + 1 < W.heap.size:=yaW hlo
  refine ⟨(Array.getElem?_eq_some_iff.1 ((Mod.of_below ((Below.refl _ _).alloc (Nat.le_refl _) _):Mod [] W (W.alloc _)).keep0' hlo)).2,fun lp' => ?_⟩
  have hW1:=yLX W ((qs.length - 1 - pre.length:Nat):Int) (w6.heap.size + 1) lp' hkW
  generalize ((W.alloc (Obj.cells #[Value.int IntKind.i64 ((qs.length - 1 - pre.length:Nat):Int)] 3)).putObj (w6.heap.size + 1) (Obj.loop lp')) = W1 at hW1 ⊢
  obtain ⟨M1,z1,ci,hl1⟩:=hW1
  gi_wp2
  have hW2:=yLY W1
  generalize W1.alloc (Obj.cells #[Value.slice none 0 0] 22) = W2 at hW2 ⊢
  obtain ⟨M2,z2,ck⟩:=hW2
  rw [z1] at ck
  have hmS:=h.mod
  have sW:=hmS.size
  have hq0:qs'[qs.length - 1 - pre.length]? = some q0:=by rw [h.rest _ (by omega)]; exact hx
  have hq0m:=List.mem_of_getElem? hq0
  have hq0q:=List.mem_of_getElem? hx
  have hpl:=h.len
  have hfpk:∀ q ∈ qs',∀ z ∈ q.F,z ≠ w6.heap.size + 1:=fun q hq z hz e => by
   rcases h.fp q hq z hz with hf | hf
   ·have:=hqF z hf; omega
   ·omega
  have ok0:SegOk room q0.s:=ok.segs q0.s (List.mem_map.2 ⟨q0,hq0q,rfl⟩)
  have hr64:=ok.r2
  have hl64:=ok0.len
  have hseg2:=((h.seg q0 hq0m).keep M1 (fun z hz hz' => by simp at hz; exact hfpk q0 hq0m z hz' hz)).keep0 M2
  refine ⟨trivial,rfl,(CallsIn.inRound _ (callsIn_wide.2 (ytD hseg2 (by omega)))).mono ?_⟩
  rintro _ w7 ⟨_,rfl,sA,rfl,hA7,M7⟩
  gi_wp2
  refine ⟨trivial,rfl,(CallsIn.inRound _ (callsIn_wide.2 (yFB sA w7))).mono ?_⟩
  rintro _ w8 ⟨b9,rfl,f9,l9,h9,M8⟩
  gi_wp2
  have z7:=M7.size
  have z8:=M8.size
  have M18:Mod [] W1 w8:=(M2.go0 M7 (by simp)).go0 M8 (by simp)
  have hnS:∀ z,z < w.heap.size → (∀ q ∈ qs,z ∉ q.F) → z ∉ (w.heap.size + 1 + 1 + 1) :: (w.heap.size + 1) :: qs.flatMap (·.F):=fun z hz hq hz' => by
   rcases List.mem_cons.1 hz' with e | hz'
   ·omega
   rcases List.mem_cons.1 hz' with e | hz'
   ·omega
   obtain ⟨q,hqm,hzq⟩:=List.mem_flatMap.1 hz'
   exact hq q hqm hzq
  have hbq:∀ q ∈ qs,b ∉ q.F:=fun q hq hz => by
   rcases (hS q hq).types b hz _ _ hc with e | e | e <;> exact absurd e (by decide)
  have up:∀ {k:Nat} {o:Obj},w6.heap[k]? = some o → k ∉ (w.heap.size + 1 + 1 + 1) :: (w.heap.size + 1) :: qs.flatMap (·.F) → k < w6.heap.size → w8.heap[k]? = some o:=fun {k o} hk hkS hkl =>
   M18.keep0' ((M1.block k (by omega) (by simp; omega)).trans ((hmS.block k (by omega) hkS).trans hk))
  have hge:∀ z,w.heap.size ≤ z → z ≠ w.heap.size + 1 + 1 + 1 → z ≠ w.heap.size + 1 → z ∉ (w.heap.size + 1 + 1 + 1) :: (w.heap.size + 1) :: qs.flatMap (·.F):=fun z h1 h2 h3 hz => by
   rcases List.mem_cons.1 hz with e | hz
   ·exact h2 e
   rcases List.mem_cons.1 hz with e | hz
   ·exact h3 e
   have:=hqF z hz; omega
  have e0:=up (M6.keep0 c0) (hge _ (by omega) (by omega) (by omega)) (by omega)
  have e1:=up (M6.keep0 c1) (hge _ (by omega) (by omega) (by omega)) (by omega)
  have eb:=up (N6.keep0 hc) (hnS b lb hbq) (by omega)
  have en:w8.heap[w.heap.size + 1 + 1 + 1]? = _:=M18.keep0' ((M1.block _ (by omega) (by simp; omega)).trans h.n)
  have em:=(h.lt.keepM M1 (by simp; omega)).keepM0 M18
  refine yLV (b:=b) (mb:=w.heap.size + 1) (B0:=w.heap.size) (B1:=w.heap.size + 1 + 1) (B2:=W.heap.size) (B3:=W.heap.size + 1) (b9:=b9) (s:=sA) (sl:=sl) (fs:=q0.s.l) (last:=(((qs.length - 1 - pre.length:Nat):Int) == IntKind.wrap .i64 ((qs.length:Int) - 1))) (M18.keep0' hl1) rfl rfl rfl rfl rfl rfl e0 e1 (M18.keep0 ci) ((M7.go0 M8 (by simp)).keep0 ck) h9 ((hA7.keep0 M8).rebase (Nat.zero_le _)) (by omega) (fun f hf => hky q0.s (List.mem_map.2 ⟨q0,hq0q,rfl⟩) f hf) eb em (by simp; omega) (by omega) (by rw [hn]) ?_
  intro W' s' hb' hr' hm' hM'
  have z':=hM'.size
  have en':=hM'.keep en (by simp; omega)
  gi_wp2
  have hsnoc:((pre ++ [(((qs.length - 1 - pre.length:Nat):Int),q0)]).map fun x => (x.1,x.2.s)).foldl (ynG qs.length) ([],0,qs.map (·.s)) = ynG qs.length ((pre.map fun x => (x.1,x.2.s)).foldl (ynG qs.length) ([],0,qs.map (·.s))) (((qs.length - 1 - pre.length:Nat):Int),q0.s):=by rw [List.map_append,List.foldl_append]; rfl
  have hss:=h.ss
  generalize (pre.map fun x => (x.1,x.2.s)).foldl (ynG qs.length) ([],0,qs.map (·.s)) = st at en' hr' hm' hsnoc hss
  have hFl:∀ q ∈ qs',∀ z ∈ q.F,z < W.heap.size:=fun q hq => (h.seg q hq).lt
  have hFm:∀ q ∈ qs',∀ z ∈ q.F,z ≠ w.heap.size + 1 ∧ z ≠ w.heap.size + 1 + 1 + 1 ∧ z ≠ w6.heap.size:=fun q hq z hz => by
   rcases h.fp q hq z hz with hf | hf
   ·have:=hqF z hf; omega
   ·omega
  obtain ⟨RR,hRR⟩:∃ RR:List TB → World → Prop,RR = fun _ W2 => W2.heap[w6.heap.size + 1]? = some (.loop lp') ∧ W2.heap[w6.heap.size]? = W.heap[w6.heap.size]? ∧ ∃ qs2,CompI w6 (w.heap.size + 1 + 1 + 1) (w.heap.size + 1) qs (pre ++ [(((qs.length - 1 - pre.length:Nat):Int),q0)]) qs2 W2:=⟨_,rfl⟩
  refine wpIn_mono (yDS Tryz.wide_mixed (n:=63) (ids:=[0,1]) yuK (f:=⟨[(4,.pointer (some ⟨w.heap.size + 1 + 1 + 1,0,none⟩),some (0,0)),(7,.pointer (some ⟨W.heap.size + 1,0,none⟩),some (1,0)),(6,.pointer (some ⟨q0.p,0,none⟩),none)],_⟩)
   (s:=⟨[⟨w.heap.size + 1 + 1 + 1,3,[.int .i64 st.2.1],false⟩,⟨W.heap.size + 1,22,[.slice s'.a s'.n s'.c],false⟩],W',[],[],true⟩)
   (R:=RR)
   (Eq.mpr (yLW ..) ?cond) (yGD ?hat (by simp; omega) (yDT ?htg)) (yGE ?hrel rfl rfl)) ?post
  case hat =>
   intro k tb hk
   match k,hk with
   | 0,hk => simp at hk; subst hk; exact en'
   | 1,hk => simp at hk; subst hk; exact hb'
   | k + 2,hk => simp at hk
  case htg =>
   intro p hp k off e
   simp only [List.mem_cons,List.not_mem_nil,or_false] at hp
   rcases hp with rfl | rfl | rfl <;> simp at e
   all_goals (obtain ⟨rfl,rfl⟩:=e; exact ⟨_,rfl,rfl⟩)
  case hrel =>
   intro p hp
   simp only [List.mem_cons,List.not_mem_nil,or_false] at hp
   rcases hp with rfl | rfl | rfl <;> rfl
  case cond =>
   intro wa Aa
   have za:=Aa.mod.size
   have segUp:∀ q ∈ qs',yb5 wa q.p q.s.base q.s.next q.s.l q.F:=fun q hq =>
    (((((h.seg q hq).keep M1 (fun z hz hz' => by simp at hz; exact hfpk q hq z hz' hz)).keep0 M18).keep hM' (fun z hz hz' => by
     have h1:=hFl q hq z hz'
     have h2:=hFm q hq z hz'
     simp at hz; omega)).keep0 Aa.mod)
   have hkl:=yqR (last:=(((qs.length - 1 - pre.length:Nat):Int) == IntKind.wrap .i64 ((qs.length:Int) - 1))) q0.s.l.reverse (st.1,[])
   have hs64:∀ y ∈ q0.s.l,s64 y.off:=fun y hy => by
    have h1:=ok0.off y hy
    have h2:=ok0.lo
    have h3:=ok0.hi
    unfold s64; omega
   refine (yAi (segUp q0 hq0m) (by omega) ((hr'.keep0 Aa.mod).sl yb4) (by simp only [List.length_reverse,List.length_nil,Nat.zero_add] at hkl; omega) (fun x hx => by
    rcases yy9 _ _ x hx with hx | ⟨f,hf,rfl⟩
    ·cases hx
    ·exact hs64 f (List.mem_reverse.1 hf)) hs64).mono ?_
   rintro _ wb ⟨rfl,F',hsb,Mb,Gb⟩
   have zb:=Mb.size
   have hF':∀ z ∈ F',z ∈ q0.F ∨ wa.heap.size ≤ z:=Gb
   refine ⟨_,rfl,yaF.of Mb fun z hz _ hz' => ?_,rfl,?_⟩
   ·have h1:=hFl q0 hq0m z hz'
    have h2:=hFm q0 hq0m z hz'
    simp at hz; omega
   intro wc Ac hnc _
   rw [hRR]
   have fwd:∀ {k:Nat} {o:Obj},W'.heap[k]? = some o → (k ∉ q0.F) → k ≠ w.heap.size + 1 + 1 + 1 → wc.heap[k]? = some o:=fun {k o} hk h1 h2 => (Ac.mod.keep' (Mb.keep' (Aa.mod.keep0' hk) h1) (by simpa using h2))
   have hloop:W'.heap[w6.heap.size + 1]? = some (.loop lp'):=hM'.keep' (M18.keep0' hl1) (by simp; omega)
   have hD':W'.heap[w6.heap.size]? = W.heap[w6.heap.size]?:=(hM'.block _ (by omega) (by simp; omega)).trans ((M18.block _ (by omega) (by simp)).trans (M1.block _ hD (by simp)))
   refine ⟨fwd hloop (fun hz => hfpk q0 hq0m _ hz rfl) (by omega),?_,qs'.set (qs.length - 1 - pre.length) ⟨q0.p,⟨q0.s.base,q0.s.next,yiZ (q0.s.l.reverse.foldl (yeH (((qs.length - 1 - pre.length:Nat):Int) == IntKind.wrap .i64 ((qs.length:Int) - 1))) (st.1,[])).2 q0.s.l⟩,F'⟩,?_⟩
   ·rw [← hD']
    refine (Ac.mod.block _ (by omega) (by simp; omega)).trans ((Mb.block _ (by omega) fun hz => ?_).trans (Aa.mod.block _ (by omega) (by simp)))
    exact (hFm q0 hq0m _ hz).2.2 rfl
   ·have hiq:qs.length - 1 - pre.length < qs'.length:=(List.getElem?_eq_some_iff.1 hq0).1
    refine ⟨by rw [hsnoc]; exact hnc,by rw [hsnoc]; exact ((hm'.keepM0 Aa.mod).keepM Mb fun hz => (hFm q0 hq0m _ hz).1 rfl).keepM Ac.mod (by simp),fun x hx => ?_,yi1 (w:=wa) (fp:=fun x:SegV => x.F) h.ap hq0 (fun x hx => (segUp x hx).lt) hF',by refine (yk1 (f:=fun x:SegV => x.p) hq0 ?_).trans h.ps; rfl,by rw [hsnoc,List.map_set,hss]; rfl,fun j hj => ?_,fun x hx => ?_,fun j y hy => ?_,by simp; omega,?_⟩
    ·rcases yeF hx with rfl | ⟨j,hj,hxj⟩
     ·exact hsb.keep Ac.mod fun z hz hz' => by
       simp at hz; subst hz
       rcases hF' _ hz' with hz' | hz'
       ·exact (hFm q0 hq0m _ hz').2.1 rfl
       ·omega
     ·have hxm:=List.mem_of_getElem? hxj
      exact ((segUp x hxm).keep Mb fun z hz => yi0 (fp:=fun x:SegV => x.F) h.ap (fun e => hj e.symm) hq0 hxj z hz).keep Ac.mod fun z hz hz' => by
       simp at hz; subst hz
       exact (hFm x hxm _ hz').2.1 rfl
    ·rw [List.length_append,List.length_singleton] at hj
     rw [List.getElem?_set_ne (by omega)]
     exact h.rest j (by omega)
    ·rcases yeF hx with rfl | ⟨j,hj,hxj⟩
     ·intro z hz
      rcases hF' z hz with hz | hz
      ·exact h.fp q0 hq0m z hz
      ·exact .inr (by omega)
     ·exact h.fp x (List.mem_of_getElem? hxj)
    ·by_cases hj:j < pre.length
     ·rw [List.getElem?_append_left hj] at hy; exact h.done j y hy
     ·rw [List.getElem?_append_right (by omega)] at hy
      have hje:j - pre.length = 0:=by
       have:=(List.getElem?_eq_some_iff.1 hy).1; simp at this; omega
      rw [hje] at hy
      simp at hy; subst hy
      rw [show j = pre.length by omega]; exact ⟨rfl,hx⟩
    ·refine ((((((hmS.trans M1).trans M18).trans hM').trans Aa.mod).trans Mb).trans Ac.mod).less fun z hz hlt => ?_
     by_cases e3:z = w.heap.size + 1 + 1 + 1
     ·simp [e3]
     by_cases e1:z = w.heap.size + 1
     ·simp [e1]
     by_cases e2:z ∈ q0.F
     ·rcases h.fp q0 hq0m z e2 with hf | hf
      ·exact List.mem_cons_of_mem _ (List.mem_cons_of_mem _ hf)
      ·omega
     have e4:z ≠ w6.heap.size + 1:=by omega
     have e5:z ≠ W.heap.size + 1:=by omega
     simp only [List.mem_append,List.mem_cons,List.not_mem_nil,or_false,e3,e1,e2,e4,e5,false_or] at hz
     exact List.mem_cons_of_mem _ (List.mem_cons_of_mem _ hz)
  case post =>
   rintro e a' W2 ⟨rfl,mem,hr2⟩
   rw [hRR] at hr2
   obtain ⟨h1,h2,h3⟩:=hr2
   exact ⟨rfl,h1,by rw [h2]; exact Array.getElem?_eq_getElem _,h3⟩
 case done =>
  rintro W xs hxs ⟨qs',h⟩ hK
  have hxm:(xs.map fun x => (x.1,x.2.s)) = yAI (qs.map (·.s)):=by
   apply List.ext_getElem?
   intro j
   rw [List.getElem?_map]
   by_cases hj:j < xs.length
   ·obtain ⟨y,hy⟩:∃ y,xs[j]? = some y:=⟨_,List.getElem?_eq_getElem hj⟩
    obtain ⟨e1,e2⟩:=h.done j y hy
    rw [hy,yDX (L:=qs.map (·.s)) (x:=y.2.s) (by simp; omega) (by simp [e2])]
    simp [e1]
   ·rw [List.getElem?_eq_none (by omega),List.getElem?_eq_none (by simp [yAI]; omega)]; rfl
  have hcn:W.cell? ⟨w.heap.size + 1 + 1 + 1,0,none⟩ = some (.int .i64 (yn5 (qs.map (·.s))).2.1):=by
   rw [yaM h.n,hxm]; simp [yn5]
  gi_wp2
  refine ⟨by simp,.inl ⟨_,_,rfl,run_takeDeferred hK,?_⟩⟩
  refine ⟨_,results_tmp rfl _ _ _,rfl,?_⟩
  have M:=ydU W w6.heap.size (.deferred none)
  have hss:=h.ss
  rw [hxm,show qs.length = (qs.map (·.s)).length by simp] at hss
  have sW:=h.mod.size
  have hFm:∀ q ∈ qs',∀ z ∈ q.F,z ≠ w6.heap.size:=fun q hq z hz => by
   rcases h.fp q hq z hz with hf | hf
   ·have:=hqF z hf; omega
   ·omega
  have hbS:b ∉ (w.heap.size + 1 + 1 + 1) :: (w.heap.size + 1) :: qs.flatMap (·.F):=fun hz => by
   rcases List.mem_cons.1 hz with e | hz
   ·omega
   rcases List.mem_cons.1 hz with e | hz
   ·omega
   obtain ⟨q,hq,hz⟩:=List.mem_flatMap.1 hz
   rcases (hS q hq).types b hz _ _ hc with e | e | e <;> exact absurd e (by decide)
  refine ⟨_,⟨sl,qs',M.keep' (h.mod.keep' (N6.keep0' hc) hbS) (by simp; omega),?_,fun q hq => (h.seg q hq).keep M fun z hz hz' => by simp at hz; exact hFm q hq z hz' hz,h.ap,hss.symm,rfl⟩,?_,?_⟩
  ·have hR':=yaA (yaA (hR.keep0 N6) h.mod hSl) M fun z hz hz' => by
    have:=(yaG hR z hz').2
    simp at hz; omega
   refine hR'.same ?_
   have e:∀ l:List SegV,l.map ygF = (l.map (·.p)).map fun p => [Value.pointer (some ⟨p,0,none⟩)]:=fun l => by rw [List.map_map]; rfl
   rw [e,e,h.ps]
  ·refine ((N6.trans h.mod).trans M).less fun z hz hlt => ?_
   simp only [List.nil_append,List.mem_append,List.mem_cons,List.not_mem_nil,or_false] at hz ⊢
   rcases hz with (e | e | hz) | e
   ·omega
   ·omega
   ·exact .inr (.inr hz)
   ·omega
  ·intro z hz
   rcases List.mem_cons.1 hz with rfl | hz
   ·exact .inl (by simp)
   rcases List.mem_append.1 hz with hz | hz
   ·exact .inl (by simp [hz])
   obtain ⟨q,hq,hz⟩:=List.mem_flatMap.1 hz
   rcases h.fp q hq z hz with hf | hf
   ·exact .inl (List.mem_cons_of_mem _ (List.mem_append_right _ hf))
   ·exact .inr (by omega)
end
theorem yqS {w:World} {b:Nat} {room:Int} {L:List SegS} {F:List Nat} (h:yc6 w b room L F) (ok:LogOk room L) (hl:L.length ≤ 100000) (hky:∀ s ∈ L,∀ f ∈ s.l,f.r.key.size ≤ maxLen) :
 Calls pP 48 #[.pointer (some ⟨b,0,none⟩)] w fun e w' => e = .returned (.int .i64 (yn5 L).2.1) ∧ ∃ F',yc6 w' b room (yn5 L).2.2 F' ∧ Mod F w w' ∧ ybG w F F':=(callsIn_wide (n:=2)).1 (yAJ h ok hl hky)
theorem yFC (offs:List Int) (l:List PFound):(yiZ offs l).Sublist l:=List.filter_sublist
theorem SegOk.less {room:Int} {s:SegS} (h:SegOk room s) {l:List PFound} (hs:l.Sublist s.l):SegOk room ⟨s.base,s.next,l⟩:=⟨h.lo,h.mid,h.hi,by have:=h.len; have:=hs.length_le; show (l.length:Int) ≤ room; omega,fun f hf => h.off f (hs.subset hf),h.inc.sublist hs⟩
def yL0 (L L':List SegS):Prop:=L'.length = L.length ∧ ∀ (i:Nat) s',L'[i]? = some s' → ∃ s,L[i]? = some s ∧ s'.base = s.base ∧ s'.next = s.next ∧ s'.l.Sublist s.l
theorem yDY {L:List SegS} {N:Nat} {a:LtL × Int × List SegS} {x:Int × SegS} (ha:yL0 L a.2.2) (hx:∃ i:Nat,x.1 = (i:Int) ∧ L[i]? = some x.2):yL0 L (ynG N a x).2.2:=by
 obtain ⟨i,e,hi⟩:=hx
 unfold ynG
 refine ⟨by simp only [List.length_set]; exact ha.1,fun j s' hj => ?_⟩
 dsimp only at hj
 rw [e,Int.toNat_natCast] at hj
 by_cases hij:i = j
 ·subst hij
  rw [List.getElem?_set_self (by have:=(List.getElem?_eq_some_iff.1 hi).1; have:=ha.1; omega)] at hj
  cases hj
  exact ⟨x.2,hi,rfl,rfl,yFC _ _⟩
 ·rw [List.getElem?_set_ne hij] at hj
  exact ha.2 j s' hj
theorem yuL (L:List SegS):yL0 L (yn5 L).2.2:=by
 have key:∀ (xs:List (Int × SegS)) (a:LtL × Int × List SegS),yL0 L a.2.2 → (∀ x ∈ xs,∃ i:Nat,x.1 = (i:Int) ∧ L[i]? = some x.2) → yL0 L (xs.foldl (ynG L.length) a).2.2:=fun xs => by
  induction xs with
  | nil => exact fun a h _ => h
  | cons x r ih => exact fun a h hx => ih _ (yDY h (hx x (by simp))) fun y hy => hx y (by simp [hy])
 refine key _ _ ⟨rfl,fun i s' h => ⟨s',h,rfl,rfl,List.Sublist.refl _⟩⟩ fun x hx => ?_
 simp only [yAI,List.mem_reverse,List.mem_map] at hx
 obtain ⟨⟨s,i⟩,hp,rfl⟩:=hx
 exact ⟨i,rfl,by have:=List.mem_zipIdx_iff_getElem?.1 hp; simpa using this⟩
theorem LogOk.comp {room:Int} {L:List SegS} (h:LogOk room L):LogOk room (yn5 L).2.2:=by
 have hs:=yuL L
 refine ⟨fun e => h.ne (List.eq_nil_of_length_eq_zero (by rw [← hs.1,e]; rfl)),h.r1,h.r2,fun s hm => ?_,fun i s t h1 h2 => ?_⟩
 ·obtain ⟨i,hi⟩:=List.getElem?_of_mem hm
  obtain ⟨s0,h0,e1,e2,e3⟩:=hs.2 i s hi
  have:=(h.segs s0 (List.mem_of_getElem? h0)).less e3
  rw [← e1,← e2] at this
  exact this
 ·obtain ⟨s0,h0,e1,e2,_⟩:=hs.2 i s h1
  obtain ⟨t0,h0',f1,f2,_⟩:=hs.2 (i + 1) t h2
  rw [f1,e2]
  exact h.chain i s0 t0 h0 h0'
end Go.Proofs.YteldhjiiocmicaaGreat
namespace Go.Proofs.YteldhjiiocmicaaGreat
open Go Go.RowKit
set_option linter.all false
section
set_option maxRecDepth 100000
variable {R:VWP} {w w0:World} {m:Nat} {i0 i1 i2 i3 i4 i5 i6 i7 i8 i9 j0 j1 j2 j3 j4 j5 j6 j7 j8 j9 k0 k1 k2 k3 k4 k5 k6 k7 k8 k9 l0 l1 l2 l3 l4 l5 l6 l7 l8 l9:Int} {s0 s1 s2 s3 s4 s5 s6 s7 s8 s9 t0 t1 t2 t3 t4 t5 t6 t7 t8 t9:BA} {n0 n1 n2 n3 n4 n5 n6 n7 n8 n9 o0 o1 o2 o3 o4 o5 o6 o7 o8 o9 p0 p1 p2 p3 p4 p5 p6 p7 p8 p9:Nat} {q0 q1 q2 q3 q4 q5 q6 q7 q8 q9 r0 r1 r2 r3 r4 r5 r6 r7 r8 r9:OA} {B0 B1 B2 B3 B4 B5 B6 B7 B8 B9:Bool} {M0 M1 M2 M3:Option Nat} {V0 V1 V2 V3 V4 V5:Value} {A0 A1 A2:Addr}
def ywY:LA:=⟨[0,0,1,0,1,1],[0,3,4,24,25],[(0,0,0),(3,1,0),(4,2,0)],3,[]⟩
def yzA:List LA:=[ywY]
abbrev yL1:=dnF pP yzA (code Tryz.f18)
abbrev yNM:=yaR pP yzA (code Tryz.f18)
abbrev yL2 (p:List Nat) (K:List Kh) (R:VWP):=yaR pP yzA (code Tryz.f18) p K (ybE pP Tryz.f18 [0] R)
def ypF (c5:Int) (bm0:Nat) (b6 b7:Int) (b1:OA) (a8:Option Nat) (b2:OA) (a9:Option Nat) (b3:OA) (bm1:Nat) (b8:Int) (b4:BA) (b9 c0 c1 c2 c3 c4:Int) (a6:OA) (b0 a7:Nat) (b5 a3:BA) (a5:Int) (a4:Bool) (a0:OA) (a2 a1 bm2:Nat):Int → List Value × List TB:=fun c6 => ([(.pointer (some ⟨bm0,0,none⟩)),(.pointer (some ⟨bm1,0,none⟩)),(.pointer (some ⟨bm2,0,none⟩)),.int .i64 c5,.int .i64 c6],[⟨bm0,58,[.int .i64 b6,.int .i64 b7,.pointer b1,(.map a8),.pointer b2,(.map a9),.pointer b3],false⟩,⟨bm1,39,[.int .i64 b8,.string b4,.int .i64 b9,.int .i64 c0,.int .i64 c1,.int .i64 c2,.int .i64 c3,.int .i64 c4,.slice a6 b0 a7,.string b5,.string a3,.int .i64 a5,.bool a4,.slice a0 a2 a1],false⟩,⟨bm2,30,[.int .i64 0,.int .i64 0,.int .i64 0,.int .i64 0,.slice none 0 0,.slice none 0 0],false⟩])
abbrev yGH (c5:Int) (bm0:Nat) (b6 b7:Int) (b1:OA) (a8:Option Nat) (b2:OA) (a9:Option Nat) (b3:OA) (bm1:Nat) (b8:Int) (b4:BA) (b9 c0 c1 c2 c3 c4:Int) (a6:OA) (b0 a7:Nat) (b5 a3:BA) (a5:Int) (a4:Bool) (a0:OA) (a2 a1 bm2:Nat) (I:Nat → Int → World → Prop) (m:Nat):Kh:=KG (ypF c5 bm0 b6 b7 b1 a8 b2 a9 b3 bm1 b8 b4 b9 c0 c1 c2 c3 c4 a6 b0 a7 b5 a3 a5 a4 a0 a2 a1 bm2) (U1 I) m
theorem yDZ {I:Nat → Int → World → Prop} (m':Nat) (h1:m' < m) (h2:I m' j1 w):KS (yGH i0 n0 i1 i2 q0 M0 q1 M1 q2 n1 i3 s0 i4 i5 i6 i7 i8 i9 q3 n2 n3 s1 s2 j0 B0 q4 n4 n5 n6 I m) (ypF i0 n0 i1 i2 q0 M0 q1 M1 q2 n1 i3 s0 i4 i5 i6 i7 i8 i9 q3 n2 n3 s1 s2 j0 B0 q4 n4 n5 n6 j1) w:=⟨m',h1,_,rfl,rfl,h2⟩
theorem yD0 (I:Nat → Int → World → Prop) (m0:Nat) (h0:I m0 j1 w0)
 (hr:∀ m c5 w,I m c5 w →
 brB (decide (c5 < i0)) (
 Calls pP 12 #[.int .i64 i1] w fun e d1 => ∃ d0 d3,e = .returned (.tuple #[.pointer d0,.int .i64 d3]) ∧ yaF [n0,n1,n6] w d1 ∧
 ∀ c8,Adv [] [] d1 c8 →
 ydM pP (Instr.mapUpdate 51 (.map M0) (.agg #[.string s0,.int .i64 c5]) (.pointer d0)) c8 fun d2 => yaF [n0,n1,n6] c8 d2 ∧
 KS (yGH i0 n0 i1 i2 q0 M0 q1 M1 q2 n1 i3 s0 i4 i5 i6 i7 i8 i9 q3 n2 n3 s1 s2 j0 B0 q4 n4 n5 n6 I m) (ypF i0 n0 i1 i2 q0 M0 q1 M1 q2 n1 i3 s0 i4 i5 i6 i7 i8 i9 q3 n2 n3 s1 s2 j0 B0 q4 n4 n5 n6 (IntKind.wrap .i64 (c5 + 1))) d2)
 (
 ∀ c9,Adv [n6] [] w c9 → c9.heap[n0]? = some (.cells #[.int .i64 i1,.int .i64 i2,.pointer q0,(.map M0),.pointer q1,(.map M1),.pointer q2] 58) →
 R (.agg (Z1 0 0 0 0 none 0 0 none 0 0)) c9)) :
 yaO ywY (yL1 396 [0,0,1,0,1,1]) (yL2 [1,1,0,1,0] [] R) (ypF i0 n0 i1 i2 q0 M0 q1 M1 q2 n1 i3 s0 i4 i5 i6 i7 i8 i9 q3 n2 n3 s1 s2 j0 B0 q4 n4 n5 n6 j1) w0 :=
 lrule (ypF i0 n0 i1 i2 q0 M0 q1 M1 q2 n1 i3 s0 i4 i5 i6 i7 i8 i9 q3 n2 n3 s1 s2 j0 B0 q4 n4 n5 n6) (U1 I) h0 (by rintro m c5 w h; exact ⟨by kernel_rfl,by kernel_rfl,fun js => Eq.mpr (by kernel_rfl) (hr m c5 w h)⟩)
theorem yL3 {b0:Nat} {a7 a6:Nat} {a3 a2:Nat} (hb:w.heap[b0]? = some (.cells #[.int .i64 i0,.int .i64 i1,.pointer q0,(.map M0),.pointer q1,(.map M1),.pointer q2] 58)) (h :
 ∀ b3,w.heap.size ≤ b3 →
 ∀ b4,w.heap.size ≤ b4 →
 ∀ w5,Adv [] [b4,b3] w w5 →
 Calls pP 38 (Z13 q0 s0 i4) w5 fun e w6 => ∃ x7,e = .returned (.int .i64 x7) ∧ yaF [b0,b3,b4] w5 w6 ∧
 brB (x7 != 0) (
 Calls pP 17 #[.int .i64 x7] w6 fun e c8 => ∃ c9 d0 d1 d2 c2 c6 c4 c3 c7 c5,e = .returned (.agg (Z1 c9 d0 d1 d2 c2 c6 c4 c3 c7 c5)) ∧ yaF [b0,b3,b4] w6 c8 ∧
 ∀ c1,Adv [b4] [] c8 c1 → c1.heap[b0]? = some (.cells #[.int .i64 i0,.int .i64 i1,.pointer q0,(.map M0),.pointer q1,(.map M1),.pointer q2] 58) →
 R (.agg (Z1 c9 d0 d1 d2 c2 c6 c4 c3 c7 c5)) c1)
 (
 yaO ywY (yL1 396 [0,0,1,0,1,1]) (yL2 [1,1,0,1,0] [] R) (ypF i4 b0 i0 i1 q0 M0 q1 M1 q2 b3 i2 s0 i3 i4 i5 i6 i7 i8 q3 a7 a6 s1 s2 i9 B0 q4 a3 a2 b4 0) w6)) :
 CR pP 18 #[(.pointer (some ⟨b0,0,none⟩)),(.agg (Z0 i2 s0 i3 i4 i5 i6 i7 i8 q3 a7 a6 s1 s2 i9 B0 q4 a3 a2))] w R :=
 yaJ Tryz.wide_mixed (an:=yzA) Tryz.func18 rfl rfl (by kernel_rfl) rfl hb (Eq.mpr (by kernel_rfl) h)
theorem yH4 {b0:Nat} {a6 a5:Nat} {a2 a1:Nat} (hb:w.heap[b0]? = some (.cells #[.int .i64 i0,.int .i64 i1,.pointer q0,(.map M0),.pointer q1,(.map M1),.pointer q2] 58)) (h :
 ∀ b3,w.heap.size ≤ b3 →
 ∀ b4,w.heap.size ≤ b4 →
 ∀ w5,Adv [] [b4,b3] w w5 →
 Calls pP 39 #[.pointer q1,.int .i64 i4] w5 fun e w6 => ∃ x7 x8 x9,e = .returned (.tuple (Z7 x7 x8 x9)) ∧ yaF [b0,b3,b4] w5 w6 ∧
 brB (x9 != 0) (
 Calls pP 17 #[.int .i64 x9] w6 fun e c9 => ∃ d0 d1 d2 d3 c3 c7 c5 c4 c8 c6,e = .returned (.agg (Z1 d0 d1 d2 d3 c3 c7 c5 c4 c8 c6)) ∧ yaF [b0,b3,b4] w6 c9 ∧
 ∀ c1,Adv [b4] [] c9 c1 → c1.heap[b0]? = some (.cells #[.int .i64 i0,.int .i64 i1,.pointer q0,(.map M0),.pointer q1,(.map M1),.pointer q2] 58) →
 R (.agg (Z1 d0 d1 d2 d3 c3 c7 c5 c4 c8 c6)) c1)
 (
 ∀ c2,Adv [b4] [] w6 c2 → c2.heap[b0]? = some (.cells #[.int .i64 i0,.int .i64 i1,.pointer q0,(.map M0),.pointer q1,(.map M1),.pointer q2] 58) →
 R (.agg (Z1 0 0 x7 x8 none 0 0 none 0 0)) c2)) :
 CR pP 19 #[(.pointer (some ⟨b0,0,none⟩)),(.agg (Z0 i2 s0 i3 i4 i5 i6 i7 i8 q3 a6 a5 s1 s2 i9 B0 q4 a2 a1))] w R :=
 yaJ Tryz.wide_mixed (an:=[]) Tryz.func19 rfl rfl (by kernel_rfl) rfl hb (Eq.mpr (by kernel_rfl) h)
theorem yH5 {b0:Nat} {a3:BA} {a2 a1:Nat} {c2 b6:BA} {b1 a9:Nat} (hb:w.heap[b0]? = some (.cells #[.int .i64 i0,.int .i64 i1,.pointer q0,(.map M0),.pointer q1,(.map M1),.pointer q2] 58)) (h :
 ∀ b3,w.heap.size ≤ b3 →
 ∀ b4,w.heap.size ≤ b4 →
 ∀ w5,Adv [] [b4,b3] w w5 →
 Calls pP 41 #[.pointer q1,(.agg #[.string a3,.int .i64 i3]),(.agg (Z5 i6 i7 i8 q3 a2 a1))] w5 fun e w6 => ∃ x7 t8 x9,e = .returned (.tuple (Z12 x7 t8 x9)) ∧ yaF [b0,b3,b4] w5 w6 ∧
 brB (x9 != 0) (
 Calls pP 17 #[.int .i64 x9] w6 fun e e3 => ∃ e6 e7 e8 e9 d0 d8 d4 d1 d9 d5,e = .returned (.agg (Z1 e6 e7 e8 e9 d0 d8 d4 d1 d9 d5)) ∧ yaF [b0,b3,b4] w6 e3 ∧
 ∀ c3,Adv [b4] [] e3 c3 → c3.heap[b0]? = some (.cells #[.int .i64 i0,.int .i64 i1,.pointer q0,(.map M0),.pointer q1,(.map M1),.pointer q2] 58) →
 R (.agg (Z1 e6 e7 e8 e9 d0 d8 d4 d1 d9 d5)) c3)
 (
 brB t8 (
 ∀ c4,Adv [b4] [] w6 c4 → c4.heap[b0]? = some (.cells #[.int .i64 i0,.int .i64 i1,.pointer q0,(.map M0),.pointer q1,(.map M1),.pointer q2] 58) →
 R (.agg (Z1 0 x7 1 0 none 0 0 none 0 0)) c4)
 (
 ∀ b2,Adv [] [] w6 b2 →
 ∃ e2,(∀ w',Mod [] b2 w' → (Instr.lookup 51 (.map M0) (.agg #[.string a3,.int .i64 i3]) false).run pP w' = .ok (.pointer e2) w') ∧
 Calls pP 42 #[.pointer e2,.slice q3 a2 a1] b2 fun e b5 => ∃ c8 c9,e = .returned (.tuple #[.int .i64 c8,.int .i64 c9]) ∧ yaF [b0,b3,b4] b2 b5 ∧
 brB (c9 != 0) (
 Calls pP 17 #[.int .i64 c9] b5 fun e e4 => ∃ f0 f1 f2 f3 d2 e0 d6 d3 e1 d7,e = .returned (.agg (Z1 f0 f1 f2 f3 d2 e0 d6 d3 e1 d7)) ∧ yaF [b0,b3,b4] b5 e4 ∧
 ∀ c5,Adv [b4] [] e4 c5 → c5.heap[b0]? = some (.cells #[.int .i64 i0,.int .i64 i1,.pointer q0,(.map M0),.pointer q1,(.map M1),.pointer q2] 58) →
 R (.agg (Z1 f0 f1 f2 f3 d2 e0 d6 d3 e1 d7)) c5)
 (
 ∀ c6,Adv [] [] b5 c6 →
 Calls pP 43 #[.pointer q1,(.agg #[.string a3,.int .i64 i3]),(.agg (Z5 i6 i7 i8 q3 a2 a1)),.int .i64 c8] c6 fun e e5 => ∃ f4,e = .returned (.int .i64 f4) ∧ yaF [b0,b3,b4] c6 e5 ∧
 ∀ c7,Adv [b4] [] e5 c7 → c7.heap[b0]? = some (.cells #[.int .i64 i0,.int .i64 i1,.pointer q0,(.map M0),.pointer q1,(.map M1),.pointer q2] 58) →
 R (.agg (Z1 0 c8 0 0 none 0 0 none 0 0)) c7)))) :
 CR pP 21 #[(.pointer (some ⟨b0,0,none⟩)),(.agg (Z0 i2 a3 i3 i4 i5 i6 i7 i8 q3 a2 a1 c2 b6 i9 B0 q4 b1 a9))] w R :=
 yaJ Tryz.wide_mixed (an:=[]) Tryz.func21 rfl rfl (by kernel_rfl) rfl hb (Eq.mpr (by kernel_rfl) h)
theorem yH6 {b0:Nat} {b1 a9:Nat} {a4 a3:Nat} (hb:w.heap[b0]? = some (.cells #[.int .i64 i0,.int .i64 i1,.pointer q0,(.map M0),.pointer q1,(.map M1),.pointer q2] 58)) (h :
 ∀ b3,w.heap.size ≤ b3 →
 ∀ b4,w.heap.size ≤ b4 →
 ∀ w5,Adv [] [b4,b3] w w5 →
 ∃ p6,(∀ w',Mod [] w5 w' → (Instr.lookup 51 (.map M0) (.agg #[.string s0,.int .i64 i3]) false).run pP w' = .ok (.pointer p6) w') ∧
 ∀ c2,Adv [] [] w5 c2 →
 Calls pP 44 #[.pointer p6,.int .i64 i5,(.int .i64 (if 64 < i4 then 64 else i4))] c2 fun e a7 => ∃ c6 d2 c9 c5,e = .returned (.tuple #[.slice c6 d2 c9,.int .i64 c5]) ∧ yaF [b0,b3,b4] c2 a7 ∧
 brB (c5 != 0) (
 Calls pP 17 #[.int .i64 c5] a7 fun e d5 => ∃ d7 d8 d9 e0 c7 d3 d0 c8 d4 d1,e = .returned (.agg (Z1 d7 d8 d9 e0 c7 d3 d0 c8 d4 d1)) ∧ yaF [b0,b3,b4] a7 d5 ∧
 ∀ c3,Adv [b4] [] d5 c3 → c3.heap[b0]? = some (.cells #[.int .i64 i0,.int .i64 i1,.pointer q0,(.map M0),.pointer q1,(.map M1),.pointer q2] 58) →
 R (.agg (Z1 d7 d8 d9 e0 c7 d3 d0 c8 d4 d1)) c3)
 (
 Calls pP 45 #[.pointer p6] a7 fun e d6 => ∃ e1 e2,e = .returned (.tuple #[.int .i64 e1,.int .i64 e2]) ∧ yaF [b0,b3,b4] a7 d6 ∧
 ∀ c4,Adv [b4] [] d6 c4 → c4.heap[b0]? = some (.cells #[.int .i64 i0,.int .i64 i1,.pointer q0,(.map M0),.pointer q1,(.map M1),.pointer q2] 58) →
 R (.agg (Z1 0 e2 e1 0 c6 d2 c9 none 0 0)) c4)) :
 CR pP 22 #[(.pointer (some ⟨b0,0,none⟩)),(.agg (Z0 i2 s0 i3 i4 i5 i6 i7 i8 q3 b1 a9 s1 s2 i9 B0 q4 a4 a3))] w R :=
 yaJ Tryz.wide_mixed (an:=[]) Tryz.func22 rfl rfl (by kernel_rfl) rfl hb (Eq.mpr (by kernel_rfl) h)
theorem yH7 {b0:Nat} {a8 a7:Nat} {a4 a3:Nat} (hb:w.heap[b0]? = some (.cells #[.int .i64 i0,.int .i64 i1,.pointer q0,(.map M0),.pointer q1,(.map M1),.pointer q2] 58)) (h :
 ∀ b3,w.heap.size ≤ b3 →
 ∀ b4,w.heap.size ≤ b4 →
 ∀ w5,Adv [] [b4,b3] w w5 →
 ∃ p6,(∀ w',Mod [] w5 w' → (Instr.lookup 51 (.map M0) (.agg #[.string s0,.int .i64 i3]) false).run pP w' = .ok (.pointer p6) w') ∧
 ∀ c1,Adv [] [] w5 c1 →
 Calls pP 46 #[.pointer p6,.int .i64 i5] c1 fun e c2 => ∃ c8,e = .returned (.int .i64 c8) ∧ yaF [b0,b3,b4] c1 c2 ∧
 Calls pP 45 #[.pointer p6] c2 fun e c6 => ∃ c5 c9,e = .returned (.tuple #[.int .i64 c5,.int .i64 c9]) ∧ yaF [b0,b3,b4] c2 c6 ∧
 ∀ c3,Adv [] [] c6 c3 →
 Calls pP 47 #[.pointer q2,(.agg #[.string s0,.int .i64 i3]),.int .i64 c5] c3 fun e c7 => ∃ d0,e = .returned (.int .i64 d0) ∧ yaF [b0,b3,b4] c3 c7 ∧
 ∀ c4,Adv [b4] [] c7 c4 → c4.heap[b0]? = some (.cells #[.int .i64 i0,.int .i64 i1,.pointer q0,(.map M0),.pointer q1,(.map M1),.pointer q2] 58) →
 R (.agg (Z1 0 c5 c8 0 none 0 0 none 0 0)) c4) :
 CR pP 23 #[(.pointer (some ⟨b0,0,none⟩)),(.agg (Z0 i2 s0 i3 i4 i5 i6 i7 i8 q3 a8 a7 s1 s2 i9 B0 q4 a4 a3))] w R :=
 yaJ Tryz.wide_mixed (an:=[]) Tryz.func23 rfl rfl (by kernel_rfl) rfl hb (Eq.mpr (by kernel_rfl) h)
theorem yH8 {b0:Nat} {a7 a6:Nat} {a3 a2:Nat} (hb:w.heap[b0]? = some (.cells #[.int .i64 i0,.int .i64 i1,.pointer q0,(.map M0),.pointer q1,(.map M1),.pointer q2] 58)) (h :
 ∀ b3,w.heap.size ≤ b3 →
 ∀ b4,w.heap.size ≤ b4 →
 ∀ w5,Adv [] [b4,b3] w w5 →
 ∃ p6,(∀ w',Mod [] w5 w' → (Instr.lookup 51 (.map M0) (.agg #[.string s0,.int .i64 i3]) false).run pP w' = .ok (.pointer p6) w') ∧
 Calls pP 48 #[.pointer p6] w5 fun e w7 => ∃ x8,e = .returned (.int .i64 x8) ∧ yaF [b0,b3,b4] w5 w7 ∧
 ∀ w9,Adv [b4] [] w7 w9 → w9.heap[b0]? = some (.cells #[.int .i64 i0,.int .i64 i1,.pointer q0,(.map M0),.pointer q1,(.map M1),.pointer q2] 58) →
 R (.agg (Z1 0 0 x8 0 none 0 0 none 0 0)) w9) :
 CR pP 24 #[(.pointer (some ⟨b0,0,none⟩)),(.agg (Z0 i2 s0 i3 i4 i5 i6 i7 i8 q3 a7 a6 s1 s2 i9 B0 q4 a3 a2))] w R :=
 yaJ Tryz.wide_mixed (an:=[]) Tryz.func24 rfl rfl (by kernel_rfl) rfl hb (Eq.mpr (by kernel_rfl) h)
theorem yH9 {b0:Nat} {a0:BA} {a8 a7:Nat} {a5 a9:BA} {a3 a2:Nat} (hb:w.heap[b0]? = some (.cells #[.int .i64 i0,.int .i64 i1,.pointer q0,(.map M0),.pointer q1,(.map M1),.pointer q2] 58)) (h :
 ∀ b3,w.heap.size ≤ b3 →
 ∀ b4,w.heap.size ≤ b4 →
 ∀ w5,Adv [] [b4,b3] w w5 →
 Calls pP 49 #[.pointer q2,.string a5,(.agg #[.string a0,.int .i64 i3])] w5 fun e w6 => ∃ x7 t8,e = .returned (.tuple #[.int .i64 x7,.bool t8]) ∧ yaF [b0,b3,b4] w5 w6 ∧
 brB (!t8) (
 ∀ w9,Adv [b4] [] w6 w9 → w9.heap[b0]? = some (.cells #[.int .i64 i0,.int .i64 i1,.pointer q0,(.map M0),.pointer q1,(.map M1),.pointer q2] 58) →
 R (.agg (Z1 0 0 0 0 none 0 0 none 0 0)) w9)
 (
 ∀ c1,Adv [b4] [] w6 c1 → c1.heap[b0]? = some (.cells #[.int .i64 i0,.int .i64 i1,.pointer q0,(.map M0),.pointer q1,(.map M1),.pointer q2] 58) →
 R (.agg (Z1 0 x7 1 0 none 0 0 none 0 0)) c1)) :
 CR pP 25 #[(.pointer (some ⟨b0,0,none⟩)),(.agg (Z0 i2 a0 i3 i4 i5 i6 i7 i8 q3 a8 a7 a5 a9 i9 B0 q4 a3 a2))] w R :=
 yaJ Tryz.wide_mixed (an:=[]) Tryz.func25 rfl rfl (by kernel_rfl) rfl hb (Eq.mpr (by kernel_rfl) h)
theorem yIa {b0:Nat} {a9 a8:Nat} {a2 a1:Nat} (hb:w.heap[b0]? = some (.cells #[.int .i64 i0,.int .i64 i1,.pointer q0,(.map M0),.pointer q1,(.map M1),.pointer q2] 58)) (h :
 ∀ b3,w.heap.size ≤ b3 →
 ∀ b4,w.heap.size ≤ b4 →
 ∀ w5,Adv [] [b4,b3] w w5 →
 ∃ p6,(∀ w',Mod [] w5 w' → (Instr.lookup 54 (.map M1) (.string s1) false).run pP w' = .ok (.pointer p6) w') ∧
 brB (Option.isNone p6) (
 ∀ w9,Adv [] [] w5 w9 →
 ∃ f9,(∀ w',Mod [] w9 w' → (Builtin.len_ #[54] 3 #[(.map M1)]).run pP w' = .ok (.int .i64 f9) w') ∧
 brB (decide (f9 ≥ 8)) (
 Calls pP 17 #[.int .i64 2] w9 fun e f3 => ∃ g0 g1 g2 g3 d5 e7 e1 d6 e8 e2,e = .returned (.agg (Z1 g0 g1 g2 g3 d5 e7 e1 d6 e8 e2)) ∧ yaF [b0,b3,b4] w9 f3 ∧
 ∀ c4,Adv [b4] [] f3 c4 → c4.heap[b0]? = some (.cells #[.int .i64 i0,.int .i64 i1,.pointer q0,(.map M0),.pointer q1,(.map M1),.pointer q2] 58) →
 R (.agg (Z1 g0 g1 g2 g3 d5 e7 e1 d6 e8 e2)) c4)
 (
 Calls pP 50 #[] w9 fun e f4 => ∃ c3,e = .returned (.pointer c3) ∧ yaF [b0,b3,b4] w9 f4 ∧
 ∀ c5,Adv [] [] f4 c5 →
 Calls pP 51 #[.pointer c3,(.agg (Z3 s2 q4 a2 a1 i4 i1)),.bool B0] c5 fun e b1 => ∃ g4 d3,e = .returned (.tuple #[.int .i64 g4,.int .i64 d3]) ∧ yaF [b0,b3,b4] c5 b1 ∧
 brB (d3 != 0) (
 Calls pP 17 #[.int .i64 d3] b1 fun e f5 => ∃ g5 g6 g7 g8 d7 e9 e3 d8 f0 e4,e = .returned (.agg (Z1 g5 g6 g7 g8 d7 e9 e3 d8 f0 e4)) ∧ yaF [b0,b3,b4] b1 f5 ∧
 ∀ c6,Adv [b4] [] f5 c6 → c6.heap[b0]? = some (.cells #[.int .i64 i0,.int .i64 i1,.pointer q0,(.map M0),.pointer q1,(.map M1),.pointer q2] 58) →
 R (.agg (Z1 g5 g6 g7 g8 d7 e9 e3 d8 f0 e4)) c6)
 (
 ∀ c7,Adv [] [] b1 c7 →
 ydM pP (Instr.mapUpdate 54 (.map M1) (.string s1) (.pointer c3)) c7 fun f6 => yaF [b0,b3,b4] c7 f6 ∧
 ∀ c8,Adv [b4] [] f6 c8 → c8.heap[b0]? = some (.cells #[.int .i64 i0,.int .i64 i1,.pointer q0,(.map M0),.pointer q1,(.map M1),.pointer q2] 58) →
 R (.agg (Z1 0 0 0 g4 none 0 0 none 0 0)) c8)))
 (
 ∀ c9,Adv [] [] w5 c9 →
 Calls pP 51 #[.pointer p6,(.agg (Z3 s2 q4 a2 a1 i4 i1)),.bool B0] c9 fun e b2 => ∃ g9 d4,e = .returned (.tuple #[.int .i64 g9,.int .i64 d4]) ∧ yaF [b0,b3,b4] c9 b2 ∧
 brB (d4 != 0) (
 Calls pP 17 #[.int .i64 d4] b2 fun e f7 => ∃ h0 h1 h2 h3 d9 f1 e5 e0 f2 e6,e = .returned (.agg (Z1 h0 h1 h2 h3 d9 f1 e5 e0 f2 e6)) ∧ yaF [b0,b3,b4] b2 f7 ∧
 ∀ d0,Adv [b4] [] f7 d0 → d0.heap[b0]? = some (.cells #[.int .i64 i0,.int .i64 i1,.pointer q0,(.map M0),.pointer q1,(.map M1),.pointer q2] 58) →
 R (.agg (Z1 h0 h1 h2 h3 d9 f1 e5 e0 f2 e6)) d0)
 (
 ∀ d1,Adv [] [] b2 d1 →
 ydM pP (Instr.mapUpdate 54 (.map M1) (.string s1) (.pointer p6)) d1 fun f8 => yaF [b0,b3,b4] d1 f8 ∧
 ∀ d2,Adv [b4] [] f8 d2 → d2.heap[b0]? = some (.cells #[.int .i64 i0,.int .i64 i1,.pointer q0,(.map M0),.pointer q1,(.map M1),.pointer q2] 58) →
 R (.agg (Z1 0 0 0 g9 none 0 0 none 0 0)) d2))) :
 CR pP 26 #[(.pointer (some ⟨b0,0,none⟩)),(.agg (Z0 i2 s0 i3 i4 i5 i6 i7 i8 q3 a9 a8 s1 s2 i9 B0 q4 a2 a1))] w R :=
 yaJ Tryz.wide_mixed (an:=[]) Tryz.func26 rfl rfl (by kernel_rfl) rfl hb (Eq.mpr (by kernel_rfl) h)
theorem yIb {b0:Nat} {a8 a7:Nat} {a4 a3:Nat} (hb:w.heap[b0]? = some (.cells #[.int .i64 i0,.int .i64 i1,.pointer q0,(.map M0),.pointer q1,(.map M1),.pointer q2] 58)) (h :
 ∀ b3,w.heap.size ≤ b3 →
 ∀ b4,w.heap.size ≤ b4 →
 ∀ w5,Adv [] [b4,b3] w w5 →
 ∃ p6,(∀ w',Mod [] w5 w' → (Instr.lookup 54 (.map M1) (.string s1) false).run pP w' = .ok (.pointer p6) w') ∧
 Calls pP 52 #[.pointer p6,.string s2,.int .i64 i9,.int .i64 i1] w5 fun e w7 => ∃ x8,e = .returned (.int .i64 x8) ∧ yaF [b0,b3,b4] w5 w7 ∧
 Calls pP 17 #[.int .i64 x8] w7 fun e w9 => ∃ c8 c9 d0 d1 c2 c6 c4 c3 c7 c5,e = .returned (.agg (Z1 c8 c9 d0 d1 c2 c6 c4 c3 c7 c5)) ∧ yaF [b0,b3,b4] w7 w9 ∧
 ∀ c1,Adv [b4] [] w9 c1 → c1.heap[b0]? = some (.cells #[.int .i64 i0,.int .i64 i1,.pointer q0,(.map M0),.pointer q1,(.map M1),.pointer q2] 58) →
 R (.agg (Z1 c8 c9 d0 d1 c2 c6 c4 c3 c7 c5)) c1) :
 CR pP 27 #[(.pointer (some ⟨b0,0,none⟩)),(.agg (Z0 i2 s0 i3 i4 i5 i6 i7 i8 q3 a8 a7 s1 s2 i9 B0 q4 a4 a3))] w R :=
 yaJ Tryz.wide_mixed (an:=[]) Tryz.func27 rfl rfl (by kernel_rfl) rfl hb (Eq.mpr (by kernel_rfl) h)
theorem yIc {b0:Nat} {a8 a7:Nat} {a4 a3:Nat} (hb:w.heap[b0]? = some (.cells #[.int .i64 i0,.int .i64 i1,.pointer q0,(.map M0),.pointer q1,(.map M1),.pointer q2] 58)) (h :
 ∀ b3,w.heap.size ≤ b3 →
 ∀ b4,w.heap.size ≤ b4 →
 ∀ w5,Adv [] [b4,b3] w w5 →
 ∃ p6,(∀ w',Mod [] w5 w' → (Instr.lookup 54 (.map M1) (.string s1) false).run pP w' = .ok (.pointer p6) w') ∧
 Calls pP 53 (Z13 p6 s2 i9) w5 fun e w7 => ∃ x8,e = .returned (.int .i64 x8) ∧ yaF [b0,b3,b4] w5 w7 ∧
 Calls pP 17 #[.int .i64 x8] w7 fun e w9 => ∃ c8 c9 d0 d1 c2 c6 c4 c3 c7 c5,e = .returned (.agg (Z1 c8 c9 d0 d1 c2 c6 c4 c3 c7 c5)) ∧ yaF [b0,b3,b4] w7 w9 ∧
 ∀ c1,Adv [b4] [] w9 c1 → c1.heap[b0]? = some (.cells #[.int .i64 i0,.int .i64 i1,.pointer q0,(.map M0),.pointer q1,(.map M1),.pointer q2] 58) →
 R (.agg (Z1 c8 c9 d0 d1 c2 c6 c4 c3 c7 c5)) c1) :
 CR pP 28 #[(.pointer (some ⟨b0,0,none⟩)),(.agg (Z0 i2 s0 i3 i4 i5 i6 i7 i8 q3 a8 a7 s1 s2 i9 B0 q4 a4 a3))] w R :=
 yaJ Tryz.wide_mixed (an:=[]) Tryz.func28 rfl rfl (by kernel_rfl) rfl hb (Eq.mpr (by kernel_rfl) h)
theorem yId {b0:Nat} {a9 a7:Nat} {a5 a4:Nat} (hb:w.heap[b0]? = some (.cells #[.int .i64 i0,.int .i64 i1,.pointer q0,(.map M0),.pointer q1,(.map M1),.pointer q2] 58)) (h :
 ∀ b3,w.heap.size ≤ b3 →
 ∀ b4,w.heap.size ≤ b4 →
 ∀ w5,Adv [] [b4,b3] w w5 →
 ∃ p6,(∀ w',Mod [] w5 w' → (Instr.lookup 54 (.map M1) (.string s1) false).run pP w' = .ok (.pointer p6) w') ∧
 Calls pP 55 #[.pointer q0] w5 fun e w7 => ∃ a8 n9 c9,e = .returned (.slice a8 n9 c9) ∧ yaF [b0,b3,b4] w5 w7 ∧ (((.int .i64 i9):Value) = (.int .i64 i9)) ∧ (((.string s2):Value) = (.string s2)) ∧ (∀ w',Mod [] w7 w' → (Instr.lookup 54 (.map M1) (.string s1) false).run pP w' = .ok (.pointer p6) w') ∧ (((.string s1):Value) = (.string s1)) ∧ (((.map M1):Value) = (.map M1)) ∧
 Calls pP 54 #[.pointer p6,.string s2,.int .i64 i9,.slice a8 n9 c9] w7 fun e b1 => ∃ c6 d3 d0 c5,e = .returned (.tuple #[.slice c6 d3 d0,.int .i64 c5]) ∧ yaF [b0,b3,b4] w7 b1 ∧
 brB (c5 != 0) (
 Calls pP 17 #[.int .i64 c5] b1 fun e d6 => ∃ d7 d8 d9 e0 c7 d4 d1 c8 d5 d2,e = .returned (.agg (Z1 d7 d8 d9 e0 c7 d4 d1 c8 d5 d2)) ∧ yaF [b0,b3,b4] b1 d6 ∧
 ∀ c3,Adv [b4] [] d6 c3 → c3.heap[b0]? = some (.cells #[.int .i64 i0,.int .i64 i1,.pointer q0,(.map M0),.pointer q1,(.map M1),.pointer q2] 58) →
 R (.agg (Z1 d7 d8 d9 e0 c7 d4 d1 c8 d5 d2)) c3)
 (
 ∀ c4,Adv [b4] [] b1 c4 → c4.heap[b0]? = some (.cells #[.int .i64 i0,.int .i64 i1,.pointer q0,(.map M0),.pointer q1,(.map M1),.pointer q2] 58) →
 R (.agg (Z1 0 0 0 0 none 0 0 c6 d3 d0)) c4)) :
 CR pP 29 #[(.pointer (some ⟨b0,0,none⟩)),(.agg (Z0 i2 s0 i3 i4 i5 i6 i7 i8 q3 a9 a7 s1 s2 i9 B0 q4 a5 a4))] w R :=
 yaJ Tryz.wide_mixed (an:=[]) Tryz.func29 rfl rfl (by kernel_rfl) rfl hb (Eq.mpr (by kernel_rfl) h)
theorem yIe {b0:Nat} {a9 a8:Nat} {a6 a5:Nat} (hb:w.heap[b0]? = some (.cells #[.int .i64 i0,.int .i64 i1,.pointer q0,(.map M0),.pointer q1,(.map M1),.pointer q2] 58)) (h :
 ∀ b3,w.heap.size ≤ b3 →
 ∀ b4,w.heap.size ≤ b4 →
 ∀ d4,Adv [] [b4,b3] w d4 → d4.heap[b0]? = some (.cells #[.int .i64 i0,.int .i64 i1,.pointer q0,(.map M0),.pointer q1,(.map M1),.pointer q2] 58) →
 Calls pP 29 #[(.pointer (some ⟨b0,0,none⟩)),(.agg (Z0 i2 s0 i3 i4 i5 i6 i7 i8 q3 a9 a8 s1 s2 i9 B0 q4 a6 a5))] d4 fun e c6 => ∃ u2 w1 w2 w3 u5 v2 u9 e0 f0 e5,e = .returned (.agg (Z1 u2 w1 w2 w3 u5 v2 u9 e0 f0 e5)) ∧ yaV [b0] [(b3,39),(b4,30)] [b3,b4] d4 c6 ∧ ∃ u3 u4 g1,∃ m40:Option Nat,∃ g2,∃ m42:Option Nat,∃ g3,c6.heap[b0]? = some (.cells #[.int .i64 u3,.int .i64 u4,.pointer g1,(.map m40),.pointer g2,(.map m42),.pointer g3] 58) ∧
 ∀ a0,c6.heap.size ≤ a0 →
 brB (u2 != 0) (
 ∀ g4,Adv [b4] [a0] c6 g4 → g4.heap[b0]? = some (.cells #[.int .i64 u3,.int .i64 u4,.pointer g1,(.map m40),.pointer g2,(.map m42),.pointer g3] 58) →
 R (.agg (Z1 u2 w1 w2 w3 u5 v2 u9 e0 f0 e5)) g4)
 (
 ∀ d5,Adv [] [a0] c6 d5 → d5.heap[b0]? = some (.cells #[.int .i64 u3,.int .i64 u4,.pointer g1,(.map m40),.pointer g2,(.map m42),.pointer g3] 58) →
 Calls pP 56 #[.slice e0 f0 e5,(.agg #[.string s0,.int .i64 i3])] d5 fun e c7 => ∃ w0,e = .returned (.bool w0) ∧ yaV [b0] [(b3,39),(b4,30),(a0,30)] [b3,b4,a0] d5 c7 ∧ ∃ w4 w5 v5,∃ m62:Option Nat,∃ v6,∃ m64:Option Nat,∃ v7,c7.heap[b0]? = some (.cells #[.int .i64 w4,.int .i64 w5,.pointer v5,(.map m62),.pointer v6,(.map m64),.pointer v7] 58) ∧
 brB (!w0) (
 Calls pP 17 #[.int .i64 130] c7 fun e g5 => ∃ w6 w7 w8 w9 u6 v3 v0 u7 v4 v1,e = .returned (.agg (Z1 w6 w7 w8 w9 u6 v3 v0 u7 v4 v1)) ∧ yaV [b0] [(b3,39),(b4,30),(a0,30)] [b3,b4,a0] c7 g5 ∧ ∃ x0 x1 v8,∃ m98:Option Nat,∃ v9,∃ m100:Option Nat,∃ f1,g5.heap[b0]? = some (.cells #[.int .i64 x0,.int .i64 x1,.pointer v8,(.map m98),.pointer v9,(.map m100),.pointer f1] 58) ∧
 ∀ c9,Adv [b4] [] g5 c9 → c9.heap[b0]? = some (.cells #[.int .i64 x0,.int .i64 x1,.pointer v8,(.map m98),.pointer v9,(.map m100),.pointer f1] 58) →
 R (.agg (Z1 w6 w7 w8 w9 u6 v3 v0 u7 v4 v1)) c9)
 (
 ∀ b2,Adv [] [] c7 b2 → b2.heap[b0]? = some (.cells #[.int .i64 w4,.int .i64 w5,.pointer v5,(.map m62),.pointer v6,(.map m64),.pointer v7] 58) →
 ∃ f2,(∀ w',Mod [] b2 w' → (Instr.lookup 51 (.map m62) (.agg #[.string s0,.int .i64 i3]) false).run pP w' = .ok (.pointer f2) w') ∧
 Calls pP 45 #[.pointer f2] b2 fun e b5 => ∃ x5 g6,e = .returned (.tuple #[.int .i64 x5,.int .i64 g6]) ∧ yaV [b0] [(b3,39),(b4,30),(a0,30)] [b3,b4,a0] b2 b5 ∧ ∃ g7 g8 f3,∃ m111:Option Nat,∃ f4,∃ m113:Option Nat,∃ c8,b5.heap[b0]? = some (.cells #[.int .i64 g7,.int .i64 g8,.pointer f3,(.map m111),.pointer f4,(.map m113),.pointer c8] 58) ∧
 brB (decide (i5 > g6)) (
 Calls pP 17 #[.int .i64 61] b5 fun e d0 => ∃ g9 h0 h1 h2 d6 e6 e1 d7 e7 e2,e = .returned (.agg (Z1 g9 h0 h1 h2 d6 e6 e1 d7 e7 e2)) ∧ yaV [b0] [(b3,39),(b4,30),(a0,30)] [b3,b4,a0] b5 d0 ∧ ∃ h3 h4 f5,∃ m147:Option Nat,∃ f6,∃ m149:Option Nat,∃ f7,d0.heap[b0]? = some (.cells #[.int .i64 h3,.int .i64 h4,.pointer f5,(.map m147),.pointer f6,(.map m149),.pointer f7] 58) ∧
 ∀ d1,Adv [b4] [] d0 d1 → d1.heap[b0]? = some (.cells #[.int .i64 h3,.int .i64 h4,.pointer f5,(.map m147),.pointer f6,(.map m149),.pointer f7] 58) →
 R (.agg (Z1 g9 h0 h1 h2 d6 e6 e1 d7 e7 e2)) d1)
 (
 ∀ b9,Adv [] [] b5 b9 → b9.heap[b0]? = some (.cells #[.int .i64 g7,.int .i64 g8,.pointer f3,(.map m111),.pointer f4,(.map m113),.pointer c8] 58) →
 Calls pP 57 #[.pointer c8,(.agg (Z6 s1 s0 i3 i5))] b9 fun e c0 => ∃ h5,e = .returned (.int .i64 h5) ∧ yaV [b0] [(b3,39),(b4,30),(a0,30)] [b3,b4,a0] b9 c0 ∧ ∃ x6 x7 x2,∃ m158:Option Nat,∃ x3,∃ m160:Option Nat,∃ x4,c0.heap[b0]? = some (.cells #[.int .i64 x6,.int .i64 x7,.pointer x2,(.map m158),.pointer x3,(.map m160),.pointer x4] 58) ∧
 Calls pP 17 #[.int .i64 h5] c0 fun e d2 => ∃ h6 h7 h8 h9 d8 e8 e3 d9 e9 e4,e = .returned (.agg (Z1 h6 h7 h8 h9 d8 e8 e3 d9 e9 e4)) ∧ yaV [b0] [(b3,39),(b4,30),(a0,30)] [b3,b4,a0] c0 d2 ∧ ∃ u0 u1 f8,∃ m176:Option Nat,∃ f9,∃ m178:Option Nat,∃ g0,d2.heap[b0]? = some (.cells #[.int .i64 u0,.int .i64 u1,.pointer f8,(.map m176),.pointer f9,(.map m178),.pointer g0] 58) ∧
 ∀ d3,Adv [b4] [] d2 d3 → d3.heap[b0]? = some (.cells #[.int .i64 u0,.int .i64 u1,.pointer f8,(.map m176),.pointer f9,(.map m178),.pointer g0] 58) →
 R (.agg (Z1 h6 h7 h8 h9 d8 e8 e3 d9 e9 e4)) d3)))) :
 CR pP 30 #[(.pointer (some ⟨b0,0,none⟩)),(.agg (Z0 i2 s0 i3 i4 i5 i6 i7 i8 q3 a9 a8 s1 s2 i9 B0 q4 a6 a5))] w R :=
 yaJ Tryz.wide_mixed (an:=[]) Tryz.func30 rfl rfl (by kernel_rfl) rfl hb (Eq.mpr (by kernel_rfl) h)
end
end Go.Proofs.YteldhjiiocmicaaGreat
namespace Go.Proofs.YteldhjiiocmicaaGreat
open Go Go.RowKit Go.Maps Go.MapKept
set_option linter.unusedVariables false
set_option linter.unusedSimpArgs false
inductive BLab where
 | no | br | cat | lm | mk | gm | off
 | log (p:PPart)
 | grp (g:ByteArray)
structure LogV where
 p:Nat
 L:List SegS
 F:List Nat
structure GrpV where
 p:Nat
 gen:Int
 robin:Bool
 G:GL
 F:List Nat
def LogV.v (q:LogV):Value:=.pointer (some ⟨q.p,0,none⟩)
def GrpV.v (q:GrpV):Value:=.pointer (some ⟨q.p,0,none⟩)
structure PGrp where
 gen:Int
 robin:Bool
 G:GL
def GrpV.x (q:GrpV):PGrp:=⟨q.gen,q.robin,q.G⟩
structure PBr where
 room:Int
 now:Int
 cat:TL
 eps:List Int
 dd:List (yjI × List PDid)
 logs:List (PPart × List SegS)
 groups:List (ByteArray × PGrp)
 marks:OL
structure BrV where
 room:Int
 now:Int
 cat:TL
 eps:List Int
 dd:List (yjI × List PDid)
 marks:OL
 LP:List (PPart × LogV)
 GP:List (ByteArray × GrpV)
 pc:Nat
 ml:Nat
 pm:Nat
 mg:Nat
 po:Nat
 Fc:List Nat
 Fm:List Nat
 Fo:List Nat
 lab:Nat → BLab
def BrV.st (V:BrV):PBr:=⟨V.room,V.now,V.cat,V.eps,V.dd,V.LP.map fun q => (q.1,q.2.L),V.GP.map fun q => (q.1,q.2.x),V.marks⟩
def BrV.foot (V:BrV) (b:Nat):List Nat:=b :: V.ml :: V.mg :: (V.Fc ++ V.Fm ++ V.Fo ++ V.LP.flatMap (fun q => q.2.F) ++ V.GP.flatMap (fun q => q.2.F))
structure BrRest (w:World) (b:Nat) (V:BrV) (i:BLab) (lab:Nat → BLab):Prop where
 cell:i ≠ .br → w.heap[b]? = some (.cells #[.int .i64 V.room,.int .i64 V.now,.pointer (some ⟨V.pc,0,none⟩),.map (some V.ml),.pointer (some ⟨V.pm,0,none⟩),.map (some V.mg),.pointer (some ⟨V.po,0,none⟩)] 58)
 lb:lab b = .br
 cat:i ≠ .cat → ydO w V.pc V.cat V.Fc
 lc:∀ k ∈ V.Fc,lab k = .cat
 logs:i ≠ .lm → yaS pP 33 hkp LogV.v w V.ml V.LP
 lm:lab V.ml = .lm
 log:∀ q ∈ V.LP,i ≠ .log q.1 → yc6 w q.2.p V.room q.2.L q.2.F
 ll:∀ q ∈ V.LP,∀ k ∈ q.2.F,lab k = .log q.1
 ded:i ≠ .mk → yeO w V.pm V.eps V.dd V.Fm
 lk:∀ k ∈ V.Fm,lab k = .mk
 gs:i ≠ .gm → yaS pP 9 hks GrpV.v w V.mg V.GP
 lg:lab V.mg = .gm
 grp:∀ q ∈ V.GP,i ≠ .grp q.1 → ycP w q.2.p q.2.gen q.2.robin q.2.G q.2.F
 lgr:∀ q ∈ V.GP,∀ k ∈ q.2.F,lab k = .grp q.1
 off:i ≠ .off → yf5 w V.po V.marks V.Fo
 lo:∀ k ∈ V.Fo,lab k = .off
 low:b < w.heap.size ∧ V.ml < w.heap.size ∧ V.mg < w.heap.size ∧ (∀ k ∈ V.Fc,k < w.heap.size) ∧ (∀ k ∈ V.Fm,k < w.heap.size) ∧ (∀ k ∈ V.Fo,k < w.heap.size) ∧ (∀ q ∈ V.LP,∀ k ∈ q.2.F,k < w.heap.size) ∧ (∀ q ∈ V.GP,∀ k ∈ q.2.F,k < w.heap.size)
def yc3 (w:World) (b:Nat) (V:BrV):Prop:=BrRest w b V .no V.lab
def relab (w:World) (lab:Nat → BLab) (i:BLab) (k:Nat):BLab:=if k < w.heap.size then lab k else i
theorem ycJ {w:World} {lab:Nat → BLab} {i:BLab} {k:Nat} (h:k < w.heap.size):relab w lab i k = lab k:=if_pos h
theorem yeW {w:World} {lab:Nat → BLab} {i:BLab} {F F':List Nat} (h:∀ k ∈ F,lab k = i) (G:ybG w F F'):∀ k ∈ F',relab w lab i k = i:=fun k hk => by
 unfold relab
 split
 ·rename_i hl
  rcases G k hk with hk | hk
  ·exact h k hk
  ·omega
 ·rfl
theorem yuM {w:World} {lab:Nat → BLab} {i:BLab} {F:List Nat} (h:∀ k ∈ F,w.heap.size ≤ k):∀ k ∈ F,relab w lab i k = i:=fun k hk => by
 unfold relab; rw [if_neg (by have:=h k hk; omega)]
theorem yk6 {lab:Nat → BLab} {i j:BLab} {S:List Nat} {k:Nat} (hS:∀ k ∈ S,lab k = i) (hk:lab k = j) (hij:i ≠ j):k ∉ S:=fun h => hij ((hS k h).symm.trans hk)
theorem BrRest.step {w w':World} {b:Nat} {V:BrV} (h:yc3 w b V) {i:BLab} {S:List Nat} (M:Mod S w w') (hS:∀ k ∈ S,V.lab k = i):BrRest w' b V i (relab w V.lab i):=by
 have hs:=M.size
 obtain ⟨l1,l2,l3,l4,l5,l6,l7,l8⟩:=h.low
 exact {
  cell:=fun hi => M.keep (h.cell nofun) (yk6 hS h.lb hi)
  lb:=(ycJ l1).trans h.lb
  cat:=fun hi => (h.cat nofun).keep M fun k hk hk' => yk6 hS (h.lc k hk') hi hk
  lc:=fun k hk => (ycJ (l4 k hk)).trans (h.lc k hk)
  logs:=fun hi => (h.logs nofun).keepM M (yk6 hS h.lm hi)
  lm:=(ycJ l2).trans h.lm
  log:=fun q hq hi => (h.log q hq nofun).keep M fun k hk hk' => yk6 hS (h.ll q hq k hk') hi hk
  ll:=fun q hq k hk => (ycJ (l7 q hq k hk)).trans (h.ll q hq k hk)
  ded:=fun hi => (h.ded nofun).keep M fun k hk hk' => yk6 hS (h.lk k hk') hi hk
  lk:=fun k hk => (ycJ (l5 k hk)).trans (h.lk k hk)
  gs:=fun hi => (h.gs nofun).keepM M (yk6 hS h.lg hi)
  lg:=(ycJ l3).trans h.lg
  grp:=fun q hq hi => (h.grp q hq nofun).keep M fun k hk hk' => yk6 hS (h.lgr q hq k hk') hi hk
  lgr:=fun q hq k hk => (ycJ (l8 q hq k hk)).trans (h.lgr q hq k hk)
  off:=fun hi => (h.off nofun).keep M fun k hk hk' => yk6 hS (h.lo k hk') hi hk
  lo:=fun k hk => (ycJ (l6 k hk)).trans (h.lo k hk)
  low:=⟨by omega,by omega,by omega,fun k hk => by have:=l4 k hk; omega,fun k hk => by have:=l5 k hk; omega,fun k hk => by have:=l6 k hk; omega,fun q hq k hk => by have:=l7 q hq k hk; omega,fun q hq k hk => by have:=l8 q hq k hk; omega⟩ }
theorem yc3.keep0 {w w':World} {b:Nat} {V:BrV} (h:yc3 w b V) (M:Mod [] w w'):yc3 w' b V:=by
 have r:=BrRest.step (i:=.no) h M (by simp)
 exact { r with lb:=h.lb,lc:=h.lc,lm:=h.lm,ll:=h.ll,lk:=h.lk,lg:=h.lg,lgr:=h.lgr,lo:=h.lo }
theorem yaD {V:BrV} {b k:Nat}:k ∈ V.foot b ↔ k = b ∨ k = V.ml ∨ k = V.mg ∨ k ∈ V.Fc ∨ k ∈ V.Fm ∨ k ∈ V.Fo ∨ (∃ q ∈ V.LP,k ∈ q.2.F) ∨ ∃ q ∈ V.GP,k ∈ q.2.F:=by
 simp only [BrV.foot,List.mem_cons,List.mem_append,List.mem_flatMap]
 simp only [or_assoc]
theorem yc3.lt {w:World} {b:Nat} {V:BrV} (h:yc3 w b V):∀ k ∈ V.foot b,k < w.heap.size:=fun k hk => by
 obtain ⟨l1,l2,l3,l4,l5,l6,l7,l8⟩:=h.low
 rcases yaD.1 hk with rfl | rfl | rfl | hk | hk | hk | ⟨q,hq,hk⟩ | ⟨q,hq,hk⟩
 ·exact l1
 ·exact l2
 ·exact l3
 ·exact l4 k hk
 ·exact l5 k hk
 ·exact l6 k hk
 ·exact l7 q hq k hk
 ·exact l8 q hq k hk
theorem yc3.keep {w w':World} {b:Nat} {V:BrV} {S:List Nat} (h:yc3 w b V) (M:Mod S w w') (hS:∀ k ∈ S,k ∉ V.foot b):yc3 w' b V:=by
 have hs:=M.size
 have nf:∀ {k},k ∈ V.foot b → k ∉ S:=fun hk hk' => hS _ hk' hk
 obtain ⟨l1,l2,l3,l4,l5,l6,l7,l8⟩:=h.low
 exact { h with
  cell:=fun hi => M.keep (h.cell hi) (nf (yaD.2 (.inl rfl)))
  cat:=fun hi => (h.cat hi).keep M fun k hk hk' => nf (yaD.2 (.inr (.inr (.inr (.inl hk'))))) hk
  logs:=fun hi => (h.logs hi).keepM M (nf (yaD.2 (.inr (.inl rfl))))
  log:=fun q hq hi => (h.log q hq hi).keep M fun k hk hk' => nf (yaD.2 (.inr (.inr (.inr (.inr (.inr (.inr (.inl ⟨q,hq,hk'⟩)))))))) hk
  ded:=fun hi => (h.ded hi).keep M fun k hk hk' => nf (yaD.2 (.inr (.inr (.inr (.inr (.inl hk')))))) hk
  gs:=fun hi => (h.gs hi).keepM M (nf (yaD.2 (.inr (.inr (.inl rfl)))))
  grp:=fun q hq hi => (h.grp q hq hi).keep M fun k hk hk' => nf (yaD.2 (.inr (.inr (.inr (.inr (.inr (.inr (.inr ⟨q,hq,hk'⟩)))))))) hk
  off:=fun hi => (h.off hi).keep M fun k hk hk' => nf (yaD.2 (.inr (.inr (.inr (.inr (.inr (.inl hk'))))))) hk
  low:=⟨by omega,by omega,by omega,fun k hk => by have:=l4 k hk; omega,fun k hk => by have:=l5 k hk; omega,fun k hk => by have:=l6 k hk; omega,fun q hq k hk => by have:=l7 q hq k hk; omega,fun q hq k hk => by have:=l8 q hq k hk; omega⟩ }
structure BrStep (w w':World) (b:Nat) (V V':BrV):Prop where
 ok:yc3 w' b V'
 mod:Mod (V.foot b) w w'
 gr:ybG w (V.foot b) (V'.foot b)
theorem BrStep.refl {w w':World} {b:Nat} {V:BrV} (h:yc3 w b V) (M:Mod [] w w'):BrStep w w' b V V:=⟨h.keep0 M,M.less (by simp),ybG.refl _ _⟩
theorem BrStep.trans {w w' w'':World} {b:Nat} {V V' V'':BrV} (h:BrStep w w' b V V') (h':BrStep w' w'' b V' V''):BrStep w w'' b V V'' :=
 ⟨h'.ok,(h.mod.trans h'.mod).less fun z hz hl => by
  rcases List.mem_append.1 hz with hz | hz
  ·exact hz
  ·rcases h.gr z hz with hz | hz
   ·exact hz
   ·omega,h.gr.trans h'.gr h.mod.size⟩
theorem BrStep.after0 {w w' w'':World} {b:Nat} {V V':BrV} (h:BrStep w w' b V V') (M:Mod [] w' w''):BrStep w w'' b V V':=h.trans (BrStep.refl h.ok M)
theorem yc3.setCat {w w':World} {b:Nat} {V:BrV} (h:yc3 w b V) {cat':TL} {F':List Nat} (M:Mod V.Fc w w') (hT:ydO w' V.pc cat' F') (G:ybG w V.Fc F') :
  BrStep w w' b V { V with cat:=cat',Fc:=F',lab:=relab w V.lab .cat }:=by
 have r:=BrRest.step h M h.lc
 obtain ⟨l1,l2,l3,l4,l5,l6,l7,l8⟩:=r.low
 refine ⟨{ cell:=fun _ => r.cell nofun,lb:=r.lb,cat:=fun _ => hT,lc:=yeW h.lc G,logs:=fun _ => r.logs nofun,lm:=r.lm,log:=fun q hq _ => r.log q hq nofun,ll:=r.ll,ded:=fun _ => r.ded nofun,lk:=r.lk,gs:=fun _ => r.gs nofun,lg:=r.lg,grp:=fun q hq _ => r.grp q hq nofun,lgr:=r.lgr,off:=fun _ => r.off nofun,lo:=r.lo,low:=⟨l1,l2,l3,hT.lt,l5,l6,l7,l8⟩ },M.less fun z hz _ => yaD.2 (.inr (.inr (.inr (.inl hz)))),fun z hz => ?_⟩
 rcases yaD.1 hz with h1 | h1 | h1 | h1 | h1 | h1 | h1 | h1
 ·exact .inl (yaD.2 (.inl h1))
 ·exact .inl (yaD.2 (.inr (.inl h1)))
 ·exact .inl (yaD.2 (.inr (.inr (.inl h1))))
 ·exact (G z h1).imp_left fun h1 => yaD.2 (.inr (.inr (.inr (.inl h1))))
 ·exact .inl (yaD.2 (.inr (.inr (.inr (.inr (.inl h1))))))
 ·exact .inl (yaD.2 (.inr (.inr (.inr (.inr (.inr (.inl h1)))))))
 ·exact .inl (yaD.2 (.inr (.inr (.inr (.inr (.inr (.inr (.inl h1))))))))
 ·exact .inl (yaD.2 (.inr (.inr (.inr (.inr (.inr (.inr (.inr h1))))))))
theorem yc3.setMk {w w':World} {b:Nat} {V:BrV} (h:yc3 w b V) {eps':List Int} {dd':List (yjI × List PDid)} {F':List Nat} (M:Mod V.Fm w w') (hT:yeO w' V.pm eps' dd' F') (G:ybG w V.Fm F') :
  BrStep w w' b V { V with eps:=eps',dd:=dd',Fm:=F',lab:=relab w V.lab .mk }:=by
 have r:=BrRest.step h M h.lk
 obtain ⟨l1,l2,l3,l4,l5,l6,l7,l8⟩:=r.low
 refine ⟨{ cell:=fun _ => r.cell nofun,lb:=r.lb,cat:=fun _ => r.cat nofun,lc:=r.lc,logs:=fun _ => r.logs nofun,lm:=r.lm,log:=fun q hq _ => r.log q hq nofun,ll:=r.ll,ded:=fun _ => hT,lk:=yeW h.lk G,gs:=fun _ => r.gs nofun,lg:=r.lg,grp:=fun q hq _ => r.grp q hq nofun,lgr:=r.lgr,off:=fun _ => r.off nofun,lo:=r.lo,low:=⟨l1,l2,l3,l4,hT.lt,l6,l7,l8⟩ },M.less fun z hz _ => yaD.2 (.inr (.inr (.inr (.inr (.inl hz))))),fun z hz => ?_⟩
 rcases yaD.1 hz with h1 | h1 | h1 | h1 | h1 | h1 | h1 | h1
 ·exact .inl (yaD.2 (.inl h1))
 ·exact .inl (yaD.2 (.inr (.inl h1)))
 ·exact .inl (yaD.2 (.inr (.inr (.inl h1))))
 ·exact .inl (yaD.2 (.inr (.inr (.inr (.inl h1)))))
 ·exact (G z h1).imp_left fun h1 => yaD.2 (.inr (.inr (.inr (.inr (.inl h1)))))
 ·exact .inl (yaD.2 (.inr (.inr (.inr (.inr (.inr (.inl h1)))))))
 ·exact .inl (yaD.2 (.inr (.inr (.inr (.inr (.inr (.inr (.inl h1))))))))
 ·exact .inl (yaD.2 (.inr (.inr (.inr (.inr (.inr (.inr (.inr h1))))))))
theorem yc3.setOff {w w':World} {b:Nat} {V:BrV} (h:yc3 w b V) {marks':OL} {F':List Nat} (M:Mod V.Fo w w') (hT:yf5 w' V.po marks' F') (G:ybG w V.Fo F') :
  BrStep w w' b V { V with marks:=marks',Fo:=F',lab:=relab w V.lab .off }:=by
 have r:=BrRest.step h M h.lo
 obtain ⟨l1,l2,l3,l4,l5,l6,l7,l8⟩:=r.low
 refine ⟨{ cell:=fun _ => r.cell nofun,lb:=r.lb,cat:=fun _ => r.cat nofun,lc:=r.lc,logs:=fun _ => r.logs nofun,lm:=r.lm,log:=fun q hq _ => r.log q hq nofun,ll:=r.ll,ded:=fun _ => r.ded nofun,lk:=r.lk,gs:=fun _ => r.gs nofun,lg:=r.lg,grp:=fun q hq _ => r.grp q hq nofun,lgr:=r.lgr,off:=fun _ => hT,lo:=yeW h.lo G,low:=⟨l1,l2,l3,l4,l5,hT.lt,l7,l8⟩ },M.less fun z hz _ => yaD.2 (.inr (.inr (.inr (.inr (.inr (.inl hz)))))),fun z hz => ?_⟩
 rcases yaD.1 hz with h1 | h1 | h1 | h1 | h1 | h1 | h1 | h1
 ·exact .inl (yaD.2 (.inl h1))
 ·exact .inl (yaD.2 (.inr (.inl h1)))
 ·exact .inl (yaD.2 (.inr (.inr (.inl h1))))
 ·exact .inl (yaD.2 (.inr (.inr (.inr (.inl h1)))))
 ·exact .inl (yaD.2 (.inr (.inr (.inr (.inr (.inl h1))))))
 ·exact (G z h1).imp_left fun h1 => yaD.2 (.inr (.inr (.inr (.inr (.inr (.inl h1))))))
 ·exact .inl (yaD.2 (.inr (.inr (.inr (.inr (.inr (.inr (.inl h1))))))))
 ·exact .inl (yaD.2 (.inr (.inr (.inr (.inr (.inr (.inr (.inr h1))))))))
theorem yaS.sameV {κ β β':Type} [DecidableEq κ] {P:Program} {t:TypeId} {ek:κ → Value} {ev:β → Value} {ev':β' → Value} {w:World} {m:Nat} {L:List (κ × β)} {L':List (κ × β')} (h:yaS P t ek ev w m L) (e:L'.map (fun p => (p.1,ev' p.2)) = L.map (fun p => (p.1,ev p.2))):yaS P t ek ev' w m L':=by
 obtain ⟨es,clock,hb,he,hk,hs⟩:=h
 refine ⟨es,clock,hb,?_,fun p hp => ?_,hs⟩
 ·rw [he]
  have:=congrArg (List.map fun q:κ × Value => (ek q.1,q.2)) e
  simpa [List.map_map,Function.comp_def] using this.symm
 ·have:(p.1,ev' p.2) ∈ L.map (fun p => (p.1,ev p.2)):=by rw [← e]; exact List.mem_map.2 ⟨p,hp,rfl⟩
  obtain ⟨q,hq,e2⟩:=List.mem_map.1 this
  have e2:=congrArg Prod.fst e2
  rw [← show q.1 = p.1 from e2]; exact hk q hq
theorem yuN {κ β:Type} [DecidableEq κ] {ev:β → Value} {L:List (κ × β)} {k:κ} {x y:β} (hn:(L.map (·.1)).Nodup) (hx:lkp L k = some x) (e:ev y = ev x):(put L k y).map (fun p => (p.1,ev p.2)) = L.map (fun p => (p.1,ev p.2)):=by
 have hm:=yaQ hx
 rw [yjX hn (List.mem_map.2 ⟨_,hm,rfl⟩),List.map_map]
 refine List.map_congr_left fun q hq => ?_
 simp only [Function.comp_apply]
 split
 ·rename_i e1
  have:q = (k,x):=yjY hn hq hm e1
  rw [this]; simp [e]
 ·rfl
theorem yc3.setLog {w w':World} {b:Nat} {V:BrV} (h:yc3 w b V) {p:PPart} {v:LogV} (hp:lkp V.LP p = some v) {L':List SegS} {F':List Nat} (M:Mod v.F w w') (hT:yc6 w' v.p V.room L' F') (G:ybG w v.F F') :
  BrStep w w' b V { V with LP:=put V.LP p ⟨v.p,L',F'⟩,lab:=relab w V.lab (.log p) }:=by
 have hm:=yaQ hp
 have hn:=(h.logs nofun).nodup
 have r:=BrRest.step h M (h.ll _ hm)
 obtain ⟨l1,l2,l3,l4,l5,l6,l7,l8⟩:=r.low
 have hq:∀ q ∈ put V.LP p ⟨v.p,L',F'⟩,q = (p,⟨v.p,L',F'⟩) ∨ q ∈ V.LP ∧ q.1 ≠ p:=fun q hq => yqH hn hq
 refine ⟨{ cell:=fun _ => r.cell nofun,lb:=r.lb,cat:=fun _ => r.cat nofun,lc:=r.lc,logs:=fun _ => (r.logs nofun).sameV (yuN hn hp rfl),lm:=r.lm,log:=fun q hq' _ => ?_,ll:=fun q hq' => ?_,ded:=fun _ => r.ded nofun,lk:=r.lk,gs:=fun _ => r.gs nofun,lg:=r.lg,grp:=fun q hq _ => r.grp q hq nofun,lgr:=r.lgr,off:=fun _ => r.off nofun,lo:=r.lo,low:=⟨l1,l2,l3,l4,l5,l6,fun q hq' => ?_,l8⟩ },M.less fun z hz _ => yaD.2 (.inr (.inr (.inr (.inr (.inr (.inr (.inl ⟨_,hm,hz⟩))))))),fun z hz => ?_⟩
 ·rcases hq q hq' with rfl | ⟨h1,h2⟩
  ·exact hT
  ·exact r.log q h1 fun e => h2 (by injection e with e; exact e.symm)
 ·rcases hq q hq' with rfl | ⟨h1,h2⟩
  ·exact yeW (h.ll _ hm) G
  ·exact r.ll q h1
 ·rcases hq q hq' with rfl | ⟨h1,h2⟩
  ·exact hT.lt
  ·exact l7 q h1
 rcases yaD.1 hz with h1 | h1 | h1 | h1 | h1 | h1 | ⟨q,hq',h1⟩ | h1
 ·exact .inl (yaD.2 (.inl h1))
 ·exact .inl (yaD.2 (.inr (.inl h1)))
 ·exact .inl (yaD.2 (.inr (.inr (.inl h1))))
 ·exact .inl (yaD.2 (.inr (.inr (.inr (.inl h1)))))
 ·exact .inl (yaD.2 (.inr (.inr (.inr (.inr (.inl h1))))))
 ·exact .inl (yaD.2 (.inr (.inr (.inr (.inr (.inr (.inl h1)))))))
 ·rcases hq q hq' with rfl | ⟨h2,_⟩
  ·exact (G z h1).imp_left fun h1 => yaD.2 (.inr (.inr (.inr (.inr (.inr (.inr (.inl ⟨_,hm,h1⟩)))))))
  ·exact .inl (yaD.2 (.inr (.inr (.inr (.inr (.inr (.inr (.inl ⟨_,h2,h1⟩))))))))
 ·exact .inl (yaD.2 (.inr (.inr (.inr (.inr (.inr (.inr (.inr h1))))))))
theorem yc3.setGrp {w w':World} {b:Nat} {V:BrV} (h:yc3 w b V) {g:ByteArray} {v:GrpV} (hp:lkp V.GP g = some v) {gen':Int} {rb':Bool} {G':GL} {F':List Nat} (M:Mod v.F w w') (hT:ycP w' v.p gen' rb' G' F') (G:ybG w v.F F') :
  BrStep w w' b V { V with GP:=put V.GP g ⟨v.p,gen',rb',G',F'⟩,lab:=relab w V.lab (.grp g) }:=by
 have hm:=yaQ hp
 have hn:=(h.gs nofun).nodup
 have r:=BrRest.step h M (h.lgr _ hm)
 obtain ⟨l1,l2,l3,l4,l5,l6,l7,l8⟩:=r.low
 have hq:∀ q ∈ put V.GP g ⟨v.p,gen',rb',G',F'⟩,q = (g,⟨v.p,gen',rb',G',F'⟩) ∨ q ∈ V.GP ∧ q.1 ≠ g:=fun q hq => yqH hn hq
 refine ⟨{ cell:=fun _ => r.cell nofun,lb:=r.lb,cat:=fun _ => r.cat nofun,lc:=r.lc,logs:=fun _ => r.logs nofun,lm:=r.lm,log:=fun q hq _ => r.log q hq nofun,ll:=r.ll,ded:=fun _ => r.ded nofun,lk:=r.lk,gs:=fun _ => (r.gs nofun).sameV (yuN hn hp rfl),lg:=r.lg,grp:=fun q hq' _ => ?_,lgr:=fun q hq' => ?_,off:=fun _ => r.off nofun,lo:=r.lo,low:=⟨l1,l2,l3,l4,l5,l6,l7,fun q hq' => ?_⟩ },M.less fun z hz _ => yaD.2 (.inr (.inr (.inr (.inr (.inr (.inr (.inr ⟨_,hm,hz⟩))))))),fun z hz => ?_⟩
 ·rcases hq q hq' with rfl | ⟨h1,h2⟩
  ·exact hT
  ·exact r.grp q h1 fun e => h2 (by injection e with e; exact e.symm)
 ·rcases hq q hq' with rfl | ⟨h1,h2⟩
  ·exact yeW (h.lgr _ hm) G
  ·exact r.lgr q h1
 ·rcases hq q hq' with rfl | ⟨h1,h2⟩
  ·exact hT.lt
  ·exact l8 q h1
 rcases yaD.1 hz with h1 | h1 | h1 | h1 | h1 | h1 | h1 | ⟨q,hq',h1⟩
 ·exact .inl (yaD.2 (.inl h1))
 ·exact .inl (yaD.2 (.inr (.inl h1)))
 ·exact .inl (yaD.2 (.inr (.inr (.inl h1))))
 ·exact .inl (yaD.2 (.inr (.inr (.inr (.inl h1)))))
 ·exact .inl (yaD.2 (.inr (.inr (.inr (.inr (.inl h1))))))
 ·exact .inl (yaD.2 (.inr (.inr (.inr (.inr (.inr (.inl h1)))))))
 ·exact .inl (yaD.2 (.inr (.inr (.inr (.inr (.inr (.inr (.inl h1))))))))
 ·rcases hq q hq' with rfl | ⟨h2,_⟩
  ·exact (G z h1).imp_left fun h1 => yaD.2 (.inr (.inr (.inr (.inr (.inr (.inr (.inr ⟨_,hm,h1⟩)))))))
  ·exact .inl (yaD.2 (.inr (.inr (.inr (.inr (.inr (.inr (.inr ⟨_,h2,h1⟩))))))))
theorem yc3.addLog {w w1 w':World} {b:Nat} {V:BrV} (h:yc3 w b V) {p:PPart} (hp:lkp V.LP p = none) {v:LogV} (M1:Mod [] w w1) (hT:yc6 w1 v.p V.room v.L v.F) (hF:∀ k ∈ v.F,w.heap.size ≤ k) (M2:Mod [V.ml] w1 w') (hM:yaS pP 33 hkp LogV.v w' V.ml (put V.LP p v)) :
  BrStep w w' b V { V with LP:=put V.LP p v,lab:=relab w V.lab (.log p) }:=by
 obtain ⟨l1,l2,l3,l4,l5,l6,l7,l8⟩:=h.low
 have s1:=M1.size
 have s2:=M2.size
 have hn:=(h.logs nofun).nodup
 have r:=BrRest.step (i:=.lm) h (S:=[V.ml]) ((M1.trans M2).less fun z hz _ => by simpa using hz) (by simp [h.lm])
 have hmem:∀ q ∈ put V.LP p v,q = (p,v) ∨ q ∈ V.LP:=fun q hq => yd2 hq
 have hmF:V.ml ∉ v.F:=fun hk => by have:=hF _ hk; omega
 have old:∀ {k:Nat},k < w.heap.size → relab w V.lab (.log p) k = V.lab k:=fun hk => ycJ hk
 refine ⟨{ cell:=fun _ => r.cell nofun,lb:=(old l1).trans h.lb,cat:=fun _ => r.cat nofun,lc:=fun k hk => (old (l4 k hk)).trans (h.lc k hk),logs:=fun _ => hM,lm:=(old l2).trans h.lm,log:=fun q hq' _ => ?_,ll:=fun q hq' => ?_,ded:=fun _ => r.ded nofun,lk:=fun k hk => (old (l5 k hk)).trans (h.lk k hk),gs:=fun _ => r.gs nofun,lg:=(old l3).trans h.lg,grp:=fun q hq _ => r.grp q hq nofun,lgr:=fun q hq k hk => (old (l8 q hq k hk)).trans (h.lgr q hq k hk),off:=fun _ => r.off nofun,lo:=fun k hk => (old (l6 k hk)).trans (h.lo k hk),low:=⟨r.low.1,r.low.2.1,r.low.2.2.1,r.low.2.2.2.1,r.low.2.2.2.2.1,r.low.2.2.2.2.2.1,fun q hq' => ?_,r.low.2.2.2.2.2.2.2⟩ },(M1.trans M2).less fun z hz _ => yaD.2 (.inr (.inl (by simpa using hz))),fun z hz => ?_⟩
 ·rcases hmem q hq' with rfl | h1
  ·exact hT.keep M2 fun k hk hk' => by simp at hk; subst hk; exact hmF hk'
  ·exact r.log q h1 nofun
 ·rcases hmem q hq' with rfl | h1
  ·exact yuM hF
  ·exact fun k hk => (old (l7 q h1 k hk)).trans (h.ll q h1 k hk)
 ·rcases hmem q hq' with rfl | h1
  ·exact fun k hk => by have:=hT.lt k hk; omega
  ·exact r.low.2.2.2.2.2.2.1 q h1
 rcases yaD.1 hz with h1 | h1 | h1 | h1 | h1 | h1 | ⟨q,hq',h1⟩ | h1
 ·exact .inl (yaD.2 (.inl h1))
 ·exact .inl (yaD.2 (.inr (.inl h1)))
 ·exact .inl (yaD.2 (.inr (.inr (.inl h1))))
 ·exact .inl (yaD.2 (.inr (.inr (.inr (.inl h1)))))
 ·exact .inl (yaD.2 (.inr (.inr (.inr (.inr (.inl h1))))))
 ·exact .inl (yaD.2 (.inr (.inr (.inr (.inr (.inr (.inl h1)))))))
 ·rcases hmem q hq' with rfl | h2
  ·exact .inr (hF z h1)
  ·exact .inl (yaD.2 (.inr (.inr (.inr (.inr (.inr (.inr (.inl ⟨_,h2,h1⟩))))))))
 ·exact .inl (yaD.2 (.inr (.inr (.inr (.inr (.inr (.inr (.inr h1))))))))
theorem yc3.addGrp {w w1 w':World} {b:Nat} {V:BrV} (h:yc3 w b V) {g:ByteArray} (hp:lkp V.GP g = none) {v:GrpV} (M1:Mod [] w w1) (hT:ycP w1 v.p v.gen v.robin v.G v.F) (hF:∀ k ∈ v.F,w.heap.size ≤ k) (M2:Mod [V.mg] w1 w') (hM:yaS pP 9 hks GrpV.v w' V.mg (put V.GP g v)) :
  BrStep w w' b V { V with GP:=put V.GP g v,lab:=relab w V.lab (.grp g) }:=by
 obtain ⟨l1,l2,l3,l4,l5,l6,l7,l8⟩:=h.low
 have s1:=M1.size
 have s2:=M2.size
 have r:=BrRest.step (i:=.gm) h (S:=[V.mg]) ((M1.trans M2).less fun z hz _ => by simpa using hz) (by simp [h.lg])
 have hmem:∀ q ∈ put V.GP g v,q = (g,v) ∨ q ∈ V.GP:=fun q hq => yd2 hq
 have hmF:V.mg ∉ v.F:=fun hk => by have:=hF _ hk; omega
 have old:∀ {k:Nat},k < w.heap.size → relab w V.lab (.grp g) k = V.lab k:=fun hk => ycJ hk
 refine ⟨{ cell:=fun _ => r.cell nofun,lb:=(old l1).trans h.lb,cat:=fun _ => r.cat nofun,lc:=fun k hk => (old (l4 k hk)).trans (h.lc k hk),logs:=fun _ => r.logs nofun,lm:=(old l2).trans h.lm,log:=fun q hq' _ => r.log q hq' nofun,ll:=fun q hq k hk => (old (l7 q hq k hk)).trans (h.ll q hq k hk),ded:=fun _ => r.ded nofun,lk:=fun k hk => (old (l5 k hk)).trans (h.lk k hk),gs:=fun _ => hM,lg:=(old l3).trans h.lg,grp:=fun q hq' _ => ?_,lgr:=fun q hq' => ?_,off:=fun _ => r.off nofun,lo:=fun k hk => (old (l6 k hk)).trans (h.lo k hk),low:=⟨r.low.1,r.low.2.1,r.low.2.2.1,r.low.2.2.2.1,r.low.2.2.2.2.1,r.low.2.2.2.2.2.1,r.low.2.2.2.2.2.2.1,fun q hq' => ?_⟩ },(M1.trans M2).less fun z hz _ => yaD.2 (.inr (.inr (.inl (by simpa using hz)))),fun z hz => ?_⟩
 ·rcases hmem q hq' with rfl | h1
  ·exact hT.keep M2 fun k hk hk' => by simp at hk; subst hk; exact hmF hk'
  ·exact r.grp q h1 nofun
 ·rcases hmem q hq' with rfl | h1
  ·exact yuM hF
  ·exact fun k hk => (old (l8 q h1 k hk)).trans (h.lgr q h1 k hk)
 ·rcases hmem q hq' with rfl | h1
  ·exact fun k hk => by have:=hT.lt k hk; omega
  ·exact r.low.2.2.2.2.2.2.2 q h1
 rcases yaD.1 hz with h1 | h1 | h1 | h1 | h1 | h1 | h1 | ⟨q,hq',h1⟩
 ·exact .inl (yaD.2 (.inl h1))
 ·exact .inl (yaD.2 (.inr (.inl h1)))
 ·exact .inl (yaD.2 (.inr (.inr (.inl h1))))
 ·exact .inl (yaD.2 (.inr (.inr (.inr (.inl h1)))))
 ·exact .inl (yaD.2 (.inr (.inr (.inr (.inr (.inl h1))))))
 ·exact .inl (yaD.2 (.inr (.inr (.inr (.inr (.inr (.inl h1)))))))
 ·exact .inl (yaD.2 (.inr (.inr (.inr (.inr (.inr (.inr (.inl h1))))))))
 ·rcases hmem q hq' with rfl | h2
  ·exact .inr (hF z h1)
  ·exact .inl (yaD.2 (.inr (.inr (.inr (.inr (.inr (.inr (.inr ⟨_,h2,h1⟩))))))))
end Go.Proofs.YteldhjiiocmicaaGreat
namespace Go.Proofs.YteldhjiiocmicaaGreat
open Go Go.RowKit Go.Maps Go.MapKept
set_option linter.unusedVariables false
set_option linter.unusedSimpArgs false
theorem ygS {κ β:Type} [DecidableEq κ]:∀ {L:List (κ × β)} {k:κ} {v:β},lkp L k = some v → put L k v = L
 | [],_,_,h => by cases h
 | p :: r,k,v,h => by
  unfold lkp at h
  unfold put
  split at h
  ·rename_i e
   rw [if_pos e]
   cases h; subst e; rfl
  ·rename_i e
   rw [if_neg e,ygS h]
def ygE (e:Int):PRep:=⟨e,0,0,0,[],[]⟩
def ycG (s:PBr) (p:PPart):List SegS:=(lkp s.logs p).getD []
def ya5 (s:PBr) (g:ByteArray):PGrp:=(lkp s.groups g).getD ⟨0,false,[]⟩
def ywZ (s:PBr) (p:PPart) (L:List SegS):PBr:={ s with logs:=put s.logs p L }
def ygT (s:PBr) (g:ByteArray) (x:PGrp):PBr:={ s with groups:=put s.groups g x }
def ydW (t:ByteArray):Nat → List (PPart × List SegS) → List (PPart × List SegS)
 | 0,L => L
 | n + 1,L => put (ydW t n L) ⟨t,(n:Int)⟩ ytH
def ypG (s:PBr) (o:POp):PBr × PRep :=
 if yh2 s.cat o.part.t o.n = 0 then ({ s with cat:=put s.cat o.part.t o.n,logs:=ydW o.part.t o.n.toNat s.logs },ygE 0) else (s,ygE (yh2 s.cat o.part.t o.n))
def ygU (s:PBr) (o:POp):PBr × PRep :=
 ({ s with eps:=yf6 s.eps o.n,dd:=ym1 s.eps s.dd o.n },if (yeP s.eps o.n).2.2 = 0 then ⟨0,0,(yeP s.eps o.n).1,(yeP s.eps o.n).2.1,[],[]⟩ else ygE (yeP s.eps o.n).2.2)
def yi8 (s:PBr) (o:POp):PBr × PRep :=
 if (yhL s.eps s.dd o.part o.b).2.2 ≠ 0 then (s,ygE (yhL s.eps s.dd o.part o.b).2.2)
 else if (yhL s.eps s.dd o.part o.b).2.1 = true then (s,⟨0,(yhL s.eps s.dd o.part o.b).1,1,0,[],[]⟩)
 else if yn0 s.room (ycG s o.part) o.b.recs ≠ 0 then (s,ygE (yn0 s.room (ycG s o.part) o.b.recs))
 else ({ s with logs:=put s.logs o.part (ygO s.room (ycG s o.part) o.b.recs),dd:=ym2 s.eps s.dd o.part o.b (yfO (ycG s o.part)) },⟨0,yfO (ycG s o.part),0,0,[],[]⟩)
def yzB (s:PBr) (o:POp):PBr × PRep :=
 (s,if ydC (ycG s o.part) o.off = 0 then ⟨0,yfO (ycG s o.part),yk0 (ycG s o.part),0,yjW (ycG s o.part) o.off (if 64 < o.n then 64 else o.n),[]⟩ else ygE (ydC (ycG s o.part) o.off))
def yqT (s:PBr) (o:POp):PBr × PRep :=
 ({ s with logs:=put s.logs o.part ((ycG s o.part).drop (yv5 (ycG s o.part) o.off)),marks:=yo1 s.marks o.part (yk0 ((ycG s o.part).drop (yv5 (ycG s o.part) o.off))) },
  ⟨0,yk0 ((ycG s o.part).drop (yv5 (ycG s o.part) o.off)),(yv5 (ycG s o.part) o.off:Nat),0,[],[]⟩)
def ylQ (s:PBr) (o:POp):PBr × PRep:=(ywZ s o.part (yn5 (ycG s o.part)).2.2,⟨0,0,(yn5 (ycG s o.part)).2.1,0,[],[]⟩)
def yfU (s:PBr) (o:POp):PBr × PRep:=(s,if (lkp s.marks (o.g,o.part)).isSome = true then ⟨0,(lkp s.marks (o.g,o.part)).getD 0,1,0,[],[]⟩ else ygE 0)
def yc9 (s:PBr) (o:POp):PSeat:=⟨o.m,o.topics,o.n,s.now⟩
def yD1 (s:PBr) (o:POp):PBr × PRep :=
 if (lkp s.groups o.g).isSome = false ∧ 8 ≤ s.groups.length then (s,ygE 2)
 else if ybA (ya5 s o.g).gen (ya5 s o.g).robin (ya5 s o.g).G (yc9 s o) o.robin ≠ 0 then (s,ygE (ybA (ya5 s o.g).gen (ya5 s o.g).robin (ya5 s o.g).G (yc9 s o) o.robin))
 else (ygT s o.g ⟨IntKind.wrap .i64 ((ya5 s o.g).gen + 1),o.robin,put (ya5 s o.g).G o.m (yc9 s o)⟩,⟨0,0,0,IntKind.wrap .i64 ((ya5 s o.g).gen + 1),[],[]⟩)
def yFD (s:PBr) (o:POp):PBr × PRep :=
 (ygT s o.g ⟨(ya5 s o.g).gen,(ya5 s o.g).robin,if yn2 (ya5 s o.g).gen (ya5 s o.g).G o.m o.gen s.now = 0 then yAs (ya5 s o.g).G o.m s.now else (ya5 s o.g).G⟩,ygE (yn2 (ya5 s o.g).gen (ya5 s o.g).G o.m o.gen s.now))
def yzC (s:PBr) (o:POp):PBr × PRep :=
 (ygT s o.g ⟨if ybM (ya5 s o.g).gen (ya5 s o.g).G o.m o.gen = 0 then yn1 (ya5 s o.g).gen else (ya5 s o.g).gen,(ya5 s o.g).robin,if ybM (ya5 s o.g).gen (ya5 s o.g).G o.m o.gen = 0 then del (ya5 s o.g).G o.m else (ya5 s o.g).G⟩,ygE (ybM (ya5 s o.g).gen (ya5 s o.g).G o.m o.gen))
def ycY (s:PBr) (o:POp):Int × List PPart:=ycF (ya5 s o.g).gen (ya5 s o.g).robin (ya5 s o.g).G (ycR s.cat) o.m o.gen
def ybY (s:PBr) (o:POp):PRep:=if (ycY s o).1 = 0 then ⟨0,0,0,0,[],(ycY s o).2⟩ else ygE (ycY s o).1
def ygV (s:PBr) (o:POp):PBr × PRep :=
 if (ycY s o).1 ≠ 0 then (s,ygE (ycY s o).1) else if (ycY s o).2.any (fun q => decide (o.part = q)) = false then (s,ygE 130)
 else if o.off > yfO (ycG s o.part) then (s,ygE 61)
 else ({ s with marks:=if ymZ s.marks ⟨o.g,o.part,o.off⟩ = 0 then put s.marks (o.g,o.part) o.off else s.marks },ygE (ymZ s.marks ⟨o.g,o.part,o.off⟩))
def yIf (now:Int) (x:PGrp):PGrp:=⟨if 0 < yfR now x.G then yn1 x.gen else x.gen,x.robin,yn3 now x.G⟩
def yD2 (now:Int) (l:List (ByteArray × PGrp)):Nat:=(l.map fun q => yfR now q.2.G).sum
def yD3 (s:PBr) (o:POp):PBr × PRep :=
 if s.now + o.n > 1099511627776 then (s,ygE 2)
 else ({ s with now:=s.now + o.n,groups:=s.groups.map fun q => (q.1,yIf (s.now + o.n) q.2) },⟨0,s.now + o.n,(yD2 (s.now + o.n) s.groups:Nat),0,[],[]⟩)
def ylD (s:PBr) (o:POp):PBr × PRep :=
 if o.kind = 0 then ypG s o else if o.kind = 1 then ygU s o else if o.kind = 2 then yi8 s o else if o.kind = 3 then yzB s o else if o.kind = 4 then yqT s o else if o.kind = 5 then ylQ s o
 else if o.kind = 6 then yD1 s o else if o.kind = 7 then yFD s o else if o.kind = 8 then yzC s o else if o.kind = 9 then (s,ybY s o) else if o.kind = 10 then ygV s o else if o.kind = 11 then yfU s o else yD3 s o
def ygW (k:Int):Bool:=decide (k = 2 ∨ k = 3 ∨ k = 4 ∨ k = 5 ∨ k = 11)
def yu1 (k:Int):Bool:=decide (k = 7 ∨ k = 8 ∨ k = 9 ∨ k = 10)
def doF (s:PBr) (o:POp):PBr × PRep :=
 if opE o ≠ 0 then (s,ygE (opE o)) else if ygW o.kind = true ∧ ygP s.cat o.part = false then (s,ygE 91) else if yu1 o.kind = true ∧ (lkp s.groups o.g).isSome = false then (s,ygE 110) else ylD s o
structure BrGood (s:PBr) (N:Nat):Prop where
 r1:1 ≤ s.room
 r2:s.room ≤ 64
 n0:0 ≤ s.now
 n1:s.now ≤ 1099511627776
 cl:s.cat.length ≤ 8
 ce:s.eps.length ≤ N
 cd:s.dd.length ≤ N
 cq:∀ q ∈ s.dd,q.2.length ≤ 5
 cg:s.groups.length ≤ 8
 gg:∀ q ∈ s.groups,q.2.G.length ≤ 8 ∧ ∀ x ∈ q.2.G,x.2.topics.length ≤ 8
 lg:∀ q ∈ s.logs,LogOk s.room q.2 ∧ q.2.length ≤ N + 1 ∧ ∀ x ∈ q.2,∀ f ∈ x.l,f.r.key.size ≤ 64
 cm:s.marks.length ≤ N
 has:∀ p,ygP s.cat p = true → (lkp s.logs p).isSome = true
 cat:∀ p,(lkp s.logs p).isSome = true → (lkp s.cat p.t).isSome = true
 nN:N ≤ 900
structure OpFine (o:POp):Prop where
 pt:o.part.t.size ≤ 16
 g:o.g.size ≤ 16
 m:o.m.size ≤ 16
 pn:num o.part.n = true
 n:num o.n = true
 off:num o.off = true
 gen:num o.gen = true
 bp:s64 o.b.prod
theorem OpFine.s {o:POp} (h:OpFine o):o.part.t.size ≤ maxLen ∧ o.g.size ≤ maxLen ∧ o.m.size ≤ maxLen:=by
 have:=h.pt; have:=h.g; have:=h.m
 unfold maxLen; omega
def yaX (w:World) (b:Nat) (V:BrV) (r:PBr × PRep) (v:Value) (w':World):Prop :=
 ∃ (V':BrV) (fs ps:Sl),v = r.2.v fs ps ∧ BrStep w w' b V V' ∧ V'.st = r.1 ∧ Row w' w.heap.size 76 5 yjH fs.a fs.n fs.c r.2.found ∧ Row w' w.heap.size 33 2 yiH ps.a ps.n ps.c r.2.parts ∧ ∀ z ∈ V'.foot b,z ∉ yaN fs.a ∧ z ∉ yaN ps.a
theorem yD4 {b:Nat} {V:BrV}:∀ z ∈ V.foot b,z ∉ yaN ya8.a ∧ z ∉ yaN ya8.a:=fun z _ => by simp [ya8,yaN]
theorem yaX.plain {w w':World} {b:Nat} {V V':BrV} {s:PBr} {r:PRep} {v:Value} (hv:v = r.v ya8 ya8) (hS:BrStep w w' b V V') (hst:V'.st = s) (h1:r.found = []) (h2:r.parts = []):yaX w b V (s,r) v w' :=
 ⟨V',ya8,ya8,hv,hS,hst,by rw [h1]; exact Row.nil ..,by rw [h2]; exact Row.nil ..,yD4⟩
theorem ybU (e:Int) (w:World):Calls pP 17 #[.int .i64 e] w fun x w' => x = .returned ((ygE e).v ya8 ya8) ∧ Mod [] w w' :=
 ya0 (yKd fun b2 f2 w3 A3 => ⟨rfl,A3.mod⟩)
structure Own2 (w w5:World) (b3 b4:Nat):Prop where
 m:Mod [] w w5
 f3:w.heap.size ≤ b3
 l3:b3 < w5.heap.size
 f4:w.heap.size ≤ b4
 l4:b4 < w5.heap.size
theorem Own2.of {w w5:World} {b3 b4:Nat} (f3:w.heap.size ≤ b3) (f4:w.heap.size ≤ b4) (A:Adv [] [b4,b3] w w5):Own2 w w5 b3 b4:=⟨A.mod,f3,A.lt b3 (by simp),f4,A.lt b4 (by simp)⟩
theorem Own2.out {w w5:World} {b3 b4 b:Nat} {V V':BrV} (q:Own2 w w5 b3 b4) (h:yc3 w b V) (gr:ybG w5 (V.foot b) (V'.foot b)):b3 ∉ V'.foot b ∧ b4 ∉ V'.foot b:=by
 have:=q.f3; have:=q.f4; have:=q.l3; have:=q.l4
 refine ⟨fun hk => ?_,fun hk => ?_⟩ <;> rcases gr _ hk with hk | hk
 ·have:=h.lt _ hk; omega
 ·omega
 ·have:=h.lt _ hk; omega
 ·omega
theorem Own2.keep {w w5 w6 w7:World} {b3 b4 b:Nat} {V V':BrV} (q:Own2 w w5 b3 b4) (h:yc3 w b V) (S:BrStep w5 w6 b V V') {F es:List Nat} {ts:List (Nat × TypeId)} (M:Mod F w6 w7) (hF:∀ k ∈ F,k ∈ V'.foot b) {i:BLab} (hl:∀ k ∈ F,V'.lab k = i) (hi:i ≠ .br):yaV es ts [b,b3,b4] w6 w7 :=
 yaF.of M fun z hz _ hz' => by
  have ⟨o3,o4⟩:=q.out h S.gr
  simp only [List.mem_cons,List.not_mem_nil,or_false] at hz
  rcases hz with rfl | rfl | rfl
  ·exact hi ((hl _ hz').symm.trans S.ok.lb)
  ·exact o3 (hF _ hz')
  ·exact o4 (hF _ hz')
theorem yaX.fin {w w5 w6 w7:World} {b b3 b4:Nat} {V V':BrV} {s:PBr} {r:PRep} {v:Value} (q:Own2 w w5 b3 b4) (h:yc3 w b V) (S:BrStep w5 w6 b V V') (M:Mod [b4] w6 w7) (hst:V'.st = s) (fs ps:Sl) (hv:v = r.v fs ps)
  (hf:Row w6 w5.heap.size 76 5 yjH fs.a fs.n fs.c r.found) (hp:Row w6 w5.heap.size 33 2 yiH ps.a ps.n ps.c r.parts) (hx:∀ z ∈ V'.foot b,z ∉ yaN fs.a ∧ z ∉ yaN ps.a):yaX w b V (s,r) v w7:=by
 have ⟨o3,o4⟩:=q.out h S.gr
 have f4:=q.f4
 have l4:=q.l4
 have s5:=q.m.size
 have out:∀ {a:Option Addr},(∀ z ∈ yaN a,w5.heap.size ≤ z) → ∀ z ∈ [b4],z ∉ yaN a:=fun ha z hz hz' => by simp at hz; subst hz; have:=ha _ hz'; omega
 refine ⟨V',fs,ps,hv,⟨S.ok.keep M (by simp; exact o4),((q.m.trans S.mod).trans M).less fun z hz hl => ?_,fun z hz => ?_⟩,hst,(yaA hf M (out fun z hz => (yaG hf z hz).1)).rebase s5,(yaA hp M (out fun z hz => (yaG hp z hz).1)).rebase s5,hx⟩
 ·simp only [List.nil_append,List.mem_append,List.mem_cons,List.not_mem_nil,or_false] at hz
  rcases hz with hz | hz
  ·exact hz
  ·omega
 ·rcases S.gr z hz with hz | hz
  ·exact .inl hz
  ·exact .inr (by omega)
theorem yaX.fin0 {w w5 w6 w7:World} {b b3 b4:Nat} {V V':BrV} {s:PBr} {r:PRep} {v:Value} (q:Own2 w w5 b3 b4) (h:yc3 w b V) (S:BrStep w5 w6 b V V') (M:Mod [b4] w6 w7) (hst:V'.st = s) (hv:v = r.v ya8 ya8) (h1:r.found = []) (h2:r.parts = []):yaX w b V (s,r) v w7 :=
 yaX.fin q h S M hst ya8 ya8 hv (by rw [h1]; exact Row.nil ..) (by rw [h2]; exact Row.nil ..) yD4
theorem ypH {V:BrV} {p:PPart}:lkp V.st.logs p = (lkp V.LP p).map (·.L):=yfC (fun q:LogV => q.L) V.LP p
theorem ynH {V:BrV} {g:ByteArray}:lkp V.st.groups g = (lkp V.GP g).map (·.x):=yfC (fun q:GrpV => q.x) V.GP g
theorem yhC {V:BrV} {p:PPart} {v:LogV} (h:lkp V.LP p = some v):ycG V.st p = v.L:=by rw [ycG,ypH,h]; rfl
theorem yhD {V:BrV} {g:ByteArray} {v:GrpV} (h:lkp V.GP g = some v):ya5 V.st g = v.x:=by rw [ya5,ynH,h]; rfl
theorem ygX {V:BrV} {p:PPart} {v:LogV}:(put V.LP p v).map (fun q => (q.1,q.2.L)) = put V.st.logs p v.L:=(yf4 (fun q:LogV => q.L) V.LP p v).symm
theorem ygY {V:BrV} {g:ByteArray} {v:GrpV}:(put V.GP g v).map (fun q => (q.1,q.2.x)) = put V.st.groups g v.x:=(yf4 (fun q:GrpV => q.x) V.GP g v).symm
theorem yzD (w:World):(zeroValue 46).run pP w = .ok (.pointer none) w:=by kernel_rfl
theorem yzE (w:World):(zeroValue 63).run pP w = .ok (.pointer none) w:=by kernel_rfl
theorem yc3.lkLog {w:World} {b:Nat} {V:BrV} (h:yc3 w b V) {p:PPart} {v:LogV} (hp:lkp V.LP p = some v) (h1:p.t.size ≤ maxLen) (h2:s64 p.n) :
  ∀ w',Mod [] w w' → (Instr.lookup 51 (.map (some V.ml)) (hkp p) false).run pP w' = .ok (.pointer (some ⟨v.p,0,none⟩)) w':=by
 obtain ⟨l,hl⟩:=yvX h1 h2
 have:=(h.logs nofun).lkP (k:=p) (T:=51) yAh yjV Tryz.underlying51 yzD hl
 rw [hp] at this
 exact this
theorem yc3.logAt {w:World} {b:Nat} {V:BrV} (h:yc3 w b V) {p:PPart} {x:LogV} (hx:lkp V.LP p = some x):yc6 w x.p V.room x.L x.F:=h.log _ (yaQ hx) nofun
theorem yc3.grpAt {w:World} {b:Nat} {V:BrV} (h:yc3 w b V) {g:ByteArray} {x:GrpV} (hx:lkp V.GP g = some x):ycP w x.p x.gen x.robin x.G x.F:=h.grp _ (yaQ hx) nofun
theorem yc3.lkGrp {w:World} {b:Nat} {V:BrV} (h:yc3 w b V) {g:ByteArray} (h1:g.size ≤ maxLen) :
  ∀ w',Mod [] w w' → (Instr.lookup 54 (.map (some V.mg)) (hks g) false).run pP w' = .ok ((lkp V.GP g).elim (.pointer none) GrpV.v) w' :=
 (h.gs nofun).lkP (k:=g) (T:=54) ydT ybH Tryz.underlying54 yzE (ybK h1)
theorem yL4 {V:BrV} {b:Nat}:∀ k ∈ V.Fm,k ∈ V.foot b:=fun k hk => yaD.2 (.inr (.inr (.inr (.inr (.inl hk)))))
theorem yMI {V:BrV} {b:Nat}:∀ k ∈ V.Fc,k ∈ V.foot b:=fun k hk => yaD.2 (.inr (.inr (.inr (.inl hk))))
theorem yL5 {V:BrV} {b:Nat}:∀ k ∈ V.Fo,k ∈ V.foot b:=fun k hk => yaD.2 (.inr (.inr (.inr (.inr (.inr (.inl hk))))))
theorem yzF {V:BrV} {b:Nat} {p:PPart} {v:LogV} (h:lkp V.LP p = some v):∀ k ∈ v.F,k ∈ V.foot b:=fun k hk => yaD.2 (.inr (.inr (.inr (.inr (.inr (.inr (.inl ⟨_,yaQ h,hk⟩)))))))
theorem yzG {V:BrV} {b:Nat} {g:ByteArray} {v:GrpV} (h:lkp V.GP g = some v):∀ k ∈ v.F,k ∈ V.foot b:=fun k hk => yaD.2 (.inr (.inr (.inr (.inr (.inr (.inr (.inr ⟨_,yaQ h,hk⟩)))))))
theorem yuO {w:World} {b N:Nat} {V:BrV} (h:yc3 w b V) (g:BrGood V.st N) (o:POp) (rs ts:Sl) :
  Calls pP 19 #[.pointer (some ⟨b,0,none⟩),o.v rs ts] w fun e w' => ∃ v,e = .returned v ∧ yaX w b V (ygU V.st o) v w':=by
 refine yH4 (h.cell nofun) ?_
 intro b3 f3 b4 f4 w5 A5
 have q:=Own2.of f3 f4 A5
 have h5:=h.keep0 A5.mod
 have hce:V.eps.length ≤ N:=g.ce
 have hcd:V.dd.length ≤ N:=g.cd
 have hN:=g.nN
 refine (yAo (h5.ded nofun) (by omega) (by omega) o.n).mono ?_
 rintro _ w6 ⟨rfl,F',hD,M6,G6⟩
 have S:=h5.setMk M6 hD G6
 refine ⟨_,_,_,rfl,q.keep h (BrStep.refl h5 (Mod.refl _)) M6 yL4 h.lk nofun,yaE (fun g1 => ?_) fun g1 => ?_⟩
 ·have g1:(yeP V.eps o.n).2.2 ≠ 0:=by simpa using g1
  refine (ybU _ w6).mono ?_
  rintro _ w21 ⟨rfl,M21⟩
  refine ⟨_,_,_,_,_,_,_,_,_,_,rfl,yaF.of0 M21,?_⟩
  intro w32 A32 _
  unfold ygU
  rw [if_neg (show ¬ (yeP V.st.eps o.n).2.2 = 0 from g1)]
  exact yaX.fin0 q h (S.after0 M21) A32.mod rfl rfl rfl rfl
 ·have g1:(yeP V.eps o.n).2.2 = 0:=by simpa using g1
  intro w33 A33 _
  unfold ygU
  rw [if_pos (show (yeP V.st.eps o.n).2.2 = 0 from g1)]
  exact yaX.fin0 q h S A33.mod rfl rfl rfl rfl
theorem yqU {w:World} {b N:Nat} {V:BrV} (h:yc3 w b V) (g:BrGood V.st N) {o:POp} (ho:OpFine o) (rs ts:Sl) :
  Calls pP 25 #[.pointer (some ⟨b,0,none⟩),o.v rs ts] w fun e w' => ∃ v,e = .returned v ∧ yaX w b V (yfU V.st o) v w':=by
 obtain ⟨z1,z2,z3⟩:=ho.s
 refine yH9 (h.cell nofun) ?_
 intro b3 f3 b4 f4 w5 A5
 have q:=Own2.of f3 f4 A5
 have h5:=h.keep0 A5.mod
 refine (yC5 (h5.off nofun) z2 z1 (yeG ho.pn)).mono ?_
 rintro _ w6 ⟨rfl,M6⟩
 have S:=BrStep.refl h5 M6
 refine ⟨_,_,rfl,yaF.of0 M6,yaE (fun g1 => ?_) fun g1 => ?_⟩
 ·have g1:(lkp V.marks (o.g,o.part)).isSome = false:=by simpa using g1
  intro w9 A9 _
  unfold yfU
  rw [if_neg (show ¬ (lkp V.st.marks (o.g,o.part)).isSome = true by rw [show V.st.marks = V.marks from rfl,g1]; decide)]
  exact yaX.fin0 q h S A9.mod rfl rfl rfl rfl
 ·have g1:(lkp V.marks (o.g,o.part)).isSome = true:=by simpa using g1
  intro w10 A10 _
  unfold yfU
  rw [if_pos (show (lkp V.st.marks (o.g,o.part)).isSome = true from g1)]
  exact yaX.fin0 q h S A10.mod rfl rfl rfl rfl
theorem BrGood.log {V:BrV} {N:Nat} (g:BrGood V.st N) {p:PPart} {v:LogV} (hp:lkp V.LP p = some v):LogOk V.room v.L ∧ v.L.length ≤ N + 1 ∧ ∀ x ∈ v.L,∀ f ∈ x.l,f.r.key.size ≤ 64 :=
 g.lg (p,v.L) (List.mem_map.2 ⟨_,yaQ hp,rfl⟩)
theorem yD5 {w:World} {b N:Nat} {V:BrV} (h:yc3 w b V) (g:BrGood V.st N) {o:POp} (ho:OpFine o) {x:LogV} (hx:lkp V.LP o.part = some x) (rs ts:Sl) :
  Calls pP 22 #[.pointer (some ⟨b,0,none⟩),o.v rs ts] w fun e w' => ∃ v,e = .returned v ∧ yaX w b V (yzB V.st o) v w':=by
 obtain ⟨z1,z2,z3⟩:=ho.s
 have hN:=g.nN
 obtain ⟨k1,k2,k3⟩:=g.log hx
 have hon:=yeG ho.n
 unfold s64 at hon
 refine yH6 (h.cell nofun) ?_
 intro b3 f3 b4 f4 w5 A5
 have q:=Own2.of f3 f4 A5
 have h5:=h.keep0 A5.mod
 refine ⟨_,h5.lkLog hx z1 (yeG ho.pn),?_⟩
 intro w13 A13
 have h13:=h5.keep0 A13.mod
 have s13:=A13.mod.size
 refine (yAl (h13.logAt hx) k1 (by omega) o.off (if 64 < o.n then 64 else o.n) (by split <;> omega)).mono ?_
 rintro _ w14 ⟨_,rfl,s',rfl,hR,M14⟩
 have h14:=h13.keep0 M14
 refine ⟨_,_,_,_,rfl,yaF.of0 M14,yaE (fun g1 => ?_) fun g1 => ?_⟩
 ·have g1:ydC x.L o.off ≠ 0:=by simpa using g1
  refine (ybU _ w14).mono ?_
  rintro _ w30 ⟨rfl,M30⟩
  refine ⟨_,_,_,_,_,_,_,_,_,_,rfl,yaF.of0 M30,?_⟩
  intro w41 A41 _
  unfold yzB
  rw [yhC hx,if_neg g1]
  exact yaX.fin0 q h (((BrStep.refl h5 A13.mod).after0 M14).after0 M30) A41.mod rfl rfl rfl rfl
 ·have g1:ydC x.L o.off = 0:=by simpa using g1
  rw [if_pos g1] at hR
  refine (yfQ (h14.logAt hx) k1 (by omega)).mono ?_
  rintro _ w45 ⟨rfl,M45⟩
  refine ⟨_,_,rfl,yaF.of0 M45,?_⟩
  intro w48 A48 _
  unfold yzB
  rw [yhC hx,if_pos g1]
  exact yaX.fin q h (((BrStep.refl h5 A13.mod).after0 M14).after0 M45) A48.mod rfl s' ya8 rfl ((hR.keep0 M45).rebase s13) (Row.nil ..) fun z hz => ⟨fun hz' => by have:=(yaG hR z hz').1; have:=h13.lt z hz; omega,by simp [ya8,yaN]⟩
theorem yAK {w:World} {b N:Nat} {V:BrV} (h:yc3 w b V) (g:BrGood V.st N) {o:POp} (ho:OpFine o) {x:LogV} (hx:lkp V.LP o.part = some x) (rs ts:Sl) :
  Calls pP 23 #[.pointer (some ⟨b,0,none⟩),o.v rs ts] w fun e w' => ∃ v,e = .returned v ∧ yaX w b V (yqT V.st o) v w':=by
 obtain ⟨z1,z2,z3⟩:=ho.s
 have hN:=g.nN
 have hmk:V.marks.length ≤ N:=g.cm
 obtain ⟨k1,k2,k3⟩:=g.log hx
 refine yH7 (h.cell nofun) ?_
 intro b3 f3 b4 f4 w5 A5
 have q:=Own2.of f3 f4 A5
 have h5:=h.keep0 A5.mod
 refine ⟨_,h5.lkLog hx z1 (yeG ho.pn),?_⟩
 intro w10 A10
 have h10:=h5.keep0 A10.mod
 refine (ytN (h10.logAt hx) k1 (by omega) o.off).mono ?_
 rintro _ w11 ⟨rfl,F',hL,M11,G11⟩
 have S11:=(BrStep.refl h5 A10.mod).trans (h10.setLog hx M11 hL G11)
 refine ⟨_,rfl,q.keep h (BrStep.refl h5 A10.mod) M11 (yzF hx) (h.ll _ (yaQ hx)) nofun,?_⟩
 have kd:=k1.drop (k:=yv5 x.L o.off) (by have:=yCV x.L o.off; have:=List.length_pos_iff.2 k1.ne; omega)
 refine (yfQ hL kd (by rw [List.length_drop]; omega)).mono ?_
 rintro _ w16 ⟨rfl,M16⟩
 refine ⟨_,_,rfl,yaF.of0 M16,?_⟩
 intro w19 A19
 have S19:=(S11.after0 M16).after0 A19.mod
 refine (ywA (S19.ok.off nofun) (by show V.marks.length ≤ 1000000; omega) o.part _).mono ?_
 rintro _ w20 ⟨_,rfl,n,rfl,hO,M20⟩
 have S20:=S19.trans (S19.ok.setOff M20 hO (ybG.refl _ _))
 refine ⟨_,rfl,q.keep h S19 M20 yL5 S19.ok.lo nofun,?_⟩
 intro w22 A22 _
 unfold yqT
 rw [yhC hx]
 refine yaX.fin0 q h S20 A22.mod ?_ rfl rfl rfl
 simp only [BrV.st]
 rw [ygX]; rfl
theorem yw0 {w:World} {b N:Nat} {V:BrV} (h:yc3 w b V) (g:BrGood V.st N) {o:POp} (ho:OpFine o) {x:LogV} (hx:lkp V.LP o.part = some x) (rs ts:Sl) :
  Calls pP 24 #[.pointer (some ⟨b,0,none⟩),o.v rs ts] w fun e w' => ∃ v,e = .returned v ∧ yaX w b V (ylQ V.st o) v w':=by
 obtain ⟨z1,z2,z3⟩:=ho.s
 have hN:=g.nN
 obtain ⟨k1,k2,k3⟩:=g.log hx
 refine yH8 (h.cell nofun) ?_
 intro b3 f3 b4 f4 w5 A5
 have q:=Own2.of f3 f4 A5
 have h5:=h.keep0 A5.mod
 refine ⟨_,h5.lkLog hx z1 (yeG ho.pn),?_⟩
 refine (yqS (h5.logAt hx) k1 (by omega) fun s hs f hf => by have:=k3 s hs f hf; unfold maxLen; omega).mono ?_
 rintro _ w7 ⟨rfl,F',hL,M7,G7⟩
 have S7:=h5.setLog hx M7 hL G7
 refine ⟨_,rfl,q.keep h (BrStep.refl h5 (Mod.refl _)) M7 (yzF hx) (h.ll _ (yaQ hx)) nofun,?_⟩
 intro w9 A9 _
 unfold ylQ
 rw [yhC hx]
 refine yaX.fin0 q h S7 A9.mod ?_ rfl rfl rfl
 unfold ywZ
 simp only [BrV.st]
 rw [ygX]; rfl
theorem yw1 {w:World} {b N:Nat} {V:BrV} (h:yc3 w b V) (g:BrGood V.st N) {o:POp} (ho:OpFine o) {x:LogV} (hx:lkp V.LP o.part = some x) {rs ts:Sl} (hr:∀ w',Mod (V.foot b) w w' → ybF w' 4 ymJ rs.a rs.n o.b.recs) (hrl:o.b.recs.length ≤ 1000000) :
  Calls pP 21 #[.pointer (some ⟨b,0,none⟩),o.v rs ts] w fun e w' => ∃ v,e = .returned v ∧ yaX w b V (yi8 V.st o) v w':=by
 obtain ⟨z1,z2,z3⟩:=ho.s
 have hN:=g.nN
 obtain ⟨k1,k2,k3⟩:=g.log hx
 have hcq:∀ y ∈ V.dd,y.2.length ≤ 5:=g.cq
 have hrn:rs.n = o.b.recs.length:=(hr w ((Mod.refl _).less (by simp))).1
 refine yH5 (h.cell nofun) ?_
 intro b3 f3 b4 f4 w5 A5
 have q:=Own2.of f3 f4 A5
 have h5:=h.keep0 A5.mod
 refine (ytV (h5.ded nofun) (fun y hy => by have:=hcq y hy; omega) (p:=o.part) (x:=o.b) (rs:=rs) hrn z1 (yeG ho.pn) ho.bp).mono ?_
 rintro _ w6 ⟨rfl,M6⟩
 have S6:=BrStep.refl h5 M6
 unfold yi8
 rw [yhC hx]
 refine ⟨_,_,_,rfl,yaF.of0 M6,yaE (fun g1 => ?_) fun g1 => ?_⟩
 ·have g1:(yhL V.eps V.dd o.part o.b).2.2 ≠ 0:=by simpa using g1
  refine (ybU _ w6).mono ?_
  rintro _ w21 ⟨rfl,M21⟩
  refine ⟨_,_,_,_,_,_,_,_,_,_,rfl,yaF.of0 M21,?_⟩
  intro w32 A32 _
  rw [if_pos (show (yhL V.st.eps V.st.dd o.part o.b).2.2 ≠ 0 from g1)]
  exact yaX.fin0 q h (S6.after0 M21) A32.mod rfl rfl rfl rfl
 have g1:(yhL V.eps V.dd o.part o.b).2.2 = 0:=by simpa using g1
 have g1:¬ (yhL V.st.eps V.st.dd o.part o.b).2.2 ≠ 0:=fun hh => hh g1
 rw [if_neg g1]
 refine yaE (fun g2 => ?_) fun g2 => ?_
 ·intro w33 A33 _
  rw [if_pos (show (yhL V.st.eps V.st.dd o.part o.b).2.1 = true from g2)]
  exact yaX.fin0 q h S6 A33.mod rfl rfl rfl rfl
 rw [if_neg (show ¬ (yhL V.st.eps V.st.dd o.part o.b).2.1 = true from fun hh => by rw [show (yhL V.st.eps V.st.dd o.part o.b).2.1 = false from g2] at hh; cases hh)]
 intro w34 A34
 have S34:=S6.after0 A34.mod
 refine ⟨_,S34.ok.lkLog hx z1 (yeG ho.pn),?_⟩
 have N34:Mod [] w w34:=(A5.mod.go0 M6 (by simp)).go0 A34.mod (by simp)
 refine (ytL (S34.ok.logAt hx) k1 (by omega) (rs:=o.b.recs) (fun w' M' => hr w' ((N34.trans M').less fun z hz _ => yzF hx z (by simpa using hz))) hrl).mono ?_
 rintro _ w36 ⟨rfl,F',hL,M36,G36⟩
 have S36:=S34.trans (S34.ok.setLog hx M36 hL G36)
 refine ⟨_,_,rfl,q.keep h S34 M36 (yzF hx) (h.ll _ (yaQ hx)) nofun,yaE (fun g3 => ?_) fun g3 => ?_⟩
 ·have g3:yn0 V.room x.L o.b.recs ≠ 0:=by simpa using g3
  refine (ybU _ w36).mono ?_
  rintro _ w50 ⟨rfl,M50⟩
  refine ⟨_,_,_,_,_,_,_,_,_,_,rfl,yaF.of0 M50,?_⟩
  intro w61 A61 _
  rw [if_pos (show yn0 V.st.room x.L o.b.recs ≠ 0 from g3)]
  refine yaX.fin0 q h (S36.after0 M50) A61.mod ?_ rfl rfl rfl
  simp only [BrV.st]
  rw [ygX]
  simp only [if_neg g3,BrV.st]
  congr 1
  exact ygS (by rw [yfC (fun q:LogV => q.L),hx]; rfl)
 have g3:yn0 V.room x.L o.b.recs = 0:=by simpa using g3
 rw [if_neg (show ¬ yn0 V.st.room x.L o.b.recs ≠ 0 from fun hh => hh g3)]
 intro w62 A62
 have S62:=S36.after0 A62.mod
 refine (yAp (S62.ok.ded nofun) (fun y hy => by have:=hcq y hy; omega) (p:=o.part) (x:=o.b) (rs:=rs) hrn z1 (yeG ho.pn) ho.bp _).mono ?_
 rintro _ w63 ⟨rfl,F2,hD,M63,G63⟩
 have S63:=S62.trans (S62.ok.setMk M63 hD G63)
 refine ⟨_,rfl,q.keep h S62 M63 yL4 S62.ok.lk nofun,?_⟩
 intro w65 A65 _
 rw [if_pos g3] at *
 refine yaX.fin0 q h S63 A65.mod ?_ ?_ rfl rfl
 ·simp only [BrV.st]
  rw [ygX]
  simp only [if_pos g3]
  rfl
 ·rfl
end Go.Proofs.YteldhjiiocmicaaGreat
namespace Go.Proofs.YteldhjiiocmicaaGreat
open Go Go.RowKit
set_option linter.all false
section
set_option maxRecDepth 100000
variable {R:VWP} {w w0:World} {m:Nat} {i0 i1 i2 i3 i4 i5 i6 i7 i8 i9 j0 j1 j2 j3 j4 j5 j6 j7 j8 j9 k0 k1 k2 k3 k4 k5 k6 k7 k8 k9 l0 l1 l2 l3 l4 l5 l6 l7 l8 l9:Int} {s0 s1 s2 s3 s4 s5 s6 s7 s8 s9 t0 t1 t2 t3 t4 t5 t6 t7 t8 t9:BA} {n0 n1 n2 n3 n4 n5 n6 n7 n8 n9 o0 o1 o2 o3 o4 o5 o6 o7 o8 o9 p0 p1 p2 p3 p4 p5 p6 p7 p8 p9:Nat} {q0 q1 q2 q3 q4 q5 q6 q7 q8 q9 r0 r1 r2 r3 r4 r5 r6 r7 r8 r9:OA} {B0 B1 B2 B3 B4 B5 B6 B7 B8 B9:Bool} {M0 M1 M2 M3:Option Nat} {V0 V1 V2 V3 V4 V5:Value} {A0 A1 A2:Addr}
theorem yIg (h :
 ∀ b2,w.heap.size ≤ b2 →
 ∀ w6,Adv [] [b2] w w6 →
 Calls pP 117 #[.slice q0 n0 n1,(.agg #[.string s0,.int .i64 i0])] w6 fun e w7 => ∃ x8,e = .returned (.int .i64 x8) ∧ yaF [b2] w6 w7 ∧
 R (.bool (decide (x8 ≥ 0))) w7) :
 CR pP 56 #[.slice q0 n0 n1,(.agg #[.string s0,.int .i64 i0])] w R :=
 yaB Tryz.wide_mixed (an:=[]) Tryz.func56 rfl rfl (by kernel_rfl) rfl (Eq.mpr (by kernel_rfl) h)
def yqV:LA:=⟨[0,0,1,0,1],[0,3,7,8],[(3,0,0)],1,[]⟩
def yqW:List LA:=[yqV]
abbrev yGI:=dnF pP yqW (code Tryz.f117)
abbrev yMQ:=yaR pP yqW (code Tryz.f117)
abbrev yGJ (p:List Nat) (K:List Kh) (R:VWP):=yaR pP yqW (code Tryz.f117) p K (ybE pP Tryz.f117 [] R)
def yj4 (a2:OA) (a4 a3:Nat) (a5:Int) (bm0:Nat) (a0:BA) (a1:Int):Int → List Value × List TB:=fun a6 => ([.slice a2 a4 a3,(.pointer (some ⟨bm0,0,none⟩)),.int .i64 a5,.int .i64 a6],[⟨bm0,33,[.string a0,.int .i64 a1],false⟩])
abbrev yD6 (a2:OA) (a4 a3:Nat) (a5:Int) (bm0:Nat) (a0:BA) (a1:Int) (I:Nat → Int → World → Prop) (m:Nat):Kh:=KG (yj4 a2 a4 a3 a5 bm0 a0 a1) (U1 I) m
theorem yAL {I:Nat → Int → World → Prop} (m':Nat) (h1:m' < m) (h2:I m' i2 w):KS (yD6 q0 n0 n1 i0 n2 s0 i1 I m) (yj4 q0 n0 n1 i0 n2 s0 i1 i2) w:=⟨m',h1,_,rfl,rfl,h2⟩
theorem yAM {a3:OA} {a0:BA} (I:Nat → Int → World → Prop) (m0:Nat) (h0:I m0 i2 w0)
 (hr:∀ m a2 w,I m a2 w →
 brB (decide (a2 < i0)) (
 ixA a3 n0 a2 2 fun q3 =>
 ya7 w q3 fun s4 => ya1 .i64 w (Addr.add q3 1) fun x5 =>
 ∃ t6,(∀ w',Mod [] w w' → Sem.run pP (do eqGuard .eql 33 (.tmp 11) (.tmp 15) (.agg #[.string a0,.int .i64 i1]) (.agg #[.string s4,.int .i64 x5]); Go.binOp .eql 33 (.agg #[.string a0,.int .i64 i1]) (.agg #[.string s4,.int .i64 x5])) w' = .ok (.bool t6) w') ∧
 brB t6 (
 ∀ w7,Adv [] [] w w7 →
 R (.int .i64 a2) w7)
 (
 ∀ w8,Adv [] [] w w8 →
 KS (yD6 a3 n0 n1 i0 n2 a0 i1 I m) (yj4 a3 n0 n1 i0 n2 a0 i1 (IntKind.wrap .i64 (a2 + 1))) w8))
 (
 R (.int .i64 (-1)) w)) :
 yaO yqV (yGI 397 [0,0,1,0,1]) (yGJ [1,0,1,0] [] R) (yj4 a3 n0 n1 i0 n2 a0 i1 i2) w0 :=
 lrule (yj4 a3 n0 n1 i0 n2 a0 i1) (U1 I) h0 (by rintro m a2 w h; exact ⟨by kernel_rfl,by kernel_rfl,fun js => Eq.mpr (by kernel_rfl) (hr m a2 w h)⟩)
theorem yIh (h :
 ∀ b2,w.heap.size ≤ b2 →
 ∀ w9,Adv [] [b2] w w9 →
 yaO yqV (yGI 397 [0,0,1,0,1]) (yGJ [1,0,1,0] [] R) (yj4 q0 n0 n1 (n0:Int) b2 s0 i0 0) w9) :
 CR pP 117 #[.slice q0 n0 n1,(.agg #[.string s0,.int .i64 i0])] w R :=
 yaB Tryz.wide_mixed (an:=yqW) Tryz.func117 rfl rfl (by kernel_rfl) rfl (Eq.mpr (by kernel_rfl) h)
end
end Go.Proofs.YteldhjiiocmicaaGreat
namespace Go.Proofs.YteldhjiiocmicaaGreat
open Go Go.RowKit Go.Maps Go.MapKept
set_option linter.unusedVariables false
set_option linter.unusedSimpArgs false
set_option maxHeartbeats 1000000
theorem yAN {w:World} {a:Option Addr} {n c:Nat} {l:List PPart} (h:ybF w 2 yiH a n l) (hl:l.length ≤ 9223372036854775807) (p:PPart) :
  Calls pP 117 #[.slice a n c,p.v] w fun e w' => ∃ v,e = .returned v ∧ ∃ r:Int,v = .int .i64 r ∧ Mod [] w w' ∧ decide (r ≥ 0) = l.any (fun q => decide (p = q)):=by
 have hn:=h.1
 refine yIh ?_
 intro b2 f2 w3 A3
 refine yAM (fun mm x w' => ∃ k:Nat,x = k ∧ k ≤ l.length ∧ (l.take k).any (fun q => decide (p = q)) = false ∧ Mod [] w w' ∧ mm = l.length - k) l.length ⟨0,rfl,by omega,by simp,A3.mod,rfl⟩ ?_
 rintro mm x w1 ⟨k,rfl,hk,hb,M1,rfl⟩
 refine yaC (fun hlt => ?_) fun hge => ?_
 ·obtain ⟨y,hy⟩:∃ y,l[k]? = some y:=⟨_,List.getElem?_eq_getElem (by omega)⟩
  refine (h.keep0 M1).ix hy fun q hq => yaL (x:=y.t) (by simpa [add_zero,yiH] using hq 0 _ rfl) (yaK (x:=y.n) (by simpa [yiH] using hq 1 _ rfl) ?_)
  refine ⟨_,fun w' _ => yMD p y _ _ w',yaC (fun g => ?_) fun g => ?_⟩
  ·intro w7 A7
   refine ⟨_,rfl,M1.go0 A7.mod (by simp),?_⟩
   rw [decide_eq_true (by omega),eq_comm,List.any_eq_true]
   exact ⟨y,List.mem_of_getElem? hy,by simp [g]⟩
  ·intro w8 A8
   refine yAL (l.length - (k + 1)) (by omega) ⟨k + 1,by rw [yaI (by omega) (by omega)]; omega,by omega,?_,M1.go0 A8.mod (by simp),rfl⟩
   rw [ybO hy,List.any_append,hb]
   simp [g]
 ·have hk:k = l.length:=by omega
  subst hk
  rw [List.take_length] at hb
  exact ⟨_,rfl,M1,by rw [hb]; rfl⟩
theorem yFE {w:World} {a:Option Addr} {n c:Nat} {l:List PPart} (h:ybF w 2 yiH a n l) (hl:l.length ≤ 9223372036854775807) (p:PPart) :
  Calls pP 56 #[.slice a n c,p.v] w fun e w' => e = .returned (.bool (l.any fun q => decide (p = q))) ∧ Mod [] w w':=by
 refine ya0 (yIg ?_)
 intro b2 f2 w6 A6
 refine (yAN (h.keep0 A6.mod) hl p).mono ?_
 rintro _ w7 ⟨_,rfl,r,rfl,M7,hr⟩
 exact ⟨_,rfl,yaF.of0 M7,congrArg Value.bool hr,A6.mod.go0 M7 (by simp)⟩
theorem yL6 {L:TL} {name:ByteArray} {n:Int} (h:yh2 L name n = 0):lkp L name = none ∧ 1 ≤ n ∧ n ≤ 8 ∧ L.length < 8:=by
 unfold yh2 at h
 split at h
 ·cases h
 rename_i h1
 split at h
 ·cases h
 rename_i h2
 split at h
 ·cases h
 rename_i h3
 have h1:ye2 name n = true:=by simpa using h1
 simp only [ye2,Bool.and_eq_true,decide_eq_true_eq] at h1
 refine ⟨?_,h1.2.1,h1.2.2,by omega⟩
 cases e:lkp L name with
 | none => rfl
 | some y => rw [e] at h2; exact absurd rfl h2
set_option maxRecDepth 100000 in
theorem yD7 {w:World} {b N:Nat} {V:BrV} (h:yc3 w b V) (g:BrGood V.st N) {o:POp} (ho:OpFine o) (rs ts:Sl) :
  Calls pP 18 #[.pointer (some ⟨b,0,none⟩),o.v rs ts] w fun e w' => ∃ v,e = .returned v ∧ yaX w b V (ypG V.st o) v w':=by
 obtain ⟨z1,z2,z3⟩:=ho.s
 refine yL3 (h.cell nofun) ?_
 intro b3 f3 b4 f4 w5 A5
 have q:=Own2.of f3 f4 A5
 have h5:=h.keep0 A5.mod
 refine (yAm (h5.cat nofun) z1 o.n).mono ?_
 rintro _ w6 ⟨rfl,hT,M6⟩
 have S6:=h5.setCat M6 hT (ybG.refl _ _)
 refine ⟨_,rfl,q.keep h (BrStep.refl h5 (Mod.refl _)) M6 yMI h.lc nofun,yaE (fun g1 => ?_) fun g1 => ?_⟩
 ·have g1:yh2 V.cat o.part.t o.n ≠ 0:=by simpa using g1
  refine (ybU _ w6).mono ?_
  rintro _ w19 ⟨rfl,M19⟩
  refine ⟨_,_,_,_,_,_,_,_,_,_,rfl,yaF.of0 M19,?_⟩
  intro w30 A30 _
  unfold ypG
  rw [if_neg (show ¬ yh2 V.st.cat o.part.t o.n = 0 from g1)]
  refine yaX.fin0 q h (S6.after0 M19) A30.mod ?_ rfl rfl rfl
  simp only [BrV.st,if_neg g1]
 have g1:yh2 V.cat o.part.t o.n = 0:=by simpa using g1
 obtain ⟨hno,hn1,hn8,hcl⟩:=yL6 g1
 unfold ypG
 rw [if_pos (show yh2 V.st.cat o.part.t o.n = 0 from g1)]
 obtain ⟨n,hn⟩:∃ n:Nat,o.n = n:=⟨o.n.toNat,by omega⟩
 have hold:∀ k:Int,lkp V.LP ⟨o.part.t,k⟩ = none:=fun k => by
  cases e:lkp V.LP ⟨o.part.t,k⟩ with
  | none => rfl
  | some y =>
   have:=g.cat ⟨o.part.t,k⟩ (by rw [ypH,e]; rfl)
   rw [show V.st.cat = V.cat from rfl,hno] at this; cases this
 have s5:=q.m.size
 have hml:=h5.lm
 have lml:V.ml < w.heap.size:=h.low.2.1
 refine yD0 (fun m x w' => ∃ (k:Nat) (V':BrV),x = k ∧ k ≤ n ∧ BrStep w5 w' b V V' ∧ V'.st = { V.st with cat:=put V.st.cat o.part.t o.n,logs:=ydW o.part.t k V.st.logs } ∧ V'.ml = V.ml ∧ (∀ j:Int,(k:Int) ≤ j → lkp V'.LP ⟨o.part.t,j⟩ = none) ∧ m = n - k) n
  ⟨0,_,rfl,by omega,S6,by simp only [BrV.st,if_pos g1,ydW],rfl,fun j _ => hold j,rfl⟩ ?_
 rintro m x w1 ⟨k,V',rfl,hk,S1,hst,hVm,hfr,rfl⟩
 have ⟨o3,o4⟩:=q.out h S1.gr
 refine yaC (fun hlt => ?_) fun hge => ?_
 ·refine (ytI V.room w1).mono ?_
  rintro _ w34 ⟨_,rfl,M34,hif⟩
  rw [if_pos ⟨g.r1,g.r2⟩] at hif
  obtain ⟨pb,F,rfl,hL,hF⟩:=hif
  refine ⟨_,_,rfl,yaF.of0 M34,?_⟩
  intro w37 A37
  have M37:=M34.go0 A37.mod (by simp)
  have hroom:V'.room = V.room:=congrArg PBr.room hst
  have hm:=(S1.ok.logs nofun).keepM0 M37
  rw [hVm] at hm
  obtain ⟨l,hkl⟩:=yvX (p:=⟨o.part.t,(k:Int)⟩) z1 (show s64 (k:Int) by unfold s64; omega)
  have hbml:V.ml ∉ [b,b3,b4]:=fun hz => by
   simp only [List.mem_cons,List.not_mem_nil,or_false] at hz
   have:=q.f3; have:=q.f4
   rcases hz with e | e | e
   ·have:=h.lm; rw [e,h.lb] at this; cases this
   ·omega
   ·omega
  refine hm.setU (k:=⟨o.part.t,(k:Int)⟩) yAh yjV Tryz.underlying51 (v:=(⟨pb,ytH,F⟩:LogV)) hkl hbml fun w38 hm38 M38 => ?_
  have ex:IntKind.wrap .i64 ((k:Int) + 1) = ((k + 1:Nat):Int):=by rw [yaI (by omega) (by omega)]; omega
  rw [ex]
  have hT2:yc6 w37 pb V'.room ytH F:=by rw [hroom]; exact hL.keep0 A37.mod
  have hM2:Mod [V'.ml] w37 w38:=by rw [hVm]; exact M38
  rw [← hVm] at hm38
  have hfk:lkp V'.LP ⟨o.part.t,(k:Int)⟩ = none:=hfr (k:Int) (Int.le_refl _)
  have S2:=S1.ok.addLog (v:=⟨pb,ytH,F⟩) hfk M37 hT2 hF hM2 hm38
  refine yDZ (n - (k + 1)) (by omega) ⟨k + 1,_,rfl,by omega,S1.trans S2,?_,hVm,fun j hj => ?_,rfl⟩
  ·have e1:V'.LP.map (fun q => (q.1,q.2.L)) = ydW o.part.t k V.st.logs:=congrArg PBr.logs hst
   have e2:=ygX (V:=V') (p:=⟨o.part.t,(k:Int)⟩) (v:=⟨pb,ytH,F⟩)
   rw [show V'.st.logs = ydW o.part.t k V.st.logs from congrArg PBr.logs hst] at e2
   have e3:({ V' with LP:=put V'.LP ⟨o.part.t,(k:Int)⟩ ⟨pb,ytH,F⟩,lab:=relab w1 V'.lab (.log ⟨o.part.t,(k:Int)⟩) }:BrV).st = { V'.st with logs:=ydW o.part.t (k + 1) V.st.logs }:=by
    simp only [BrV.st] at e2 ⊢
    rw [e2]; rfl
   rw [e3,hst]
  ·rw [yfB,if_neg (fun e => by injection e with _ e; omega)]
   exact hfr j (by omega)
 ·have hk':k = n:=by omega
  subst hk'
  intro w39 A39 _
  refine yaX.fin0 q h S1 A39.mod ?_ rfl rfl rfl
  rw [hst,hn,Int.toNat_natCast]
theorem yc3.touchGm {w w':World} {b:Nat} {V:BrV} (h:yc3 w b V) (M:Mod [V.mg] w w') (hM:yaS pP 9 hks GrpV.v w' V.mg V.GP):BrStep w w' b V { V with lab:=relab w V.lab .gm }:=by
 have r:=BrRest.step (i:=.gm) h M (by simp [h.lg])
 exact ⟨{ r with cell:=fun _ => r.cell nofun,cat:=fun _ => r.cat nofun,logs:=fun _ => r.logs nofun,log:=fun q hq _ => r.log q hq nofun,ded:=fun _ => r.ded nofun,gs:=fun _ => hM,grp:=fun q hq _ => r.grp q hq nofun,off:=fun _ => r.off nofun },M.less fun z hz _ => yaD.2 (.inr (.inr (.inl (by simpa using hz)))),fun z hz => .inl hz⟩
theorem BrGood.grp {V:BrV} {N:Nat} (g:BrGood V.st N) {gn:ByteArray} {v:GrpV} (hp:lkp V.GP gn = some v):v.G.length ≤ 8 ∧ ∀ x ∈ v.G,x.2.topics.length ≤ 8 :=
 g.gg (gn,v.x) (List.mem_map.2 ⟨_,yaQ hp,rfl⟩)
theorem yFF {w:World} {b N:Nat} {V:BrV} (h:yc3 w b V) (g:BrGood V.st N) {o:POp} (ho:OpFine o) {x:GrpV} (hx:lkp V.GP o.g = some x) (rs ts:Sl) :
  Calls pP 27 #[.pointer (some ⟨b,0,none⟩),o.v rs ts] w fun e w' => ∃ v,e = .returned v ∧ yaX w b V (yFD V.st o) v w':=by
 obtain ⟨z1,z2,z3⟩:=ho.s
 refine yIb (h.cell nofun) ?_
 intro b3 f3 b4 f4 w5 A5
 have q:=Own2.of f3 f4 A5
 have h5:=h.keep0 A5.mod
 have hlk:=h5.lkGrp z2
 rw [hx] at hlk
 refine ⟨_,hlk,?_⟩
 refine (yFp (h5.grpAt hx) z3 o.gen V.now).mono ?_
 rintro _ w7 ⟨rfl,F',hG,M7,G7⟩
 have S7:=h5.setGrp hx M7 hG G7
 refine ⟨_,rfl,q.keep h (BrStep.refl h5 (Mod.refl _)) M7 (yzG hx) (h.lgr _ (yaQ hx)) nofun,?_⟩
 refine (ybU _ w7).mono ?_
 rintro _ w9 ⟨rfl,M9⟩
 refine ⟨_,_,_,_,_,_,_,_,_,_,rfl,yaF.of0 M9,?_⟩
 intro w20 A20 _
 unfold yFD
 rw [yhD hx]
 refine yaX.fin0 q h (S7.after0 M9) A20.mod ?_ rfl rfl rfl
 unfold ygT
 simp only [BrV.st]
 rw [ygY]; rfl
theorem yD8 {w:World} {b N:Nat} {V:BrV} (h:yc3 w b V) (g:BrGood V.st N) {o:POp} (ho:OpFine o) {x:GrpV} (hx:lkp V.GP o.g = some x) (rs ts:Sl) :
  Calls pP 28 #[.pointer (some ⟨b,0,none⟩),o.v rs ts] w fun e w' => ∃ v,e = .returned v ∧ yaX w b V (yzC V.st o) v w':=by
 obtain ⟨z1,z2,z3⟩:=ho.s
 refine yIc (h.cell nofun) ?_
 intro b3 f3 b4 f4 w5 A5
 have q:=Own2.of f3 f4 A5
 have h5:=h.keep0 A5.mod
 have hlk:=h5.lkGrp z2
 rw [hx] at hlk
 refine ⟨_,hlk,?_⟩
 refine (yDq (h5.grpAt hx) z3 o.gen).mono ?_
 rintro _ w7 ⟨rfl,F',hG,M7,G7⟩
 have S7:=h5.setGrp hx M7 hG G7
 refine ⟨_,rfl,q.keep h (BrStep.refl h5 (Mod.refl _)) M7 (yzG hx) (h.lgr _ (yaQ hx)) nofun,?_⟩
 refine (ybU _ w7).mono ?_
 rintro _ w9 ⟨rfl,M9⟩
 refine ⟨_,_,_,_,_,_,_,_,_,_,rfl,yaF.of0 M9,?_⟩
 intro w20 A20 _
 unfold yzC
 rw [yhD hx]
 refine yaX.fin0 q h (S7.after0 M9) A20.mod ?_ rfl rfl rfl
 unfold ygT
 simp only [BrV.st]
 rw [ygY]; rfl
theorem yk7 {w:World} {b N:Nat} {V:BrV} (h:yc3 w b V) (g:BrGood V.st N) {o:POp} (ho:OpFine o) {x:GrpV} (hx:lkp V.GP o.g = some x) (rs ts:Sl) :
  Calls pP 29 #[.pointer (some ⟨b,0,none⟩),o.v rs ts] w fun e w' => ∃ v,e = .returned v ∧ ∃ ps:Sl,v = (ybY V.st o).v ya8 ps ∧ Row w' w.heap.size 33 2 yiH ps.a ps.n ps.c (ybY V.st o).parts ∧ Mod [] w w':=by
 obtain ⟨z1,z2,z3⟩:=ho.s
 obtain ⟨k1,k2⟩:=g.grp hx
 have hcl:V.cat.length ≤ 8:=g.cl
 refine yId (h.cell nofun) ?_
 intro b3 f3 b4 f4 w5 A5
 have q:=Own2.of f3 f4 A5
 have h5:=h.keep0 A5.mod
 have hlk:=h5.lkGrp z2
 rw [hx] at hlk
 refine ⟨_,hlk,?_⟩
 refine (yfS (h5.cat nofun) (by omega)).mono ?_
 rintro _ w7 ⟨s,rfl,hR,M7⟩
 refine ⟨_,_,_,rfl,yaF.of0 M7,rfl,rfl,fun w' M => hlk w' (M7.go0 M (by simp)),rfl,rfl,?_⟩
 have h7:=h5.keep0 M7
 refine (yuF (h7.grpAt hx) (by omega) (fun y hy => by have:=k2 y hy; omega) (hR.sl ylM) z3 o.gen).mono ?_
 rintro _ w11 ⟨_,rfl,M11,s2,rfl,hR2⟩
 have N11:=(q.m.go0 M7 (by simp)).go0 M11 (by simp)
 have e:ycF x.gen x.robin x.G (ycR V.cat) o.m o.gen = ycY V.st o:=by unfold ycY; rw [yhD hx]; rfl
 rw [e] at hR2 ⊢
 have f4':∀ z ∈ [b4],w.heap.size ≤ z:=by simpa using f4
 have s7:=M7.size
 have s5:=q.m.size
 have l4:=q.l4
 refine ⟨_,_,_,_,rfl,yaF.of0 M11,yaE (fun g1 => ?_) fun g1 => ?_⟩
 ·have g1:(ycY V.st o).1 ≠ 0:=by simpa using g1
  refine (ybU _ w11).mono ?_
  rintro _ w27 ⟨rfl,M27⟩
  refine ⟨_,_,_,_,_,_,_,_,_,_,rfl,yaF.of0 M27,?_⟩
  intro w38 A38 _
  unfold ybY
  rw [if_neg g1]
  exact ⟨ya8,rfl,Row.nil ..,(N11.go0 M27 (by simp)).go0 A38.mod f4'⟩
 ·have g1:(ycY V.st o).1 = 0:=by simpa using g1
  intro w39 A39 _
  unfold ybY
  rw [if_pos g1]
  exact ⟨s2,rfl,(yaA hR2 A39.mod fun z hz hz' => by simp at hz; subst hz; have:=(yaG hR2 _ hz').1; omega).rebase (by omega),N11.go0 A39.mod f4'⟩
end Go.Proofs.YteldhjiiocmicaaGreat
namespace Go.Proofs.YteldhjiiocmicaaGreat
open Go Go.RowKit Go.Maps Go.MapKept
set_option linter.unusedVariables false
set_option linter.unusedSimpArgs false
set_option maxHeartbeats 1000000
theorem ypI {V:BrV} {g:ByteArray} (h:lkp V.GP g = none):ya5 V.st g = ⟨0,false,[]⟩:=by rw [ya5,ynH,h]; rfl
set_option maxRecDepth 100000 in
theorem yFG {w:World} {b N:Nat} {V:BrV} (h:yc3 w b V) (g:BrGood V.st N) {o:POp} (ho:OpFine o) {rs ts:Sl} (ht:∀ w',Mod (V.foot b) w w' → ybF w' 1 yc8 ts.a ts.n o.topics) (htl:o.topics.length ≤ 1000000) :
  Calls pP 26 #[.pointer (some ⟨b,0,none⟩),o.v rs ts] w fun e w' => ∃ v,e = .returned v ∧ yaX w b V (yD1 V.st o) v w':=by
 obtain ⟨z1,z2,z3⟩:=ho.s
 refine yIa (h.cell nofun) ?_
 intro b3 f3 b4 f4 w5 A5
 have q:=Own2.of f3 f4 A5
 have h5:=h.keep0 A5.mod
 have s5:=q.m.size
 have hlk:=h5.lkGrp z2
 have hmg:V.mg ∉ [b,b3,b4]:=fun hz => by
  simp only [List.mem_cons,List.not_mem_nil,or_false] at hz
  have:=q.f3; have:=q.f4
  have:V.mg < w.heap.size:=h.low.2.2.1
  rcases hz with e | e | e
  ·have:=h.lg; rw [e,h.lb] at this; cases this
  ·omega
  ·omega
 have hlen:V.st.groups.length = V.GP.length:=by simp [BrV.st]
 have hnow:V.st.now = V.now:=rfl
 unfold yD1
 cases hx:lkp V.GP o.g with
 | none =>
  rw [hx] at hlk
  have e0:(lkp V.st.groups o.g).isSome = false:=by rw [ynH,hx]; rfl
  rw [ypI hx]
  refine ⟨none,hlk,yaE (fun _ => ?_) fun g => by cases g⟩
  intro w9 A9
  have h9:=h5.keep0 A9.mod
  have s9:=A9.mod.size
  refine ⟨_,fun w' M => ((h9.gs nofun).keepM0 M).len Tryz.underlying54 _,yaC (fun g1 => ?_) fun g1 => ?_⟩
  ·refine (ybU _ w9).mono ?_
   rintro _ w22 ⟨rfl,M22⟩
   refine ⟨_,_,_,_,_,_,_,_,_,_,rfl,yaF.of0 M22,?_⟩
   intro w33 A33 _
   rw [if_pos ⟨e0,by rw [hlen]; omega⟩]
   exact yaX.fin0 q h ((BrStep.refl h5 A9.mod).after0 M22) A33.mod rfl rfl rfl rfl
  rw [if_neg (fun hh => g1 (by have:=hh.2; rw [hlen] at this; omega))]
  refine (ytZ w9).mono ?_
  rintro _ w36 ⟨_,rfl,pb,F,rfl,hG,hF,M36⟩
  refine ⟨_,rfl,yaF.of0 M36,?_⟩
  intro w38 A38
  have s36:=M36.size
  have s38:=A38.mod.size
  have N38:Mod [] w5 w38:=(A9.mod.go0 M36 (by simp)).go0 A38.mod (by simp)
  refine (yyW (hG.keep0 A38.mod) (x:=yc9 V.st o) (ts:=ts) (fun w' M' => ht w' (((q.m.trans N38).trans M').less fun z hz hl => by
   simp at hz
   have:=hF z hz; omega)) htl z3 o.robin).mono ?_
  rintro _ w39 ⟨rfl,F',hG',M39,G39⟩
  have N39:Mod [] w5 w39:=N38.go0 M39 fun z hz => by have:=hF z hz; omega
  have hbF:∀ z ∈ [b,b3,b4],z < w38.heap.size → z ∉ F:=fun z hz _ hz' => by
   have:=hF z hz'
   have:=q.l3; have:=q.l4; have:=h5.lt b (yaD.2 (.inl rfl))
   simp only [List.mem_cons,List.not_mem_nil,or_false] at hz
   rcases hz with rfl | rfl | rfl <;> omega
  refine ⟨_,_,rfl,yaF.of M39 hbF,yaE (fun g2 => ?_) fun g2 => ?_⟩
  ·have g2:ybA 0 false [] (yc9 V.st o) o.robin ≠ 0:=by simpa using g2
   refine (ybU _ w39).mono ?_
   rintro _ w53 ⟨rfl,M53⟩
   refine ⟨_,_,_,_,_,_,_,_,_,_,rfl,yaF.of0 M53,?_⟩
   intro w64 A64 _
   rw [if_pos g2]
   exact yaX.fin0 q h ((BrStep.refl h5 N39).after0 M53) A64.mod rfl rfl rfl rfl
  ·have g2:ybA 0 false [] (yc9 V.st o) o.robin = 0:=by simpa using g2
   rw [if_neg (fun hh => hh g2)]
   intro w65 A65
   have N65:=N39.go0 A65.mod (by simp)
   simp only [if_pos g2] at hG' ⊢
   have hm:=(h5.gs nofun).keepM0 N65
   have hT1:=hG'.keep0 A65.mod
   obtain ⟨v,hv⟩:∃ v:GrpV,v = ⟨pb,_,_,_,F'⟩:=⟨⟨pb,_,_,_,F'⟩,rfl⟩
   have hT2:ycP w65 v.p v.gen v.robin v.G v.F:=by rw [hv]; exact hT1
   have hvp:v.v = .pointer (some ⟨pb,0,none⟩):=by rw [hv]; rfl
   have hvF:v.F = F':=by rw [hv]
   rw [← hvp]
   refine hm.setU (k:=o.g) ydT ybH Tryz.underlying54 (v:=v) (ybK z2) hmg fun w66 hm66 M66 => ?_
   have S:=h5.addGrp (v:=v) hx N65 hT2 (fun z hz => by
    rw [hvF] at hz
    rcases G39 z hz with hz | hz
    ·have:=hF z hz; omega
    ·omega) M66 hm66
   intro w67 A67 _
   refine yaX.fin0 q h S A67.mod ?_ rfl rfl rfl
   unfold ygT
   simp only [BrV.st]
   rw [ygY,hv]; rfl
 | some x =>
  rw [hx] at hlk
  have e0:(lkp V.st.groups o.g).isSome = true:=by rw [ynH,hx]; rfl
  rw [yhD hx,if_neg (fun hh => by rw [e0] at hh; cases hh.1)]
  refine ⟨some ⟨x.p,0,none⟩,hlk,yaE (fun g => by cases g) fun _ => ?_⟩
  intro w68 A68
  have h68:=h5.keep0 A68.mod
  refine (yyW (h68.grpAt hx) (x:=yc9 V.st o) (ts:=ts) (fun w' M' => ht w' (((q.m.trans A68.mod).trans M').less fun z hz hl => by
   simp at hz
   exact yzG hx z hz)) htl z3 o.robin).mono ?_
  rintro _ w69 ⟨rfl,F',hG',M69,G69⟩
  have S69:=(BrStep.refl h5 A68.mod).trans (h68.setGrp hx M69 hG' G69)
  refine ⟨_,_,rfl,q.keep h (BrStep.refl h5 A68.mod) M69 (yzG hx) (h.lgr _ (yaQ hx)) nofun,yaE (fun g2 => ?_) fun g2 => ?_⟩
  ·have g2:ybA x.gen x.robin x.G (yc9 V.st o) o.robin ≠ 0:=by simpa using g2
   refine (ybU _ w69).mono ?_
   rintro _ w83 ⟨rfl,M83⟩
   refine ⟨_,_,_,_,_,_,_,_,_,_,rfl,yaF.of0 M83,?_⟩
   intro w94 A94 _
   rw [if_pos (show ybA x.x.gen x.x.robin x.x.G (yc9 V.st o) o.robin ≠ 0 from g2)]
   simp only [if_neg g2] at S69
   refine yaX.fin0 q h (S69.after0 M83) A94.mod ?_ rfl rfl rfl
   simp only [BrV.st]
   rw [ygY]
   simp only [BrV.st]
   congr 1
   exact ygS (by rw [yfC (fun q:GrpV => q.x),hx]; rfl)
  ·have g2:ybA x.gen x.robin x.G (yc9 V.st o) o.robin = 0:=by simpa using g2
   rw [if_neg (show ¬ ybA x.x.gen x.x.robin x.x.G (yc9 V.st o) o.robin ≠ 0 from fun hh => hh g2)]
   intro w95 A95
   have S95:=S69.after0 A95.mod
   simp only [if_pos g2] at S95 ⊢
   have hm:=S95.ok.gs nofun
   have hlk2:lkp (put V.GP o.g (⟨x.p,IntKind.wrap .i64 (x.gen + 1),o.robin,put x.G (yc9 V.st o).name (yc9 V.st o),F'⟩:GrpV)) o.g = some ⟨x.p,IntKind.wrap .i64 (x.gen + 1),o.robin,put x.G (yc9 V.st o).name (yc9 V.st o),F'⟩:=by rw [yfB,if_pos rfl]
   refine hm.setU (k:=o.g) ydT ybH Tryz.underlying54 (v:=(⟨x.p,IntKind.wrap .i64 (x.gen + 1),o.robin,put x.G (yc9 V.st o).name (yc9 V.st o),F'⟩:GrpV)) (ybK z2) hmg fun w96 hm96 M96 => ?_
   rw [ygS hlk2] at hm96
   have S96:=S95.trans (S95.ok.touchGm M96 hm96)
   intro w97 A97 _
   refine yaX.fin0 q h S96 A97.mod ?_ rfl rfl rfl
   unfold ygT
   simp only [BrV.st]
   rw [ygY]; rfl
theorem Row.len_max {α:Type} {w:World} {base T sz:Nat} {enc:α → List Value} {a:Option Addr} {n c:Nat} {l:List α} (h:Row w base T sz enc a n c l):l.length ≤ 9223372036854775807:=by
 obtain ⟨hn,hlen,ho⟩:=h
 rcases ho with ⟨ho,h0⟩ | ⟨g,cap,cur,hv,hb,hg,hnc,hcm,hsz,htk⟩
 ·omega
 ·unfold maxLen at hcm; omega
set_option maxRecDepth 100000 in
theorem yAO {w:World} {b N:Nat} {V:BrV} (h:yc3 w b V) (g:BrGood V.st N) {o:POp} (ho:OpFine o) {x:GrpV} (hx:lkp V.GP o.g = some x) (hlogs:∀ q ∈ (ycY V.st o).2,(lkp V.LP q).isSome = true) (rs ts:Sl) :
  Calls pP 30 #[.pointer (some ⟨b,0,none⟩),o.v rs ts] w fun e w' => ∃ v,e = .returned v ∧ yaX w b V (ygV V.st o) v w':=by
 obtain ⟨z1,z2,z3⟩:=ho.s
 have hN:=g.nN
 refine yIe (h.cell nofun) ?_
 intro b3 f3 b4 f4 w25 A25 _
 have q:=Own2.of f3 f4 A25
 have h25:=h.keep0 A25.mod
 refine (yk7 h25 g ho hx rs ts).mono ?_
 rintro _ w26 ⟨_,rfl,ps,rfl,hR,M26⟩
 have h26:=h25.keep0 M26
 have hA:(ybY V.st o).e = (ycY V.st o).1:=by
  unfold ybY
  split
  ·rename_i hh; exact hh.symm
  ·rfl
 unfold ygV
 refine ⟨_,_,_,_,_,_,_,_,_,_,rfl,yaF.of0 M26,_,_,_,_,_,_,_,h26.cell nofun,?_⟩
 intro b44 f44
 refine yaE (fun g1 => ?_) fun g1 => ?_
 ·have g1:(ycY V.st o).1 ≠ 0:=by rw [← hA]; simpa using g1
  intro w45 A45 _
  rw [if_pos g1]
  have eA:ybY V.st o = ygE (ycY V.st o).1:=by unfold ybY; rw [if_neg g1]
  rw [eA] at hR ⊢
  exact yaX.fin q h (BrStep.refl h25 M26) A45.mod rfl ya8 ps rfl (Row.nil ..) hR fun z hz => ⟨by simp [ya8,yaN],fun hz' => by have:=(yaG hR z hz').1; have:=h25.lt z hz; omega⟩
 have g1:(ycY V.st o).1 = 0:=by rw [← hA]; simpa using g1
 rw [if_neg (fun hh => hh g1)]
 have hps:(ybY V.st o).parts = (ycY V.st o).2:=by unfold ybY; rw [if_pos g1]
 rw [hps] at hR
 have hpl:=hR.len_max
 intro w56 A56 _
 have h56:=h26.keep0 A56.mod
 refine (yFE ((hR.keep0 A56.mod).sl ylK) hpl o.part).mono ?_
 rintro _ w57 ⟨rfl,M57⟩
 have h57:=h56.keep0 M57
 have S57:=((BrStep.refl h25 M26).after0 A56.mod).after0 M57
 refine ⟨_,rfl,yaF.of0 M57,_,_,_,_,_,_,_,h57.cell nofun,yaE (fun g2 => ?_) fun g2 => ?_⟩
 ·have g2:(ycY V.st o).2.any (fun q => decide (o.part = q)) = false:=by simpa using g2
  refine (ybU _ w57).mono ?_
  rintro _ w84 ⟨rfl,M84⟩
  refine ⟨_,_,_,_,_,_,_,_,_,_,rfl,yaF.of0 M84,_,_,_,_,_,_,_,(h57.keep0 M84).cell nofun,?_⟩
  intro w102 A102 _
  rw [if_pos g2]
  exact yaX.fin0 q h (S57.after0 M84) A102.mod rfl rfl rfl rfl
 have g2:(ycY V.st o).2.any (fun q => decide (o.part = q)) = true:=by simpa using g2
 rw [if_neg (by rw [g2]; decide)]
 obtain ⟨y,hy⟩:∃ y,lkp V.LP o.part = some y:=by
  obtain ⟨p,hp,e⟩:=List.any_eq_true.1 g2
  have e:o.part = p:=by simpa using e
  rw [e]
  exact Option.isSome_iff_exists.1 (hlogs p hp)
 obtain ⟨k1,k2,k3⟩:=g.log hy
 intro w103 A103 _
 have h103:=h57.keep0 A103.mod
 have S103:=S57.after0 A103.mod
 refine ⟨_,h103.lkLog hy z1 (yeG ho.pn),?_⟩
 refine (yfQ (h103.logAt hy) k1 (by omega)).mono ?_
 rintro _ w105 ⟨rfl,M105⟩
 have S105:=S103.after0 M105
 rw [yhC hy]
 refine ⟨_,_,rfl,yaF.of0 M105,_,_,_,_,_,_,_,S105.ok.cell nofun,yaC (fun g3 => ?_) fun g3 => ?_⟩
 ·refine (ybU _ w105).mono ?_
  rintro _ w133 ⟨rfl,M133⟩
  refine ⟨_,_,_,_,_,_,_,_,_,_,rfl,yaF.of0 M133,_,_,_,_,_,_,_,(S105.ok.keep0 M133).cell nofun,?_⟩
  intro w151 A151 _
  rw [if_pos g3]
  exact yaX.fin0 q h (S105.after0 M133) A151.mod rfl rfl rfl rfl
 rw [if_neg g3]
 intro w152 A152 _
 have S152:=S105.after0 A152.mod
 refine (yC4 (S152.ok.off nofun) ⟨o.g,o.part,o.off⟩).mono ?_
 rintro _ w153 ⟨rfl,hO,M153⟩
 have S153:=S152.trans (S152.ok.setOff M153 hO (ybG.refl _ _))
 have ⟨o3,o4⟩:=q.out h S152.gr
 have kp:∀ z ∈ [b3,b4,b44],z < w152.heap.size → z ∉ V.Fo:=fun z hz _ hz' => by
  simp only [List.mem_cons,List.not_mem_nil,or_false] at hz
  have hlt:=h.lt z (yL5 z hz')
  have:=q.f3; have:=q.f4
  have:=q.m.size; have:=M26.size
  rcases hz with rfl | rfl | rfl <;> omega
 refine ⟨_,rfl,yaF.ofE M153 (fun z hz hl _ => kp z hz hl),_,_,_,_,_,_,_,S153.ok.cell nofun,?_⟩
 refine (ybU _ w153).mono ?_
 rintro _ w162 ⟨rfl,M162⟩
 refine ⟨_,_,_,_,_,_,_,_,_,_,rfl,yaF.of0 M162,_,_,_,_,_,_,_,(S153.ok.keep0 M162).cell nofun,?_⟩
 intro w180 A180 _
 exact yaX.fin0 q h (S153.after0 M162) A180.mod rfl rfl rfl rfl
end Go.Proofs.YteldhjiiocmicaaGreat
namespace Go.Proofs.YteldhjiiocmicaaGreat
open Go Go.RowKit Go.Maps Go.MapKept
set_option linter.unusedVariables false
set_option linter.unusedSimpArgs false
set_option maxHeartbeats 1000000
theorem yc3.setGrps {w w':World} {b:Nat} {V:BrV} (h:yc3 w b V) {S:List Nat} (M:Mod S w w') (hS:∀ k ∈ S,k ∈ V.foot b) (hS2:∀ k ∈ S,V.lab k = .br ∨ ∃ g,V.lab k = .grp g) {now':Int} {GP':List (ByteArray × GrpV)} {lab':Nat → BLab}
  (hc:w'.heap[b]? = some (.cells #[.int .i64 V.room,.int .i64 now',.pointer (some ⟨V.pc,0,none⟩),.map (some V.ml),.pointer (some ⟨V.pm,0,none⟩),.map (some V.mg),.pointer (some ⟨V.po,0,none⟩)] 58))
  (hk:GP'.map (fun q => (q.1,q.2.p)) = V.GP.map (fun q => (q.1,q.2.p))) (hG:∀ q ∈ GP',ycP w' q.2.p q.2.gen q.2.robin q.2.G q.2.F) (hl:∀ q ∈ GP',∀ k ∈ q.2.F,lab' k = .grp q.1) (ho:∀ k,k < w.heap.size → lab' k = V.lab k)
  (hg:∀ q ∈ GP',∀ k ∈ q.2.F,k ∈ V.foot b ∨ w.heap.size ≤ k):BrStep w w' b V { V with now:=now',GP:=GP',lab:=lab' }:=by
 obtain ⟨l1,l2,l3,l4,l5,l6,l7,l8⟩:=h.low
 have hs:=M.size
 have nl:∀ {k:Nat} {j:BLab},V.lab k = j → j ≠ .br → (∀ g,j ≠ .grp g) → k ∉ S:=fun hk h1 h2 hm => by
  rcases hS2 _ hm with e | ⟨g,e⟩
  ·exact h1 (hk.symm.trans e)
  ·exact h2 g (hk.symm.trans e)
 refine ⟨{ cell:=fun _ => hc,lb:=(ho b l1).trans h.lb,cat:=fun _ => (h.cat nofun).keep M fun k hk hk' => nl (h.lc k hk') nofun nofun hk,lc:=fun k hk => (ho k (l4 k hk)).trans (h.lc k hk),logs:=fun _ => (h.logs nofun).keepM M (nl h.lm nofun nofun),lm:=(ho _ l2).trans h.lm,log:=fun q hq _ => (h.log q hq nofun).keep M fun k hk hk' => nl (h.ll q hq k hk') nofun nofun hk,ll:=fun q hq k hk => (ho k (l7 q hq k hk)).trans (h.ll q hq k hk),ded:=fun _ => (h.ded nofun).keep M fun k hk hk' => nl (h.lk k hk') nofun nofun hk,lk:=fun k hk => (ho k (l5 k hk)).trans (h.lk k hk),gs:=fun _ => ((h.gs nofun).keepM M (nl h.lg nofun nofun)).sameV ?_,lg:=(ho _ l3).trans h.lg,grp:=fun q hq _ => hG q hq,lgr:=hl,off:=fun _ => (h.off nofun).keep M fun k hk hk' => nl (h.lo k hk') nofun nofun hk,lo:=fun k hk => (ho k (l6 k hk)).trans (h.lo k hk),low:=⟨by omega,by show V.ml < _; omega,by show V.mg < _; omega,fun k hk => by have:=l4 k hk; omega,fun k hk => by have:=l5 k hk; omega,fun k hk => by have:=l6 k hk; omega,fun q hq k hk => by have:=l7 q hq k hk; omega,fun q hq k hk => (hG q hq).lt k hk⟩ },M.less fun z hz _ => hS z hz,fun z hz => ?_⟩
 ·have:=congrArg (List.map fun q:ByteArray × Nat => (q.1,Value.pointer (some ⟨q.2,0,none⟩))) hk
  rw [List.map_map,List.map_map] at this
  exact this
 ·rcases yaD.1 hz with h1 | h1 | h1 | h1 | h1 | h1 | h1 | ⟨q,hq',h1⟩
  ·exact .inl (yaD.2 (.inl h1))
  ·exact .inl (yaD.2 (.inr (.inl h1)))
  ·exact .inl (yaD.2 (.inr (.inr (.inl h1))))
  ·exact .inl (yaD.2 (.inr (.inr (.inr (.inl h1)))))
  ·exact .inl (yaD.2 (.inr (.inr (.inr (.inr (.inl h1))))))
  ·exact .inl (yaD.2 (.inr (.inr (.inr (.inr (.inr (.inl h1)))))))
  ·exact .inl (yaD.2 (.inr (.inr (.inr (.inr (.inr (.inr (.inl h1))))))))
  ·exact hg q hq' z h1
def inL {β:Type} (left:List (ByteArray × β)) (k:ByteArray):Bool:=left.any fun p => decide (p.1 = k)
theorem yqX {β:Type} {left:List (ByteArray × β)} {k:ByteArray}:inL left k = true ↔ k ∈ left.map (·.1):=by
 simp only [inL,List.any_eq_true,decide_eq_true_eq,List.mem_map]
theorem yD9 {β:Type} {left:List (ByteArray × β)} {k j:ByteArray}:inL (yeJ left k) j = (inL left j && decide (j ≠ k)):=by
 rw [Bool.eq_iff_iff,Bool.and_eq_true,decide_eq_true_eq,yqX,yqX,List.mem_map,List.mem_map]
 constructor
 ·rintro ⟨p,hp,rfl⟩
  exact ⟨⟨p,(ydI.1 hp).1,rfl⟩,(ydI.1 hp).2⟩
 ·rintro ⟨⟨p,hp,rfl⟩,h⟩
  exact ⟨p,ydI.2 ⟨hp,h⟩,rfl⟩
def yk8 {β:Type} (now:Int) (left:List (ByteArray × β)) (L:List (ByteArray × PGrp)):List (ByteArray × PGrp):=L.map fun q => if inL left q.1 = true then q else (q.1,yIf now q.2)
structure TickI (w0 w35:World) (b r:Nat) (V:BrV) (now:Int) (left:List (ByteArray × Nat)) (GP':List (ByteArray × GrpV)) (lab':Nat → BLab) (w':World):Prop where
 keys:GP'.map (fun q => (q.1,q.2.p)) = V.GP.map (fun q => (q.1,q.2.p))
 grp:∀ q ∈ GP',ycP w' q.2.p q.2.gen q.2.robin q.2.G q.2.F
 lbl:∀ q ∈ GP',∀ k ∈ q.2.F,lab' k = .grp q.1
 old:∀ k,k < w0.heap.size → lab' k = V.lab k
 gr:∀ q ∈ GP',∀ k ∈ q.2.F,k ∈ V.GP.flatMap (fun q => q.2.F) ∨ w35.heap.size ≤ k
 xs:GP'.map (fun q => (q.1,q.2.x)) = yk8 now left V.st.groups
 mod:Mod (r :: V.GP.flatMap fun q => q.2.F) w35 w'
 sub:∀ p ∈ left,p ∈ V.GP.map fun q => (q.1,q.2.p)
 nd:(left.map (·.1)).Nodup
set_option maxRecDepth 100000 in
theorem yEa {w:World} {b N:Nat} {V:BrV} (h:yc3 w b V) (g:BrGood V.st N) {o:POp} (ho:OpFine o) (rs ts:Sl) :
  Calls pP 20 #[.pointer (some ⟨b,0,none⟩),o.v rs ts] w fun e w' => ∃ v,e = .returned v ∧ yaX w b V (yD3 V.st o) v w':=by
 have hon:=ho.n
 simp only [num,decide_eq_true_eq] at hon
 have n0:0 ≤ V.now:=g.n0
 have n1:V.now ≤ 1099511627776:=g.n1
 have ew:IntKind.wrap .i64 (V.now + o.n) = V.now + o.n:=yaI (by omega) (by omega)
 refine yKc (h.cell nofun) ?_
 intro b3 f3 b4 f4
 rw [ew]
 unfold yD3
 refine yaC (fun g1 => ?_) fun g1 => ?_
 ·intro w17 A17
  have q:=Own2.of f3 f4 A17
  have h17:=h.keep0 A17.mod
  refine (ybU _ w17).mono ?_
  rintro _ w18 ⟨rfl,M18⟩
  refine ⟨_,_,_,_,_,_,_,_,_,_,rfl,yaF.of0 M18,?_⟩
  intro w29 A29 _
  rw [if_pos (show V.st.now + o.n > 1099511627776 from g1)]
  exact yaX.fin0 q h (BrStep.refl h17 M18) A29.mod rfl rfl rfl rfl
 rw [if_neg (show ¬ V.st.now + o.n > 1099511627776 from g1)]
 intro w33 A33
 have M33:Mod [b] w w33:=A33.mod
 have s33:=M33.size
 have l3:=A33.lt b3 (by simp)
 have l4:=A33.lt b4 (by simp)
 have lb:b < w.heap.size:=h.low.1
 have lmg:V.mg < w.heap.size:=h.low.2.2.1
 have hmgb:V.mg ≠ b:=fun e => by have:=h.lg; rw [e,h.lb] at this; cases this
 have hm33:yaS pP 9 hks (fun n:Nat => Value.pointer (some ⟨n,0,none⟩)) w33 V.mg (V.GP.map fun q => (q.1,q.2.p)):=((h.gs nofun).keepM M33 (by simpa using hmgb)).sameV (by rw [List.map_map]; rfl)
 have hnd:(V.GP.map (·.1)).Nodup:=(h.gs nofun).nodup
 obtain ⟨w35,h35,M35,I35⟩:=ybW.start (T:=54) hm33 Tryz.underlying54
 have s35:=M35.size
 refine ⟨_,w35,h35,yaF.of0 M35,?_⟩
 generalize hr:w33.heap.size = r at I35 ⊢
 have lr:r < w35.heap.size:=by
  obtain ⟨es,clock,since,seen,c0,e1,_⟩:=I35
  exact (Array.getElem?_eq_some_iff.1 e1).1
 have N35:Mod [b] w w35:=(M33.trans M35).less (by simp)
 have hGl:∀ k ∈ V.GP.flatMap (fun q => q.2.F),k < w.heap.size:=fun k hk => by
  obtain ⟨q,hq,hk⟩:=List.mem_flatMap.1 hk
  exact h.low.2.2.2.2.2.2.2 q hq k hk
 have hGlab:∀ k ∈ V.GP.flatMap (fun q => q.2.F),∃ g,V.lab k = .grp g:=fun k hk => by
  obtain ⟨q,hq,hk⟩:=List.mem_flatMap.1 hk
  exact ⟨q.1,h.lgr q hq k hk⟩
 have hbG:b ∉ V.GP.flatMap (fun q => q.2.F):=fun hk => by obtain ⟨g,e⟩:=hGlab b hk; rw [h.lb] at e; cases e
 have hin:∀ q ∈ V.GP.map (fun q => (q.1,q.2.p)),q.1 ∈ V.GP.map (·.1):=fun q hq => by
  obtain ⟨p,hp,rfl⟩:=List.mem_map.1 hq
  exact List.mem_map.2 ⟨p,hp,rfl⟩
 have hcg:V.st.groups.length ≤ 8:=g.cg
 have cnt8:∀ k,yfR (V.now + o.n) (ya5 V.st k).G ≤ 8:=fun k => by
  refine Nat.le_trans (List.length_filter_le _ _) ?_
  cases e:lkp V.GP k with
  | none => rw [ypI e]; simp
  | some x => rw [yhD e]; exact (g.grp e).1
 have tot:∀ l:List (ByteArray × Nat),(l.map fun p => yfR (V.now + o.n) (ya5 V.st p.1).G).sum ≤ 8 * l.length:=fun l => by
  induction l with
  | nil => simp
  | cons p r ih => have:=cnt8 p.1; simp only [List.map_cons,List.sum_cons,List.length_cons]; omega
 have htot:=tot (V.GP.map fun q => (q.1,q.2.p))
 have hGlen:V.GP.length ≤ 8:=by simpa [BrV.st] using hcg
 rw [List.length_map] at htot
 refine yCw (fun mm x w' => ∃ (left:List (ByteArray × Nat)) (GP':List (ByteArray × GrpV)) (lab':Nat → BLab),ybW pP 9 hks (fun n:Nat => Value.pointer (some ⟨n,0,none⟩)) w' r V.mg (V.GP.map fun q => (q.1,q.2.p)) left ∧ TickI w w35 b r V (V.now + o.n) left GP' lab' w' ∧ (∃ d:Nat,x = d ∧ d + (left.map fun p => yfR (V.now + o.n) (ya5 V.st p.1).G).sum = ((V.GP.map fun q => (q.1,q.2.p)).map fun p:ByteArray × Nat => yfR (V.now + o.n) (ya5 V.st p.1).G).sum) ∧ mm = left.length) (V.GP.map fun q => (q.1,q.2.p)).length
  ⟨_,V.GP,V.lab,I35,⟨rfl,fun q hq => (h.grp q hq nofun).keep N35 fun k hk hk' => by simp at hk; subst hk; exact hbG (List.mem_flatMap.2 ⟨q,hq,hk'⟩),h.lgr,fun _ _ => rfl,fun q hq k hk => .inl (List.mem_flatMap.2 ⟨q,hq,hk⟩),?_,(Mod.refl _).less (by simp),fun p hp => hp,by rw [List.map_map]; exact hnd⟩,⟨0,rfl,by omega⟩,rfl⟩ ?_
 ·rw [yk8]
  have:V.st.groups.map (fun q => if inL (V.GP.map fun q => (q.1,q.2.p)) q.1 = true then q else (q.1,yIf (V.now + o.n) q.2)) = V.st.groups.map id:=List.map_congr_left fun q hq => by
   rw [if_pos]; · rfl
   rw [yqX,List.map_map]
   obtain ⟨p,hp,rfl⟩:=List.mem_map.1 hq
   exact List.mem_map.2 ⟨p,hp,rfl⟩
  rw [this,List.map_id]; rfl
 rintro mm x w1 ⟨left,GP',lab',I1,T,⟨d,rfl,hd⟩,rfl⟩
 have sT:=T.mod.size
 have tl:=tot left
 have hK3:∀ {F:List Nat},(∀ k ∈ F,k ∈ V.GP.flatMap (fun q => q.2.F) ∨ w35.heap.size ≤ k) → ∀ z ∈ [b,b3,b4],z < w35.heap.size → z ∉ F:=fun hF z hz hzl hz' => by
  simp only [List.mem_cons,List.not_mem_nil,or_false] at hz
  rcases hF z hz' with hk | hk
  ·rcases hz with rfl | rfl | rfl
   ·exact hbG hk
   ·have:=hGl _ hk; omega
   ·have:=hGl _ hk; omega
  ·omega
 have hz35:∀ z ∈ [b,b3,b4],z < w35.heap.size:=fun z hz => by
  simp only [List.mem_cons,List.not_mem_nil,or_false] at hz
  rcases hz with rfl | rfl | rfl <;> omega
 rcases I1.step (ty:=0) ybH with ⟨hl0,hs⟩ | ⟨p,hp,w4,hs,M4,I4,hen⟩
 ·subst hl0
  refine .inl ⟨_,hs,yaF.of0 (Mod.refl _),?_⟩
  intro w42 A42 h42
  have M42:Mod [b4] w1 w42:=A42.mod
  have hb4:∀ q ∈ GP',b4 ∉ q.2.F:=fun q hq => hK3 (T.gr q hq) b4 (by simp) (hz35 b4 (by simp))
  have S:=yc3.setGrps h (S:=b :: V.GP.flatMap fun q => q.2.F) (((N35.trans T.mod).trans M42).less fun z hz hl => by
    simp only [List.mem_append,List.mem_cons,List.not_mem_nil,or_false] at hz ⊢
    rcases hz with (hz | hz | hz) | hz
    ·exact .inl hz
    ·omega
    ·exact .inr hz
    ·omega) (fun k hk => by
    rcases List.mem_cons.1 hk with rfl | hk
    ·exact yaD.2 (.inl rfl)
    ·obtain ⟨q,hq,hk⟩:=List.mem_flatMap.1 hk
     exact yaD.2 (.inr (.inr (.inr (.inr (.inr (.inr (.inr ⟨q,hq,hk⟩))))))))
   (fun k hk => by
    rcases List.mem_cons.1 hk with rfl | hk
    ·exact .inl h.lb
    ·exact .inr (hGlab k hk)) h42 T.keys (fun q hq => (T.grp q hq).keep M42 fun k hk hk' => by simp at hk; subst hk; exact hb4 q hq hk') T.lbl T.old (fun q hq k hk => by
    rcases T.gr q hq k hk with hk | hk
    ·obtain ⟨q',hq',hk⟩:=List.mem_flatMap.1 hk
     exact .inl (yaD.2 (.inr (.inr (.inr (.inr (.inr (.inr (.inr ⟨q',hq',hk⟩))))))))
    ·exact .inr (by omega))
  simp only [List.map_nil,List.sum_nil,Nat.add_zero] at hd
  have hdd:d = yD2 (V.now + o.n) V.st.groups:=by
   rw [hd,yD2,List.map_map]
   show _ = ((V.GP.map fun q => (q.1,q.2.x)).map fun q => yfR (V.now + o.n) q.2.G).sum
   rw [List.map_map]
   refine congrArg List.sum (List.map_congr_left fun q hq => ?_)
   simp only [Function.comp_apply]
   rw [yhD (yc0 hnd (show (q.1,q.2) ∈ V.GP from hq))]
  rw [hdd]
  refine yaX.plain rfl S ?_ rfl rfl
  have hxs:=T.xs
  simp only [BrV.st] at hxs ⊢
  rw [hxs,yk8]
  congr 1
 ·have hpL:=T.sub p hp
  have hpG:=hin p hpL
  have hkeysf:GP'.map (·.1) = V.GP.map (·.1):=by
   have:=congrArg (List.map Prod.fst) T.keys
   rw [List.map_map,List.map_map] at this; exact this
  have hnd':(GP'.map (·.1)).Nodup:=by rw [hkeysf]; exact hnd
  obtain ⟨x,hxm⟩:∃ x,(p.1,x) ∈ GP':=by
   have:p.1 ∈ GP'.map (·.1):=by rw [hkeysf]; exact hpG
   obtain ⟨z,hz,e⟩:=List.mem_map.1 this
   exact ⟨z.2,by rw [← e]; exact hz⟩
  have hlx:=yc0 hnd' hxm
  have hxp:x.p = p.2:=by
   have h1:(p.1,x.p) ∈ V.GP.map (fun q => (q.1,q.2.p)):=by rw [← T.keys]; exact List.mem_map.2 ⟨_,hxm,rfl⟩
   have hpL2:(p.1,p.2) ∈ V.GP.map (fun q => (q.1,q.2.p)):=hpL
   have:=yjY (L:=V.GP.map fun q => (q.1,q.2.p)) (p:=(p.1,x.p)) (q:=(p.1,p.2)) (by rw [List.map_map]; exact hnd) h1 hpL2 rfl
   exact congrArg Prod.snd this
  have hpin:inL left p.1 = true:=yqX.2 (List.mem_map.2 ⟨p,hp,rfl⟩)
  have hgnd:(V.st.groups.map (·.1)).Nodup:=by simp only [BrV.st]; rw [List.map_map]; exact hnd
  have hxg:(p.1,x.x) ∈ V.st.groups:=by
   have h1:(p.1,x.x) ∈ yk8 (V.now + o.n) left V.st.groups:=by rw [← T.xs]; exact List.mem_map.2 ⟨_,hxm,rfl⟩
   obtain ⟨q,hq,e⟩:=List.mem_map.1 h1
   have e1:q.1 = p.1:=by
    have:=congrArg Prod.fst e
    split at this <;> exact this
   rw [if_pos (by rw [e1]; exact hpin)] at e
   rw [← e]; exact hq
  have hxx:ya5 V.st p.1 = x.x:=by rw [ya5,yc0 hgnd hxg]; rfl
  have s4:=M4.size
  have hxF:=T.gr _ hxm
  have hrF:∀ q ∈ GP',r ∉ q.2.F:=fun q hq hk => by
   rcases T.gr q hq r hk with hk | hk
   ·have:=hGl r hk; omega
   ·omega
  have G4:∀ q ∈ GP',ycP w4 q.2.p q.2.gen q.2.robin q.2.G q.2.F:=fun q hq => (T.grp q hq).keep M4 fun k hk hk' => by simp at hk; subst hk; exact hrF q hq hk'
  have hxG8:x.G.length ≤ 8:=(g.gg _ hxg).1
  refine .inr ⟨_,_,w4,hs,yaF.of M4 (fun z hz _ hz' => by
   simp only [List.mem_cons,List.not_mem_nil,or_false] at hz hz'
   rcases hz with rfl | rfl | rfl <;> omega),_,_,w4,hen w4 (Mod.refl _),yaF.of0 (Mod.refl _),?_⟩
  rw [← hxp]
  refine (yAy (G4 _ hxm) (by show x.G.length ≤ 1000000; omega) (V.now + o.n)).mono ?_
  rintro _ w5 ⟨_,rfl,s',rfl,hsn,F',hG',M5,G5⟩
  have s5:=M5.size
  refine ⟨_,_,_,rfl,yaF.of M5 (fun z hz _ => hK3 hxF z hz (hz35 z hz)),?_⟩
  have hperm:=yeT hp T.nd
  have hsum:(left.map fun p => yfR (V.now + o.n) (ya5 V.st p.1).G).sum = yfR (V.now + o.n) x.G + ((yeJ left p.1).map fun p => yfR (V.now + o.n) (ya5 V.st p.1).G).sum:=by
   rw [(hperm.map _).sum_nat,List.map_cons,List.sum_cons,hxx]; rfl
  have hlen:(yeJ left p.1).length + 1 = left.length:=by
   have:=hperm.length_eq; simpa using this.symm
  have hsn':s'.n = yfR (V.now + o.n) x.G:=hsn
  have ex:IntKind.wrap .i64 ((d:Int) + (s'.n:Int)) = ((d + s'.n:Nat):Int):=by rw [yaI (by omega) (by omega)]; omega
  rw [ex]
  have hmF:V.mg ∉ x.F:=fun hk => by
   have h1:=T.lbl _ hxm _ hk
   rw [T.old _ lmg,h.lg] at h1; cases h1
  have hl2:∀ q ∈ put GP' p.1 ⟨x.p,(if 0 < yfR (V.now + o.n) x.G then yn1 x.gen else x.gen),x.robin,yn3 (V.now + o.n) x.G,F'⟩,q = (p.1,⟨x.p,(if 0 < yfR (V.now + o.n) x.G then yn1 x.gen else x.gen),x.robin,yn3 (V.now + o.n) x.G,F'⟩) ∨ q ∈ GP' ∧ q.1 ≠ p.1:=fun q hq => yqH hnd' hq
  refine yCv (yeJ left p.1).length (by omega) ⟨yeJ left p.1,put GP' p.1 ⟨x.p,(if 0 < yfR (V.now + o.n) x.G then yn1 x.gen else x.gen),x.robin,yn3 (V.now + o.n) x.G,F'⟩,relab w4 lab' (.grp p.1),I4.keep M5 (hrF _ hxm) hmF,⟨?_,fun q hq => ?_,fun q hq => ?_,fun k hk => ?_,fun q hq => ?_,?_,?_,fun q hq => T.sub q (ydI.1 hq).1,yeU T.nd⟩,⟨d + s'.n,rfl,by omega⟩,rfl⟩
  ·have e:=yf4 (fun q:GrpV => q.p) GP' p.1 ⟨x.p,(if 0 < yfR (V.now + o.n) x.G then yn1 x.gen else x.gen),x.robin,yn3 (V.now + o.n) x.G,F'⟩
   rw [← e,ygS (by rw [yfC (fun q:GrpV => q.p),hlx]; rfl)]
   exact T.keys
  ·rcases hl2 q hq with rfl | ⟨h1,h2⟩
   ·exact hG'
   ·refine (G4 q h1).keep M5 fun k hk hk' => h2 ?_
    have e1:=T.lbl _ hxm k hk
    have e2:=T.lbl q h1 k hk'
    rw [e1] at e2
    injection e2 with e2
    exact e2.symm
  ·rcases hl2 q hq with rfl | ⟨h1,h2⟩
   ·exact yeW (T.lbl _ hxm) G5
   ·exact fun k hk => (ycJ ((G4 q h1).lt k hk)).trans (T.lbl q h1 k hk)
  ·exact (ycJ (by omega)).trans (T.old k hk)
  ·rcases hl2 q hq with rfl | ⟨h1,h2⟩
   ·intro k hk
    rcases G5 k hk with hk | hk
    ·exact hxF k hk
    ·exact .inr (by omega)
   ·exact T.gr q h1
  ·have e:=yf4 (fun q:GrpV => q.x) GP' p.1 ⟨x.p,(if 0 < yfR (V.now + o.n) x.G then yn1 x.gen else x.gen),x.robin,yn3 (V.now + o.n) x.G,F'⟩
   rw [← e]
   have hnp:((yk8 (V.now + o.n) left V.st.groups).map (·.1)).Nodup:=by
    rw [← T.xs,List.map_map]; exact hnd'
   have hxs:=T.xs
   rw [show (GP'.map fun p => (p.1,(fun q:GrpV => q.x) p.2)) = yk8 (V.now + o.n) left V.st.groups from hxs]
   rw [yjX hnp (by rw [← hxs,List.map_map]; exact List.mem_map.2 ⟨_,hxm,rfl⟩),yk8,yk8,List.map_map]
   refine List.map_congr_left fun q hq => ?_
   simp only [Function.comp_apply]
   by_cases e1:q.1 = p.1
   ·have hqx:q = (p.1,x.x):=yjY hgnd hq hxg e1
    have h0:inL (yeJ left p.1) q.1 = false:=by rw [yD9,e1]; simp
    rw [if_pos (show inL left q.1 = true by rw [e1]; exact hpin),if_pos e1,h0]
    simp only [Bool.false_eq_true,if_false]
    rw [hqx]; rfl
   ·have hi:inL (yeJ left p.1) q.1 = inL left q.1:=by rw [yD9]; simp [e1]
    rw [hi]
    split <;> first | rfl | rw [if_neg e1]
  ·refine ((T.mod.trans M4).trans M5).less fun z hz hl => ?_
   simp only [List.mem_append,List.mem_cons,List.not_mem_nil,or_false] at hz ⊢
   rcases hz with (hz | hz) | hz
   ·exact hz
   ·exact .inl hz
   ·rcases hxF z hz with hz | hz
    ·exact .inr hz
    ·omega
end Go.Proofs.YteldhjiiocmicaaGreat
namespace Go.Proofs.YteldhjiiocmicaaGreat
open Go Go.RowKit Go.Maps Go.MapKept
set_option linter.unusedVariables false
set_option linter.unusedSimpArgs false
def ydG (P:PPart → Prop) (L:List (List PPart)):Prop:=∀ l ∈ L,∀ p ∈ l,P p
theorem ydG.give {P:PPart → Prop} {L:List (List PPart)} (h:ydG P L) {i:Nat} {p:PPart} (hp:P p):ydG P (yqP L i p):=fun l hl q hq => by
 rcases List.mem_or_eq_of_mem_set hl with hl | rfl
 ·exact h l hl q hq
 ·rcases List.mem_append.1 hq with hq | hq
  ·rw [List.getD_eq_getElem?_getD] at hq
   cases e:L[i]? with
   | none => rw [e] at hq; cases hq
   | some l => rw [e] at hq; exact h l (List.mem_of_getElem? e) q hq
  ·simp at hq; subst hq; exact hp
theorem ydG.fill {P:PPart → Prop} {t:ByteArray} {i:Nat}:∀ (n k:Nat) {L:List (List PPart)},ydG P L → (∀ j:Nat,k ≤ j → j < k + n → P ⟨t,(j:Int)⟩) → ydG P (yt9 t i k n L)
 | 0,_,_,h,_ => h
 | n + 1,k,L,h,hp => ydG.fill n (k + 1) (h.give (hp k (Nat.le_refl _) (by omega))) fun j h1 h2 => hp j (by omega) (by omega)
theorem yIi {N tot k:Nat} (hk:k < tot):k * (N / tot) + min k (N % tot) + ywT N tot k = (k + 1) * (N / tot) + min (k + 1) (N % tot):=by
 have e:(k + 1) * (N / tot) = k * (N / tot) + N / tot:=Nat.succ_mul _ _
 unfold ywT
 rw [e]
 split <;> omega
theorem yIj {N tot k:Nat} (hk:k ≤ tot) (h0:0 < tot):k * (N / tot) + min k (N % tot) ≤ N:=by
 have h1:k * (N / tot) ≤ tot * (N / tot):=Nat.mul_le_mul_right _ hk
 have h2:=Nat.div_add_mod N tot
 omega
theorem ydG.share {P:PPart → Prop} {t:ByteArray} {N tot:Nat} (hP:∀ j:Nat,j < N → P ⟨t,(j:Int)⟩):∀ (W:List Nat) (k c:Nat) {L:List (List PPart)},ydG P L → c = k * (N / tot) + min k (N % tot) → k + W.length ≤ tot → ydG P (yhR t N tot W k c L)
 | [],_,_,_,h,_,_ => h
 | i :: r,k,c,L,h,hc,hk => by
  rw [List.length_cons] at hk
  have e:=yIi (N:=N) (tot:=tot) (k:=k) (by omega)
  have t:=yIj (N:=N) (tot:=tot) (k:=k + 1) (by omega) (by omega)
  exact ydG.share hP r (k + 1) _ (ydG.fill _ _ h fun j h1 h2 => hP j (by omega)) (by omega) (by omega)
theorem ydG.range {P:PPart → Prop} {ms:List PMem}:∀ (l:List PTop) {L:List (List PPart)},(∀ x ∈ l,∀ j:Nat,j < x.n.toNat → P ⟨x.t,(j:Int)⟩) → ydG P L → ydG P (ygQ ms l L)
 | [],_,_,h => h
 | x :: r,L,hP,h => ydG.range r (fun y hy => hP y (by simp [hy])) (ydG.share (hP x (by simp)) _ 0 0 h (by simp) (by simp))
theorem ydG.deal {P:PPart → Prop} {ms:List PMem} {t:ByteArray}:∀ (r p place:Nat) {L:List (List PPart)},(∀ j:Nat,p ≤ j → j < p + r → P ⟨t,(j:Int)⟩) → ydG P L → ydG P (yi6 ms t p r place L).1
 | 0,_,_,_,_,h => h
 | r + 1,p,place,L,hP,h => by
  rw [yi6]
  cases yuA ms t place with
  | none => exact h
  | some i => exact ydG.deal r _ _ (fun j h1 h2 => hP j (by omega) (by omega)) (h.give (hP p (Nat.le_refl _) (by omega)))
theorem ydG.robin {P:PPart → Prop} {ms:List PMem}:∀ (l:List PTop) (place:Nat) {L:List (List PPart)},(∀ x ∈ l,∀ j:Nat,j < x.n.toNat → P ⟨x.t,(j:Int)⟩) → ydG P L → ydG P (yi7 ms l place L)
 | [],_,_,_,h => h
 | x :: r,place,L,hP,h => ydG.robin r _ (fun y hy => hP y (by simp [hy])) (ydG.deal _ _ _ (fun j h1 h2 => hP x (by simp) j (by omega)) h)
theorem yEb {s:PBr} {o:POp}:∀ p ∈ (ycY s o).2,ygP s.cat p = true:=by
 intro p hp
 unfold ycY ycF at hp
 split at hp
 ·cases hp
 split at hp
 ·cases hp
 have h0:ydG (fun p => ygP s.cat p = true) (List.replicate ((ydK (ya5 s o.g).G).map yn4).length []):=fun l hl q hq => by
  rw [List.eq_of_mem_replicate hl] at hq; cases hq
 have hx:∀ x ∈ ycR s.cat,∀ j:Nat,j < x.n.toNat → ygP s.cat ⟨x.t,(j:Int)⟩ = true:=fun x hx j hj => by
  obtain ⟨k,_,rfl⟩:=List.mem_map.1 hx
  simp only [ygP,decide_eq_true_eq]
  simp only at hj
  omega
 have hA:ydG (fun p => ygP s.cat p = true) (ywW (ya5 s o.g).robin (ycR s.cat) ((ydK (ya5 s o.g).G).map yn4)):=by
  unfold ywW
  split
  ·exact ydG.robin _ _ hx h0
  ·exact ydG.range _ hx h0
 rw [List.getD_eq_getElem?_getD] at hp
 cases e:(ywW (ya5 s o.g).robin (ycR s.cat) ((ydK (ya5 s o.g).G).map yn4))[(ycW ((ya5 s o.g).G.map (·.1))).findIdx (eqS o.m)]? with
 | none => rw [e] at hp; cases hp
 | some l => rw [e] at hp; exact hA l (List.mem_of_getElem? e) p hp
theorem BrGood.more {s:PBr} {N:Nat} (g:BrGood s N) (h:N + 1 ≤ 900):BrGood s (N + 1) :=
 { g with cd:=Nat.le_succ_of_le g.cd,ce:=Nat.le_succ_of_le g.ce,cm:=Nat.le_succ_of_le g.cm,lg:=fun q hq => ⟨(g.lg q hq).1,by have:=(g.lg q hq).2.1; omega,(g.lg q hq).2.2⟩,nN:=h }
theorem yi9 {κ β:Type} [DecidableEq κ]:∀ {L:List (κ × β)} {k:κ} {v:β},(lkp L k).isSome = true → (put L k v).length = L.length
 | [],_,_,h => by cases h
 | p :: r,k,v,h => by
  unfold lkp at h
  unfold put
  split
  ·rfl
  ·rename_i e
   rw [if_neg e] at h
   rw [List.length_cons,yi9 h,List.length_cons]
theorem yh6 {t:ByteArray} (p:PPart):∀ (n:Nat) (L:List (PPart × List SegS)),lkp (ydW t n L) p = if p.t = t ∧ 0 ≤ p.n ∧ p.n < n then some ytH else lkp L p
 | 0,L => by rw [ydW,if_neg (by omega)]
 | n + 1,L => by
  rw [ydW,yfB,yh6 p n L]
  by_cases e:p = ⟨t,(n:Int)⟩
  ·rw [if_pos e,if_pos (by subst e; exact ⟨rfl,by simp,by simp; omega⟩)]
  ·rw [if_neg e]
   have:¬ (p.t = t ∧ p.n = n):=fun h => e (by obtain ⟨a,b⟩:=p; simp at h; rw [h.1,h.2])
   by_cases h2:p.t = t ∧ 0 ≤ p.n ∧ p.n < n
   ·rw [if_pos h2,if_pos ⟨h2.1,h2.2.1,by omega⟩]
   ·rw [if_neg h2,if_neg (fun h3 => h2 ⟨h3.1,h3.2.1,by have:p.n ≠ n:=fun e => this ⟨h3.1,e⟩; omega⟩)]
theorem ynI {t:ByteArray} {q:PPart × List SegS}:∀ {n:Nat} {L:List (PPart × List SegS)},q ∈ ydW t n L → q.2 = ytH ∨ q ∈ L
 | 0,_,h => .inr h
 | n + 1,L,h => by
  rcases yd2 h with rfl | h
  ·exact .inl rfl
  ·exact ynI h
theorem yFH:∀ x ∈ ytH,∀ f ∈ x.l,f.r.key.size ≤ 64:=by simp [ytH]
theorem BrGood.topicG {s:PBr} {N:Nat} (g:BrGood s N) (o:POp) (h:N + 1 ≤ 900):BrGood (ypG s o).1 (N + 1):=by
 have g':=g.more h
 unfold ypG
 split
 case isFalse => exact g'
 rename_i h0
 obtain ⟨hno,h1,h8,hl⟩:=yL6 h0
 exact { g' with
  cl:=by have:=yiX s.cat o.part.t o.n; show (put s.cat o.part.t o.n).length ≤ 8; omega
  lg:=fun q hq => by
   rcases ynI hq with e | hq
   ·rw [e]; exact ⟨yHP g.r1 g.r2,by simp [ytH],yFH⟩
   ·exact g'.lg q hq
  has:=fun p hp => by
   show (lkp (ydW o.part.t o.n.toNat s.logs) p).isSome = true
   rw [yh6]
   split
   ·rfl
   ·rename_i hn
    refine g.has p ?_
    simp only [ygP,decide_eq_true_eq] at hp ⊢
    rw [yfB] at hp
    by_cases e:p.t = o.part.t
    ·rw [if_pos e] at hp
     simp only [Option.getD_some] at hp
     exact absurd ⟨e,hp.1,by omega⟩ hn
    ·rw [if_neg e] at hp; exact hp
  cat:=fun p hp => by
   show (lkp (put s.cat o.part.t o.n) p.t).isSome = true
   have hp:(lkp (ydW o.part.t o.n.toNat s.logs) p).isSome = true:=hp
   rw [yh6] at hp
   rw [yfB]
   split
   ·rfl
   ·rename_i e
    rw [if_neg (fun hh => e hh.1)] at hp
    exact g.cat p hp }
theorem BrGood.producerG {s:PBr} {N:Nat} (g:BrGood s N) (o:POp) (h:N + 1 ≤ 900):BrGood (ygU s o).1 (N + 1):=by
 have g':=g.more h
 have hd:∀ q ∈ ym1 s.eps s.dd o.n,q ∈ s.dd:=fun q hq => by
  unfold ym1 at hq
  split at hq
  ·exact hq
  split at hq
  ·exact hq
  ·exact (List.mem_filter.1 hq).1
 have hdl:(ym1 s.eps s.dd o.n).length ≤ s.dd.length:=by
  unfold ym1
  split
  ·exact Nat.le_refl _
  split
  ·exact Nat.le_refl _
  ·exact List.length_filter_le _ _
 have hel:(yf6 s.eps o.n).length ≤ s.eps.length + 1:=by
  unfold yf6
  split
  ·omega
  split <;> simp
 exact { g' with
  ce:=by have:=g.ce; show (yf6 s.eps o.n).length ≤ N + 1; omega
  cd:=by have:=g.cd; show (ym1 s.eps s.dd o.n).length ≤ N + 1; omega
  cq:=fun q hq => g.cq q (hd q hq) }
theorem yGK {s:PBr} {N:Nat} (g:BrGood s (N + 1)) {p:PPart} {L:List SegS} (h1:LogOk s.room L) (h2:L.length ≤ N + 2) (h3:∀ x ∈ L,∀ f ∈ x.l,f.r.key.size ≤ 64):∀ q ∈ put s.logs p L,LogOk s.room q.2 ∧ q.2.length ≤ N + 1 + 1 ∧ ∀ x ∈ q.2,∀ f ∈ x.l,f.r.key.size ≤ 64:=fun q hq => by
 rcases yd2 hq with rfl | hq
 ·exact ⟨h1,h2,h3⟩
 ·exact g.lg q hq
theorem yzH {κ β:Type} [DecidableEq κ] {L:List (κ × β)} {k x:κ} {v:β} (h:(lkp L x).isSome = true):(lkp (put L k v) x).isSome = true:=by
 rw [yfB]; split
 ·rfl
 ·exact h
theorem yuP {κ β:Type} [DecidableEq κ] {L:List (κ × β)} {k x:κ} {v:β} (hk:(lkp L k).isSome = true) (h:(lkp (put L k v) x).isSome = true):(lkp L x).isSome = true:=by
 rw [yfB] at h
 split at h
 ·rename_i e; rw [e]; exact hk
 ·exact h
theorem yj5 {s:PBr} {N:Nat} (g:BrGood s N) {p:PPart} (hp:(lkp s.logs p).isSome = true):LogOk s.room (ycG s p) ∧ (ycG s p).length ≤ N + 1 ∧ ∀ x ∈ ycG s p,∀ f ∈ x.l,f.r.key.size ≤ 64:=by
 obtain ⟨L,hL⟩:=Option.isSome_iff_exists.1 hp
 have e:ycG s p = L:=by rw [ycG,hL]; rfl
 rw [e]
 exact g.lg (p,L) (yaQ hL)
theorem yzI:∀ (n:Int) (rs:List PRec),∀ f ∈ ynT n rs,f.r ∈ rs
 | _,[],f,h => by cases h
 | n,r :: rs,f,h => by
  rcases List.mem_cons.1 h with rfl | h
  ·simp
  ·exact List.mem_cons_of_mem _ (yzI _ rs f h)
theorem yFI {rs:List PRec} (h:yoW rs = 0):∀ r ∈ rs,r.key.size ≤ 64:=fun r hr => by
 have h2:yjS r = 0:=by
  unfold yoW at h
  cases e:rs.find? fun r => decide (yjS r ≠ 0) with
  | none =>
   have:=List.find?_eq_none.1 e r hr
   simpa using this
  | some x =>
   rw [e] at h
   have:=List.find?_some e
   simp at this
   exact absurd h this
 unfold yjS yMw at h2
 by_cases hh:r.key.size ≤ 64
 ·exact hh
 ·exfalso
  revert h2
  split <;> simp_all <;> omega
theorem yAP {room:Int} {L:List SegS} {rs:List PRec} (hL:∀ x ∈ L,∀ f ∈ x.l,f.r.key.size ≤ 64) (hr:∀ r ∈ rs,r.key.size ≤ 64):∀ x ∈ ygO room L rs,∀ f ∈ x.l,f.r.key.size ≤ 64:=by
 have hseg:∀ s:SegS,(∀ f ∈ s.l,f.r.key.size ≤ 64) → ∀ f ∈ (yfD s rs).l,f.r.key.size ≤ 64:=fun s hs f hf => by
  rcases List.mem_append.1 hf with hf | hf
  ·exact hs f hf
  ·exact hr _ (yzI _ _ f hf)
 intro x hx
 unfold ygO at hx
 split at hx
 ·exact hL x hx
 rename_i s hs
 split at hx
 ·rcases List.mem_append.1 hx with hx | hx
  ·exact hL x hx
  ·simp at hx; subst hx; exact hseg _ (by simp)
 ·rcases List.mem_or_eq_of_mem_set hx with hx | rfl
  ·exact hL x hx
  ·exact hseg s (hL s (List.mem_of_getElem? hs))
theorem BrGood.produceG {s:PBr} {N:Nat} (g:BrGood s N) (o:POp) (hp:(lkp s.logs o.part).isSome = true) (h:N + 1 ≤ 900):BrGood (yi8 s o).1 (N + 1):=by
 have g':=g.more h
 unfold yi8
 split
 ·exact g'
 split
 ·exact g'
 split
 ·exact g'
 rename_i h3
 have h3:yn0 s.room (ycG s o.part) o.b.recs = 0:=by simpa using h3
 obtain ⟨k1,k2,k3⟩:=yj5 g hp
 have hchk:yoW o.b.recs = 0:=by
  unfold yn0 at h3
  split at h3
  ·rename_i h4; exact absurd h3 h4
  ·rename_i h4; simpa using h4
 have hdl:(ym2 s.eps s.dd o.part o.b (yfO (ycG s o.part))).length ≤ s.dd.length + 1:=by
  unfold ym2
  split
  ·omega
  ·exact yiX _ _ _
 have hdq:∀ q ∈ ym2 s.eps s.dd o.part o.b (yfO (ycG s o.part)),q.2.length ≤ 5:=fun q hq => by
  unfold ym2 at hq
  split at hq
  ·exact g.cq q hq
  ·rcases yd2 hq with rfl | hq
   ·simp only [ylA,List.length_drop]; omega
   ·exact g.cq q hq
 exact { g' with
  cd:=by have:=g.cd; show (ym2 s.eps s.dd o.part o.b (yfO (ycG s o.part))).length ≤ N + 1; omega
  cq:=hdq
  lg:=yGK g' (k1.app h3) (by have:=yAj s.room (ycG s o.part) o.b.recs; omega) (yAP k3 (yFI hchk))
  has:=fun p hpp => yzH (g.has p hpp)
  cat:=fun p hpp => g.cat p (yuP hp hpp) }
theorem BrGood.setLogG {s:PBr} {N:Nat} (g:BrGood s (N + 1)) {p:PPart} (hp:(lkp s.logs p).isSome = true) {L:List SegS} (h1:LogOk s.room L) (h2:L.length ≤ N + 2) (h3:∀ x ∈ L,∀ f ∈ x.l,f.r.key.size ≤ 64):BrGood (ywZ s p L) (N + 1) :=
 { g with lg:=yGK g h1 h2 h3,has:=fun p hpp => yzH (g.has p hpp),cat:=fun p hpp => g.cat p (yuP hp hpp) }
theorem BrGood.retainG {s:PBr} {N:Nat} (g:BrGood s N) (o:POp) (hp:(lkp s.logs o.part).isSome = true) (h:N + 1 ≤ 900):BrGood (yqT s o).1 (N + 1):=by
 have g':=g.more h
 obtain ⟨k1,k2,k3⟩:=yj5 g hp
 have kd:=k1.drop (k:=yv5 (ycG s o.part) o.off) (by have:=yCV (ycG s o.part) o.off; have:=List.length_pos_iff.2 k1.ne; omega)
 have g2:=g'.setLogG hp kd (by rw [List.length_drop]; omega) (fun x hx => k3 x (List.mem_of_mem_drop hx))
 have hcm:(yo1 s.marks o.part (yk0 ((ycG s o.part).drop (yv5 (ycG s o.part) o.off)))).length ≤ N + 1:=by
  have:=g.cm
  unfold yo1
  split
  ·omega
  ·rw [List.length_map]; omega
 exact { g2 with cm:=hcm }
theorem BrGood.compactG {s:PBr} {N:Nat} (g:BrGood s N) (o:POp) (hp:(lkp s.logs o.part).isSome = true) (h:N + 1 ≤ 900):BrGood (ylQ s o).1 (N + 1):=by
 obtain ⟨k1,k2,k3⟩:=yj5 g hp
 have hs:=yuL (ycG s o.part)
 refine (g.more h).setLogG hp k1.comp (by rw [hs.1]; omega) fun x hx f hf => ?_
 obtain ⟨i,hi⟩:=List.getElem?_of_mem hx
 obtain ⟨s0,h0,_,_,h3⟩:=hs.2 i x hi
 exact k3 s0 (List.mem_of_getElem? h0) f (h3.subset hf)
def yFJ (G:GL):Prop:=G.length ≤ 8 ∧ ∀ x ∈ G,x.2.topics.length ≤ 8
theorem yj6 {s:PBr} {N:Nat} (g:BrGood s N) (k:ByteArray):yFJ (ya5 s k).G:=by
 cases e:lkp s.groups k with
 | none => rw [ya5,e]; exact ⟨by simp,by simp⟩
 | some x =>
  have:ya5 s k = x:=by rw [ya5,e]; rfl
  rw [this]
  exact g.gg (k,x) (yaQ e)
theorem BrGood.setGrpG {s:PBr} {N:Nat} (g:BrGood s (N + 1)) {k:ByteArray} {x:PGrp} (hl:(lkp s.groups k).isSome = true ∨ s.groups.length < 8) (hx:yFJ x.G):BrGood (ygT s k x) (N + 1) :=
 { g with
  cg:=by
   show (put s.groups k x).length ≤ 8
   rcases hl with hl | hl
   ·rw [yi9 hl]; exact g.cg
   ·have:=yiX s.groups k x; omega
  gg:=fun q hq => by
   rcases yd2 hq with rfl | hq
   ·exact hx
   ·exact g.gg q hq }
theorem BrGood.joinG {s:PBr} {N:Nat} (g:BrGood s N) (o:POp) (h:N + 1 ≤ 900):BrGood (yD1 s o).1 (N + 1):=by
 have g':=g.more h
 unfold yD1
 split
 ·exact g'
 rename_i h1
 split
 ·exact g'
 rename_i h2
 have h2:ybA (ya5 s o.g).gen (ya5 s o.g).robin (ya5 s o.g).G (yc9 s o) o.robin = 0:=by simpa using h2
 have hg:=yj6 g o.g
 refine g'.setGrpG ?_ ⟨?_,fun x hx => ?_⟩
 ·cases e:(lkp s.groups o.g).isSome with
  | true => exact .inl rfl
  | false => exact .inr (by by_cases hh:8 ≤ s.groups.length; exact absurd ⟨e,hh⟩ h1; omega)
 ·unfold ybA at h2
  split at h2
  ·cases h2
  split at h2
  ·cases h2
  split at h2
  ·cases h2
  rename_i h5
  show (put (ya5 s o.g).G o.m (yc9 s o)).length ≤ 8
  cases e:(lkp (ya5 s o.g).G o.m).isSome with
  | true => rw [yi9 e]; exact hg.1
  | false =>
   have:=yiX (ya5 s o.g).G o.m (yc9 s o)
   have h6:¬ 8 ≤ (ya5 s o.g).G.length:=fun hh => h5 (.inl ⟨hh,e⟩)
   omega
 ·rcases yd2 hx with rfl | hx
  ·unfold ybA at h2
   split at h2
   ·cases h2
   rename_i h5
   have h5:ycE (yc9 s o) = true:=by simpa using h5
   simp only [ycE,Bool.and_eq_true,decide_eq_true_eq] at h5
   exact h5.2.2.1.2
  ·exact hg.2 x hx
theorem BrGood.beatG2 {s:PBr} {N:Nat} (g:BrGood s N) (o:POp) (hl:(lkp s.groups o.g).isSome = true) (h:N + 1 ≤ 900):BrGood (yFD s o).1 (N + 1):=by
 have hg:=yj6 g o.g
 refine (g.more h).setGrpG (.inl hl) ?_
 show yFJ (if yn2 (ya5 s o.g).gen (ya5 s o.g).G o.m o.gen s.now = 0 then yAs (ya5 s o.g).G o.m s.now else (ya5 s o.g).G)
 split
 case isFalse => exact hg
 rename_i h0
 have hs:(lkp (ya5 s o.g).G o.m).isSome = true:=by
  cases e:(lkp (ya5 s o.g).G o.m).isSome with
  | true => rfl
  | false =>
   exfalso
   unfold yn2 ybM at h0
   split at h0
   ·cases h0
   ·first
     | (rw [if_pos e] at h0; cases h0)
     | exact absurd h0 (by decide)
 obtain ⟨y,hy⟩:=Option.isSome_iff_exists.1 hs
 refine ⟨by unfold yAs; rw [yi9 hs]; exact hg.1,fun x hx => ?_⟩
 unfold yAs at hx
 rcases yd2 hx with rfl | hx
 ·rw [hy]; exact hg.2 (o.m,y) (yaQ hy)
 ·exact hg.2 x hx
theorem BrGood.leaveG {s:PBr} {N:Nat} (g:BrGood s N) (o:POp) (hl:(lkp s.groups o.g).isSome = true) (h:N + 1 ≤ 900):BrGood (yzC s o).1 (N + 1):=by
 have hg:=yj6 g o.g
 refine (g.more h).setGrpG (.inl hl) ?_
 show yFJ (if ybM (ya5 s o.g).gen (ya5 s o.g).G o.m o.gen = 0 then del (ya5 s o.g).G o.m else (ya5 s o.g).G)
 split
 case isFalse => exact hg
 exact ⟨Nat.le_trans (yFg _ _) hg.1,fun x hx => hg.2 x (yx4 hx)⟩
theorem BrGood.commitG {s:PBr} {N:Nat} (g:BrGood s N) (o:POp) (h:N + 1 ≤ 900):BrGood (ygV s o).1 (N + 1):=by
 have g':=g.more h
 unfold ygV
 split
 ·exact g'
 split
 ·exact g'
 split
 ·exact g'
 have hcm:(if ymZ s.marks ⟨o.g,o.part,o.off⟩ = 0 then put s.marks (o.g,o.part) o.off else s.marks).length ≤ N + 1:=by
  have:=g.cm
  split
  ·have:=yiX s.marks (o.g,o.part) o.off; omega
  ·omega
 exact { g' with cm:=hcm }
theorem BrGood.tickG2 {s:PBr} {N:Nat} (g:BrGood s N) (o:POp) (ho:num o.n = true) (h:N + 1 ≤ 900):BrGood (yD3 s o).1 (N + 1):=by
 have g':=g.more h
 simp only [num,decide_eq_true_eq] at ho
 have n0:=g.n0
 unfold yD3
 split
 ·exact g'
 rename_i h1
 exact { g' with
  n0:=by show 0 ≤ s.now + o.n; omega
  n1:=by show s.now + o.n ≤ _; omega
  cg:=by show (s.groups.map _).length ≤ 8; rw [List.length_map]; exact g.cg
  gg:=fun q hq => by
   obtain ⟨p,hp,rfl⟩:=List.mem_map.1 hq
   have hg:=g.gg p hp
   exact ⟨Nat.le_trans (List.length_filter_le _ _) hg.1,fun x hx => hg.2 x (List.mem_filter.1 hx).1⟩ }
set_option maxHeartbeats 4000000 in
theorem BrGood.do {s:PBr} {N:Nat} (g:BrGood s N) (o:POp) (h:N + 1 ≤ 900):BrGood (doF s o).1 (N + 1):=by
 have g':=g.more h
 unfold doF
 split
 ·exact g'
 rename_i h1
 have hnum:num o.n = true:=by
  have h1:opE o = 0:=by simpa using h1
  unfold opE at h1
  split at h1
  ·cases h1
  split at h1
  ·cases h1
  split at h1
  ·cases h1
  rename_i h3
  have h3:num o.part.n = true ∧ num o.n = true ∧ num o.off = true ∧ num o.gen = true:=by simpa using h3
  exact h3.2.1
 split
 ·exact g'
 rename_i h2
 split
 ·exact g'
 rename_i h3
 have hp:ygW o.kind = true → (lkp s.logs o.part).isSome = true:=fun hk => g.has _ (by
  cases e:ygP s.cat o.part with
  | true => rfl
  | false => exact absurd ⟨hk,e⟩ h2)
 have hgr:yu1 o.kind = true → (lkp s.groups o.g).isSome = true:=fun hk => by
  cases e:(lkp s.groups o.g).isSome with
  | true => rfl
  | false => exact absurd ⟨hk,e⟩ h3
 unfold ylD
 split
 ·exact g.topicG o h
 split
 ·exact g.producerG o h
 split
 ·rename_i e; exact g.produceG o (hp (by rw [e]; decide)) h
 split
 ·exact g'
 split
 ·rename_i e; exact g.retainG o (hp (by rw [e]; decide)) h
 split
 ·rename_i e; exact g.compactG o (hp (by rw [e]; decide)) h
 split
 ·exact g.joinG o h
 split
 ·rename_i e; exact g.beatG2 o (hgr (by rw [e]; decide)) h
 split
 ·rename_i e; exact g.leaveG o (hgr (by rw [e]; decide)) h
 split
 ·exact g'
 split
 ·exact g.commitG o h
 split
 ·exact g'
 ·exact g.tickG2 o hnum h
end Go.Proofs.YteldhjiiocmicaaGreat
namespace Go.Proofs.YteldhjiiocmicaaGreat
open Go Go.RowKit
set_option linter.all false
section
set_option maxRecDepth 100000
variable {R:VWP} {w w0:World} {m:Nat} {i0 i1 i2 i3 i4 i5 i6 i7 i8 i9 j0 j1 j2 j3 j4 j5 j6 j7 j8 j9 k0 k1 k2 k3 k4 k5 k6 k7 k8 k9 l0 l1 l2 l3 l4 l5 l6 l7 l8 l9:Int} {s0 s1 s2 s3 s4 s5 s6 s7 s8 s9 t0 t1 t2 t3 t4 t5 t6 t7 t8 t9:BA} {n0 n1 n2 n3 n4 n5 n6 n7 n8 n9 o0 o1 o2 o3 o4 o5 o6 o7 o8 o9 p0 p1 p2 p3 p4 p5 p6 p7 p8 p9:Nat} {q0 q1 q2 q3 q4 q5 q6 q7 q8 q9 r0 r1 r2 r3 r4 r5 r6 r7 r8 r9:OA} {B0 B1 B2 B3 B4 B5 B6 B7 B8 B9:Bool} {M0 M1 M2 M3:Option Nat} {V0 V1 V2 V3 V4 V5:Value} {A0 A1 A2:Addr}
def yfE:LA:=⟨[1,0,1,0,1,1,1],[0,3,4,6,42,43],[(0,0,0),(3,1,0),(4,2,0)],3,[0]⟩
def yf9:LA:=⟨[1,1,1,0,1,0,1,1,1],[0,3,4,6,58],[(0,0,0),(3,1,0),(4,2,0)],3,[0]⟩
def yqY:List LA:=[yfE,yf9,⟨9 :: [0,1,1,1,1],[75,18,19,21,22,23,24,26,27,28,29,30,25,20],[],0,[]⟩]
abbrev yfV:=dnF pP yqY (code Tryz.f6)
abbrev yMR:=yaR pP yqY (code Tryz.f6)
abbrev yfW (p:List Nat) (K:List Kh) (R:VWP):=yaR pP yqY (code Tryz.f6) p K (ybE pP Tryz.f6 [0] R)
def ygZ:(Option Nat) × Int × Bool × Nat × Int × Int × (Option Addr) × (Option Nat) × (Option Addr) × (Option Nat) × (Option Addr) × Nat × Int × ByteArray × Int × Int × Int × Int × Int × Int × (Option Addr) × Nat × Nat × ByteArray × ByteArray × Int × Bool × (Option Addr) × Nat × Nat × Nat → List Value × List TB:=fun (c7,c6,c5,bm0,b6,b7,b1,a8,b2,a9,b3,bm1,b8,b4,b9,c0,c1,c2,c3,c4,a6,b0,a7,b5,a3,a5,a4,a0,a2,a1,bm2) => ([(.pointer (some ⟨bm0,0,none⟩)),(.pointer (some ⟨bm1,0,none⟩)),(.pointer (some ⟨bm2,0,none⟩)),(.map c7),.int .i64 c6,.bool c5],[⟨bm0,58,[.int .i64 b6,.int .i64 b7,.pointer b1,(.map a8),.pointer b2,(.map a9),.pointer b3],true⟩,⟨bm1,39,[.int .i64 b8,.string b4,.int .i64 b9,.int .i64 c0,.int .i64 c1,.int .i64 c2,.int .i64 c3,.int .i64 c4,.slice a6 b0 a7,.string b5,.string a3,.int .i64 a5,.bool a4,.slice a0 a2 a1],false⟩,⟨bm2,30,[.int .i64 0,.int .i64 0,.int .i64 0,.int .i64 0,.slice none 0 0,.slice none 0 0],false⟩])
def yh7:(Option Nat) × Bool × Nat × Int × Int × (Option Addr) × (Option Nat) × (Option Addr) × (Option Nat) × (Option Addr) × Nat × Int × ByteArray × Int × Int × Int × Int × Int × Int × (Option Addr) × Nat × Nat × ByteArray × ByteArray × Int × Bool × (Option Addr) × Nat × Nat × Nat → List Value × List TB:=fun (c6,c5,bm0,b6,b7,b1,a8,b2,a9,b3,bm1,b8,b4,b9,c0,c1,c2,c3,c4,a6,b0,a7,b5,a3,a5,a4,a0,a2,a1,bm2) => ([(.pointer (some ⟨bm0,0,none⟩)),(.pointer (some ⟨bm1,0,none⟩)),(.pointer (some ⟨bm2,0,none⟩)),(.map c6),.bool c5],[⟨bm0,58,[.int .i64 b6,.int .i64 b7,.pointer b1,(.map a8),.pointer b2,(.map a9),.pointer b3],true⟩,⟨bm1,39,[.int .i64 b8,.string b4,.int .i64 b9,.int .i64 c0,.int .i64 c1,.int .i64 c2,.int .i64 c3,.int .i64 c4,.slice a6 b0 a7,.string b5,.string a3,.int .i64 a5,.bool a4,.slice a0 a2 a1],false⟩,⟨bm2,30,[.int .i64 0,.int .i64 0,.int .i64 0,.int .i64 0,.slice none 0 0,.slice none 0 0],false⟩])
def yw2 (c7:Option Nat) (c5:Int) (g7:Bool) (bm0:Nat) (b1 b2:Int) (a0:OA) (a3:Option Nat) (a6:OA) (a4:Option Nat) (a7:OA) (bm1:Nat) (b3:Int) (a8:BA) (b5 c0 c1 c2 c3 c4:Int) (b6:OA) (b8 b7:Nat) (b9 a9:BA) (b4:Int) (b0:Bool) (a1:OA) (a5 a2 bm2:Nat) (R:VWP) (w:World):Prop :=
 w.heap[bm0]? = some (.cells #[.int .i64 b1,.int .i64 b2,.pointer a0,(.map a3),.pointer a6,(.map a4),.pointer a7] 58) →
 brB g7 (
 ∀ d1,Adv [] [] w d1 → d1.heap[bm0]? = some (.cells #[.int .i64 b1,.int .i64 b2,.pointer a0,(.map a3),.pointer a6,(.map a4),.pointer a7] 58) →
 Calls pP 31 #[.pointer a0,(.agg #[.string a8,.int .i64 b5])] d1 fun e c6 => ∃ g2,e = .returned (.bool g2) ∧ yaV [bm0] [(bm1,39),(bm2,30)] [bm1,bm2] d1 c6 ∧ ∃ h1 h2 g8,∃ m72:Option Nat,∃ g9,∃ m74:Option Nat,∃ h0,c6.heap[bm0]? = some (.cells #[.int .i64 h1,.int .i64 h2,.pointer g8,(.map m72),.pointer g9,(.map m74),.pointer h0] 58) ∧
 brB (!g2) (
 Calls pP 17 #[.int .i64 91] c6 fun e f1 => ∃ g3 g4 g5 g6 g1 d9 d5 d2 e0 d6,e = .returned (.agg (Z1 g3 g4 g5 g6 g1 d9 d5 d2 e0 d6)) ∧ yaV [bm0] [(bm1,39),(bm2,30)] [bm1,bm2] c6 f1 ∧ ∃ f2 f3 e3,∃ m108:Option Nat,∃ e4,∃ m110:Option Nat,∃ e5,f1.heap[bm0]? = some (.cells #[.int .i64 f2,.int .i64 f3,.pointer e3,(.map m108),.pointer e4,(.map m110),.pointer e5] 58) ∧
 ∀ c8,Adv [bm2] [] f1 c8 → c8.heap[bm0]? = some (.cells #[.int .i64 f2,.int .i64 f3,.pointer e3,(.map m108),.pointer e4,(.map m110),.pointer e5] 58) →
 R (.agg (Z1 g3 g4 g5 g6 g1 d9 d5 d2 e0 d6)) c8)
 (
 yHw (fun gf =>
 ∃ e6:Option Addr,
 ∃ f0,(∀ w',Mod [] c6 w' → (Instr.lookup 61 (.map c7) (.int .i64 b3) false).run pP w' = .ok f0 w') ∧ f0 = (.func (.func gf) #[.pointer e6] #[]) ∧
 Calls pP gf #[.pointer e6,(.agg (Z0 b3 a8 b5 c0 c1 c2 c3 c4 b6 b8 b7 b9 a9 b4 b0 a1 a5 a2))] c6 fun e c9 => ∃ f4 f5 f7 f8 d3 e1 d7 d4 e2 d8,e = .returned (.agg (Z1 f4 f5 f7 f8 d3 e1 d7 d4 e2 d8)) ∧ yaV [bm0] [(bm1,39),(bm2,30)] [bm1,bm2] c6 c9 ∧ ∃ f9 g0 e7,∃ m149:Option Nat,∃ e8,∃ m151:Option Nat,∃ e9,c9.heap[bm0]? = some (.cells #[.int .i64 f9,.int .i64 g0,.pointer e7,(.map m149),.pointer e8,(.map m151),.pointer e9] 58) ∧
 ∀ d0,Adv [bm2] [] c9 d0 → d0.heap[bm0]? = some (.cells #[.int .i64 f9,.int .i64 g0,.pointer e7,(.map m149),.pointer e8,(.map m151),.pointer e9] 58) →
 R (.agg (Z1 f4 f5 f7 f8 d3 e1 d7 d4 e2 d8)) d0) [18,19,21,22,23,24,26,27,28,29,30,25,20]))
 (
 brB (c5 == 7) (
 yf2 yf9 ((yfV 394 [1,1,1,0,1,0,1,1,1]) (yfW [1,1,1,0,1,0,1,1] [] R)) (yh7 (c7,(c5 == 7),bm0,b1,b2,a0,a3,a6,a4,a7,bm1,b3,a8,b5,c0,c1,c2,c3,c4,b6,b8,b7,b9,a9,b4,b0,a1,a5,a2,bm2)) w)
 (
 brB (c5 == 8) (
 yf2 yf9 ((yfV 394 [1,1,1,0,1,0,1,1,1]) (yfW [1,1,1,0,1,0,1,1] [] R)) (yh7 (c7,(c5 == 8),bm0,b1,b2,a0,a3,a6,a4,a7,bm1,b3,a8,b5,c0,c1,c2,c3,c4,b6,b8,b7,b9,a9,b4,b0,a1,a5,a2,bm2)) w)
 (
 brB (c5 == 9) (
 yf2 yf9 ((yfV 394 [1,1,1,0,1,0,1,1,1]) (yfW [1,1,1,0,1,0,1,1] [] R)) (yh7 (c7,(c5 == 9),bm0,b1,b2,a0,a3,a6,a4,a7,bm1,b3,a8,b5,c0,c1,c2,c3,c4,b6,b8,b7,b9,a9,b4,b0,a1,a5,a2,bm2)) w)
 (
 yf2 yf9 ((yfV 394 [1,1,1,0,1,0,1,1,1]) (yfW [1,1,1,0,1,0,1,1] [] R)) (yh7 (c7,(c5 == 10),bm0,b1,b2,a0,a3,a6,a4,a7,bm1,b3,a8,b5,c0,c1,c2,c3,c4,b6,b8,b7,b9,a9,b4,b0,a1,a5,a2,bm2)) w))))
theorem yEc (J:Option Nat → Int → Bool → Nat → Int → Int → Option Addr → Option Nat → Option Addr → Option Nat → Option Addr → Nat → Int → ByteArray → Int → Int → Int → Int → Int → Int → Option Addr → Nat → Nat → ByteArray → ByteArray → Int → Bool → Option Addr → Nat → Nat → Nat → World → Prop) (h0:J M0 i0 B0 n0 i1 i2 q0 M1 q1 M2 q2 n1 i3 s0 i4 i5 i6 i7 i8 i9 q3 n2 n3 s1 s2 j0 B1 q4 n4 n5 n6 w0)
 (hr:∀ (f1:Option Nat) (f0:Int) (e9:Bool) (bm0:Nat) (b6 b7:Int) (b1:OA) (a8:Option Nat) (b2:OA) (a9:Option Nat) (b3:OA) (bm1:Nat) (b8:Int) (b4:BA) (b9 c0 c1 c2 c3 c4:Int) (a6:OA) (b0 a7:Nat) (b5 s0:BA) (a5:Int) (a4:Bool) (a1:OA) (a3 a2 bm2:Nat) (w:World),J f1 f0 e9 bm0 b6 b7 b1 a8 b2 a9 b3 bm1 b8 b4 b9 c0 c1 c2 c3 c4 a6 b0 a7 b5 s0 a5 a4 a1 a3 a2 bm2 w → yw2 f1 f0 e9 bm0 b6 b7 b1 a8 b2 a9 b3 bm1 b8 b4 b9 c0 c1 c2 c3 c4 a6 b0 a7 b5 s0 a5 a4 a1 a3 a2 bm2 R w) :
 yf2 yfE ((yfV 395 [1,0,1,0,1,1,1]) (yfW [1,1,1,0,1,0] [] R)) (ygZ (M0,i0,B0,n0,i1,i2,q0,M1,q1,M2,q2,n1,i3,s0,i4,i5,i6,i7,i8,i9,q3,n2,n3,s1,s2,j0,B1,q4,n4,n5,n6)) w0 :=
 crule (ygZ) (V31 J) h0 (by rintro ⟨f1,f0,e9,bm0,b6,b7,b1,a8,b2,a9,b3,bm1,b8,b4,b9,c0,c1,c2,c3,c4,a6,b0,a7,b5,s0,a5,a4,a1,a3,a2,bm2⟩ w h; exact ⟨by kernel_rfl,by kernel_rfl,fun js => Eq.mpr (by kernel_rfl) (hr f1 f0 e9 bm0 b6 b7 b1 a8 b2 a9 b3 bm1 b8 b4 b9 c0 c1 c2 c3 c4 a6 b0 a7 b5 s0 a5 a4 a1 a3 a2 bm2 w h)⟩)
theorem yjA (h:yw2 M0 i0 B0 n0 i1 i2 q0 M1 q1 M2 q2 n1 i3 s0 i4 i5 i6 i7 i8 i9 q3 n2 n3 s1 s2 j0 B1 q4 n4 n5 n6 R w) :
 yf2 yfE ((yfV 395 [1,0,1,0,1,1,1]) (yfW [1,1,1,0,1,0] [] R)) (ygZ (M0,i0,B0,n0,i1,i2,q0,M1,q1,M2,q2,n1,i3,s0,i4,i5,i6,i7,i8,i9,q3,n2,n3,s1,s2,j0,B1,q4,n4,n5,n6)) w :=
 yEc (fun f5 f3 f2 bm0' e1 e2 d6 d3 d7 d4 d8 bm1' e3 d9 e4 e5 e6 e7 e8 e9 d1 d5 d2 e0 b8 c4 c0 a6 b2 a8 bm2' w' => f5 = M0 ∧ f3 = i0 ∧ f2 = B0 ∧ bm0' = n0 ∧ e1 = i1 ∧ e2 = i2 ∧ d6 = q0 ∧ d3 = M1 ∧ d7 = q1 ∧ d4 = M2 ∧ d8 = q2 ∧ bm1' = n1 ∧ e3 = i3 ∧ d9 = s0 ∧ e4 = i4 ∧ e5 = i5 ∧ e6 = i6 ∧ e7 = i7 ∧ e8 = i8 ∧ e9 = i9 ∧ d1 = q3 ∧ d5 = n2 ∧ d2 = n3 ∧ e0 = s1 ∧ b8 = s2 ∧ c4 = j0 ∧ c0 = B1 ∧ a6 = q4 ∧ b2 = n4 ∧ a8 = n5 ∧ bm2' = n6 ∧ w' = w) ⟨rfl,rfl,rfl,rfl,rfl,rfl,rfl,rfl,rfl,rfl,rfl,rfl,rfl,rfl,rfl,rfl,rfl,rfl,rfl,rfl,rfl,rfl,rfl,rfl,rfl,rfl,rfl,rfl,rfl,rfl,rfl,rfl⟩ (by rintro f5 f3 f2 bm0' e1 e2 d6 d3 d7 d4 d8 bm1' e3 d9 e4 e5 e6 e7 e8 e9 d1 d5 d2 e0 b8 c4 c0 a6 b2 a8 bm2' w' ⟨rfl,rfl,rfl,rfl,rfl,rfl,rfl,rfl,rfl,rfl,rfl,rfl,rfl,rfl,rfl,rfl,rfl,rfl,rfl,rfl,rfl,rfl,rfl,rfl,rfl,rfl,rfl,rfl,rfl,rfl,rfl,rfl⟩; exact h)
def yw3 (u3:Option Nat) (u4:Bool) (bm0:Nat) (a8 a9:Int) (a3:OA) (a2:Option Nat) (a4:OA) (a0:Option Nat) (a5:OA) (bm1:Nat) (a1:Int) (c0:BA) (c1 c2 c3 c4 c5 c6:Int) (b7:OA) (b9 b8:Nat) (a6 b3:BA) (b5:Int) (b4:Bool) (b0:OA) (b2 b1 bm2:Nat) (R:VWP) (w:World):Prop :=
 w.heap[bm0]? = some (.cells #[.int .i64 a8,.int .i64 a9,.pointer a3,(.map a2),.pointer a4,(.map a0),.pointer a5] 58) →
 brB u4 (
 ∃ f1,(∀ w',Mod [] w w' → (Instr.lookup 54 (.map a0) (.string a6) false).run pP w' = .ok (.pointer f1) w') ∧
 brB (Option.isNone f1) (
 ∀ b6,Adv [] [] w b6 → b6.heap[bm0]? = some (.cells #[.int .i64 a8,.int .i64 a9,.pointer a3,(.map a2),.pointer a4,(.map a0),.pointer a5] 58) →
 Calls pP 17 #[.int .i64 110] b6 fun e c7 => ∃ g5 g6 g7 g8 d3 e5 d9 d4 e6 e0,e = .returned (.agg (Z1 g5 g6 g7 g8 d3 e5 d9 d4 e6 e0)) ∧ yaV [bm0] [(bm1,39),(bm2,30)] [bm1,bm2] b6 c7 ∧ ∃ g9 h0 f2,∃ m189:Option Nat,∃ f3,∃ m191:Option Nat,∃ f4,c7.heap[bm0]? = some (.cells #[.int .i64 g9,.int .i64 h0,.pointer f2,(.map m189),.pointer f3,(.map m191),.pointer f4] 58) ∧
 ∀ c8,Adv [bm2] [] c7 c8 → c8.heap[bm0]? = some (.cells #[.int .i64 g9,.int .i64 h0,.pointer f2,(.map m189),.pointer f3,(.map m191),.pointer f4] 58) →
 R (.agg (Z1 g5 g6 g7 g8 d3 e5 d9 d4 e6 e0)) c8)
 (
 yHw (fun gf =>
 ∃ f5:Option Addr,
 ∀ a7,Adv [] [] w a7 → a7.heap[bm0]? = some (.cells #[.int .i64 a8,.int .i64 a9,.pointer a3,(.map a2),.pointer a4,(.map a0),.pointer a5] 58) →
 ∃ g3,(∀ w',Mod [] a7 w' → (Instr.lookup 61 (.map u3) (.int .i64 a1) false).run pP w' = .ok g3 w') ∧ g3 = (.func (.func gf) #[.pointer f5] #[]) ∧
 Calls pP gf #[.pointer f5,(.agg (Z0 a1 c0 c1 c2 c3 c4 c5 c6 b7 b9 b8 a6 b3 b5 b4 b0 b2 b1))] a7 fun e c9 => ∃ h1 h2 h3 h4 d5 e7 e1 d6 e8 e2,e = .returned (.agg (Z1 h1 h2 h3 h4 d5 e7 e1 d6 e8 e2)) ∧ yaV [bm0] [(bm1,39),(bm2,30)] [bm1,bm2] a7 c9 ∧ ∃ h5 h6 f6,∃ m232:Option Nat,∃ f7,∃ m234:Option Nat,∃ f8,c9.heap[bm0]? = some (.cells #[.int .i64 h5,.int .i64 h6,.pointer f6,(.map m232),.pointer f7,(.map m234),.pointer f8] 58) ∧
 ∀ d0,Adv [bm2] [] c9 d0 → d0.heap[bm0]? = some (.cells #[.int .i64 h5,.int .i64 h6,.pointer f6,(.map m232),.pointer f7,(.map m234),.pointer f8] 58) →
 R (.agg (Z1 h1 h2 h3 h4 d5 e7 e1 d6 e8 e2)) d0) [18,19,21,22,23,24,26,27,28,29,30,25,20]))
 (
 yHw (fun gf =>
 ∃ f9:Option Addr,
 ∃ g4,(∀ w',Mod [] w w' → (Instr.lookup 61 (.map u3) (.int .i64 a1) false).run pP w' = .ok g4 w') ∧ g4 = (.func (.func gf) #[.pointer f9] #[]) ∧
 Calls pP gf #[.pointer f9,(.agg (Z0 a1 c0 c1 c2 c3 c4 c5 c6 b7 b9 b8 a6 b3 b5 b4 b0 b2 b1))] w fun e d1 => ∃ h7 h8 h9 u0 d7 e9 e3 d8 f0 e4,e = .returned (.agg (Z1 h7 h8 h9 u0 d7 e9 e3 d8 f0 e4)) ∧ yaV [bm0] [(bm1,39),(bm2,30)] [bm1,bm2] w d1 ∧ ∃ u1 u2 g0,∃ m273:Option Nat,∃ g1,∃ m275:Option Nat,∃ g2,d1.heap[bm0]? = some (.cells #[.int .i64 u1,.int .i64 u2,.pointer g0,(.map m273),.pointer g1,(.map m275),.pointer g2] 58) ∧
 ∀ d2,Adv [bm2] [] d1 d2 → d2.heap[bm0]? = some (.cells #[.int .i64 u1,.int .i64 u2,.pointer g0,(.map m273),.pointer g1,(.map m275),.pointer g2] 58) →
 R (.agg (Z1 h7 h8 h9 u0 d7 e9 e3 d8 f0 e4)) d2) [18,19,21,22,23,24,26,27,28,29,30,25,20])
theorem yEd (J:Option Nat → Bool → Nat → Int → Int → Option Addr → Option Nat → Option Addr → Option Nat → Option Addr → Nat → Int → ByteArray → Int → Int → Int → Int → Int → Int → Option Addr → Nat → Nat → ByteArray → ByteArray → Int → Bool → Option Addr → Nat → Nat → Nat → World → Prop) (h0:J M0 B0 n0 i0 i1 q0 M1 q1 M2 q2 n1 i2 s0 i3 i4 i5 i6 i7 i8 q3 n2 n3 s1 s2 i9 B1 q4 n4 n5 n6 w0)
 (hr:∀ (f0:Option Nat) (e9:Bool) (bm0:Nat) (b6 b7:Int) (b1:OA) (a8:Option Nat) (b2:OA) (a9:Option Nat) (b3:OA) (bm1:Nat) (b8:Int) (b4:BA) (b9 c0 c1 c2 c3 c4:Int) (a6:OA) (b0 a7:Nat) (b5 s0:BA) (a5:Int) (a4:Bool) (a1:OA) (a3 a2 bm2:Nat) (w:World),J f0 e9 bm0 b6 b7 b1 a8 b2 a9 b3 bm1 b8 b4 b9 c0 c1 c2 c3 c4 a6 b0 a7 b5 s0 a5 a4 a1 a3 a2 bm2 w → yw3 f0 e9 bm0 b6 b7 b1 a8 b2 a9 b3 bm1 b8 b4 b9 c0 c1 c2 c3 c4 a6 b0 a7 b5 s0 a5 a4 a1 a3 a2 bm2 R w) :
 yf2 yf9 ((yfV 394 [1,1,1,0,1,0,1,1,1]) (yfW [1,1,1,0,1,0,1,1] [] R)) (yh7 (M0,B0,n0,i0,i1,q0,M1,q1,M2,q2,n1,i2,s0,i3,i4,i5,i6,i7,i8,q3,n2,n3,s1,s2,i9,B1,q4,n4,n5,n6)) w0 :=
 crule (yh7) (V30 J) h0 (by rintro ⟨f0,e9,bm0,b6,b7,b1,a8,b2,a9,b3,bm1,b8,b4,b9,c0,c1,c2,c3,c4,a6,b0,a7,b5,s0,a5,a4,a1,a3,a2,bm2⟩ w h; exact ⟨by kernel_rfl,by kernel_rfl,fun js => Eq.mpr (by kernel_rfl) (hr f0 e9 bm0 b6 b7 b1 a8 b2 a9 b3 bm1 b8 b4 b9 c0 c1 c2 c3 c4 a6 b0 a7 b5 s0 a5 a4 a1 a3 a2 bm2 w h)⟩)
theorem ylR (h:yw3 M0 B0 n0 i0 i1 q0 M1 q1 M2 q2 n1 i2 s0 i3 i4 i5 i6 i7 i8 q3 n2 n3 s1 s2 i9 B1 q4 n4 n5 n6 R w) :
 yf2 yf9 ((yfV 394 [1,1,1,0,1,0,1,1,1]) (yfW [1,1,1,0,1,0,1,1] [] R)) (yh7 (M0,B0,n0,i0,i1,q0,M1,q1,M2,q2,n1,i2,s0,i3,i4,i5,i6,i7,i8,q3,n2,n3,s1,s2,i9,B1,q4,n4,n5,n6)) w :=
 yEd (fun f3 f1 bm0' e1 e2 d6 d3 d7 d4 d8 bm1' e3 d9 e4 e5 e6 e7 e8 e9 d1 d5 d2 e0 b8 c4 c0 a6 b2 a8 bm2' w' => f3 = M0 ∧ f1 = B0 ∧ bm0' = n0 ∧ e1 = i0 ∧ e2 = i1 ∧ d6 = q0 ∧ d3 = M1 ∧ d7 = q1 ∧ d4 = M2 ∧ d8 = q2 ∧ bm1' = n1 ∧ e3 = i2 ∧ d9 = s0 ∧ e4 = i3 ∧ e5 = i4 ∧ e6 = i5 ∧ e7 = i6 ∧ e8 = i7 ∧ e9 = i8 ∧ d1 = q3 ∧ d5 = n2 ∧ d2 = n3 ∧ e0 = s1 ∧ b8 = s2 ∧ c4 = i9 ∧ c0 = B1 ∧ a6 = q4 ∧ b2 = n4 ∧ a8 = n5 ∧ bm2' = n6 ∧ w' = w) ⟨rfl,rfl,rfl,rfl,rfl,rfl,rfl,rfl,rfl,rfl,rfl,rfl,rfl,rfl,rfl,rfl,rfl,rfl,rfl,rfl,rfl,rfl,rfl,rfl,rfl,rfl,rfl,rfl,rfl,rfl,rfl⟩ (by rintro f3 f1 bm0' e1 e2 d6 d3 d7 d4 d8 bm1' e3 d9 e4 e5 e6 e7 e8 e9 d1 d5 d2 e0 b8 c4 c0 a6 b2 a8 bm2' w' ⟨rfl,rfl,rfl,rfl,rfl,rfl,rfl,rfl,rfl,rfl,rfl,rfl,rfl,rfl,rfl,rfl,rfl,rfl,rfl,rfl,rfl,rfl,rfl,rfl,rfl,rfl,rfl,rfl,rfl,rfl,rfl⟩; exact h)
theorem yIk {b0:Nat} {a6 a5:Nat} {a3 a2:Nat} (hb:w.heap[b0]? = some (.cells #[.int .i64 i0,.int .i64 i1,.pointer q0,(.map M0),.pointer q1,(.map M1),.pointer q2] 58)) (h :
 ∀ b3,w.heap.size ≤ b3 →
 ∀ b4,w.heap.size ≤ b4 →
 ∀ w8,Adv [] [b4,b3] w w8 →
 Calls pP 16 #[(.agg (Z0 i2 s0 i3 i4 i5 i6 i7 i8 q3 a6 a5 s1 s2 i9 B0 q4 a3 a2))] w8 fun e w9 => ∃ d7,e = .returned (.int .i64 d7) ∧ yaF [b0,b3,b4] w8 w9 ∧
 brB (d7 != 0) (
 Calls pP 17 #[.int .i64 d7] w9 fun e e4 => ∃ e5 e6 e7 e8 d8 e2 e0 d9 e3 e1,e = .returned (.agg (Z1 e5 e6 e7 e8 d8 e2 e0 d9 e3 e1)) ∧ yaF [b0,b3,b4] w9 e4 ∧
 ∀ c4,Adv [b4] [] e4 c4 → c4.heap[b0]? = some (.cells #[.int .i64 i0,.int .i64 i1,.pointer q0,(.map M0),.pointer q1,(.map M1),.pointer q2] 58) →
 R (.agg (Z1 e5 e6 e7 e8 d8 e2 e0 d9 e3 e1)) c4)
 (
 al w9 (.map #[] 0) fun a7 e9 =>
 ∀ c3,Adv [] [] e9 c3 → c3.heap[b0]? = some (.cells #[.int .i64 i0,.int .i64 i1,.pointer q0,(.map M0),.pointer q1,(.map M1),.pointer q2] 58) →
 ydM pP (Instr.mapUpdate 61 (.map (some a7)) (.int .i64 0) (.func (.func 18) #[(.pointer (some ⟨b0,0,none⟩))] #[])) c3 fun c5 => yaF [b0,b3,b4] c3 c5 ∧
 ydM pP (Instr.mapUpdate 61 (.map (some a7)) (.int .i64 1) (.func (.func 19) #[(.pointer (some ⟨b0,0,none⟩))] #[])) c5 fun c6 => yaF [b0,b3,b4] c5 c6 ∧
 ydM pP (Instr.mapUpdate 61 (.map (some a7)) (.int .i64 12) (.func (.func 20) #[(.pointer (some ⟨b0,0,none⟩))] #[])) c6 fun c7 => yaF [b0,b3,b4] c6 c7 ∧
 ydM pP (Instr.mapUpdate 61 (.map (some a7)) (.int .i64 2) (.func (.func 21) #[(.pointer (some ⟨b0,0,none⟩))] #[])) c7 fun c8 => yaF [b0,b3,b4] c7 c8 ∧
 ydM pP (Instr.mapUpdate 61 (.map (some a7)) (.int .i64 3) (.func (.func 22) #[(.pointer (some ⟨b0,0,none⟩))] #[])) c8 fun c9 => yaF [b0,b3,b4] c8 c9 ∧
 ydM pP (Instr.mapUpdate 61 (.map (some a7)) (.int .i64 4) (.func (.func 23) #[(.pointer (some ⟨b0,0,none⟩))] #[])) c9 fun d0 => yaF [b0,b3,b4] c9 d0 ∧
 ydM pP (Instr.mapUpdate 61 (.map (some a7)) (.int .i64 5) (.func (.func 24) #[(.pointer (some ⟨b0,0,none⟩))] #[])) d0 fun d1 => yaF [b0,b3,b4] d0 d1 ∧
 ydM pP (Instr.mapUpdate 61 (.map (some a7)) (.int .i64 11) (.func (.func 25) #[(.pointer (some ⟨b0,0,none⟩))] #[])) d1 fun d2 => yaF [b0,b3,b4] d1 d2 ∧
 ydM pP (Instr.mapUpdate 61 (.map (some a7)) (.int .i64 6) (.func (.func 26) #[(.pointer (some ⟨b0,0,none⟩))] #[])) d2 fun d3 => yaF [b0,b3,b4] d2 d3 ∧
 ydM pP (Instr.mapUpdate 61 (.map (some a7)) (.int .i64 7) (.func (.func 27) #[(.pointer (some ⟨b0,0,none⟩))] #[])) d3 fun d4 => yaF [b0,b3,b4] d3 d4 ∧
 ydM pP (Instr.mapUpdate 61 (.map (some a7)) (.int .i64 8) (.func (.func 28) #[(.pointer (some ⟨b0,0,none⟩))] #[])) d4 fun d5 => yaF [b0,b3,b4] d4 d5 ∧
 ydM pP (Instr.mapUpdate 61 (.map (some a7)) (.int .i64 9) (.func (.func 29) #[(.pointer (some ⟨b0,0,none⟩))] #[])) d5 fun d6 => yaF [b0,b3,b4] d5 d6 ∧
 ydM pP (Instr.mapUpdate 61 (.map (some a7)) (.int .i64 10) (.func (.func 30) #[(.pointer (some ⟨b0,0,none⟩))] #[])) d6 fun c2 => yaF [b0,b3,b4] d6 c2 ∧
 brB (i2 == 2) (
 yf2 yfE ((yfV 395 [1,0,1,0,1,1,1]) (yfW [1,1,1,0,1,0] [] R)) (ygZ ((some a7),i2,(i2 == 2),b0,i0,i1,q0,M0,q1,M1,q2,b3,i2,s0,i3,i4,i5,i6,i7,i8,q3,a6,a5,s1,s2,i9,B0,q4,a3,a2,b4)) c2)
 (
 brB (i2 == 3) (
 yf2 yfE ((yfV 395 [1,0,1,0,1,1,1]) (yfW [1,1,1,0,1,0] [] R)) (ygZ ((some a7),i2,(i2 == 3),b0,i0,i1,q0,M0,q1,M1,q2,b3,i2,s0,i3,i4,i5,i6,i7,i8,q3,a6,a5,s1,s2,i9,B0,q4,a3,a2,b4)) c2)
 (
 brB (i2 == 4) (
 yf2 yfE ((yfV 395 [1,0,1,0,1,1,1]) (yfW [1,1,1,0,1,0] [] R)) (ygZ ((some a7),i2,(i2 == 4),b0,i0,i1,q0,M0,q1,M1,q2,b3,i2,s0,i3,i4,i5,i6,i7,i8,q3,a6,a5,s1,s2,i9,B0,q4,a3,a2,b4)) c2)
 (
 brB (i2 == 5) (
 yf2 yfE ((yfV 395 [1,0,1,0,1,1,1]) (yfW [1,1,1,0,1,0] [] R)) (ygZ ((some a7),i2,(i2 == 5),b0,i0,i1,q0,M0,q1,M1,q2,b3,i2,s0,i3,i4,i5,i6,i7,i8,q3,a6,a5,s1,s2,i9,B0,q4,a3,a2,b4)) c2)
 (
 yf2 yfE ((yfV 395 [1,0,1,0,1,1,1]) (yfW [1,1,1,0,1,0] [] R)) (ygZ ((some a7),i2,(i2 == 11),b0,i0,i1,q0,M0,q1,M1,q2,b3,i2,s0,i3,i4,i5,i6,i7,i8,q3,a6,a5,s1,s2,i9,B0,q4,a3,a2,b4)) c2)))))) :
 CR pP 6 #[(.pointer (some ⟨b0,0,none⟩)),(.agg (Z0 i2 s0 i3 i4 i5 i6 i7 i8 q3 a6 a5 s1 s2 i9 B0 q4 a3 a2))] w R :=
 yaJ Tryz.wide_mixed (an:=yqY) Tryz.func6 rfl rfl (by kernel_rfl) rfl hb (Eq.mpr (by kernel_rfl) h)
end
end Go.Proofs.YteldhjiiocmicaaGreat
namespace Go.Proofs.YteldhjiiocmicaaGreat
open Go Go.RowKit Go.Maps Go.MapKept
set_option linter.unusedVariables false
set_option linter.unusedSimpArgs false
set_option maxHeartbeats 2000000
theorem yzJ {o:POp} (h:opE o = 0):0 ≤ o.kind ∧ o.kind ≤ 12:=by
 unfold opE at h
 split at h
 ·cases h
 ·omega
theorem yj7 {s:ByteArray} (h:yoI s = true):s.size ≤ 16:=by have:s.size = 0:=of_decide_eq_true h; omega
theorem yzK {o:POp} (h:opE o = 0):OpFine o:=by
 unfold opE at h
 split at h
 ·cases h
 split at h
 ·cases h
 rename_i hf
 split at h
 ·cases h
 rename_i hn
 have hn:num o.part.n = true ∧ num o.n = true ∧ num o.off = true ∧ num o.gen = true:=by simpa using hn
 have hf:yvJ o = true:=by simpa using hf
 simp only [yvJ,Bool.and_eq_true,Bool.or_eq_true,Bool.not_eq_true'] at hf
 obtain ⟨⟨⟨⟨h1,h2⟩,h3⟩,h4⟩,h5⟩:=hf
 simp only [ymK,Bool.and_eq_true,Bool.or_eq_true] at h1
 obtain ⟨⟨⟨⟨⟨⟨⟨⟨a1,a2⟩,a3⟩,a4⟩,a5⟩,a6⟩,a7⟩,a8⟩,a9⟩:=h1
 refine ⟨?_,?_,?_,hn.1,hn.2.1,hn.2.2.1,hn.2.2.2,?_⟩
 ·rcases h2 with h2 | h2
  ·rcases a1 with (a1 | a1) | a1
   ·rw [a1] at h2; simp at h2
   ·rw [a1] at h2; simp at h2
   ·exact yj7 a1
  ·exact yc2 h2
 ·rcases h3 with h3 | h3
  ·rcases a6 with a6 | a6
   ·rw [a6] at h3; cases h3
   ·exact yj7 a6
  ·exact yc2 h3
 ·rcases h4 with h4 | h4
  ·rcases a7 with a7 | a7
   ·rw [a7] at h4; cases h4
   ·exact yj7 a7
  ·exact yc2 h4
 ·split at h
  ·unfold yfM at h
   split at h
   ·cases h
   rename_i hb
   have hb:num o.b.prod = true ∧ num o.b.epoch = true ∧ num o.b.seq = true:=by simpa using hb
   exact yeG hb.1
  ·rename_i hk
   rcases a5 with a5 | a5
   ·exfalso
    unfold ha yMh at a5
    by_cases k0:o.kind = 0
    ·rw [if_pos k0] at a5; revert a5; decide
    rw [if_neg k0] at a5
    by_cases k1:o.kind = 1
    ·rw [if_pos k1] at a5; revert a5; decide
    rw [if_neg k1,if_neg hk] at a5
    by_cases k3:o.kind = 3
    ·rw [if_pos k3] at a5; revert a5; decide
    rw [if_neg k3] at a5
    by_cases k4:o.kind = 4
    ·rw [if_pos k4] at a5; revert a5; decide
    rw [if_neg k4] at a5
    by_cases k5:o.kind = 5
    ·rw [if_pos k5] at a5; revert a5; decide
    rw [if_neg k5] at a5
    by_cases k6:o.kind = 6
    ·rw [if_pos k6] at a5; revert a5; decide
    rw [if_neg k6] at a5
    by_cases k7:o.kind = 7
    ·rw [if_pos k7] at a5; revert a5; decide
    rw [if_neg k7] at a5
    by_cases k8:o.kind = 8
    ·rw [if_pos k8] at a5; revert a5; decide
    rw [if_neg k8] at a5
    by_cases k9:o.kind = 9
    ·rw [if_pos k9] at a5; revert a5; decide
    rw [if_neg k9] at a5
    by_cases k10:o.kind = 10
    ·rw [if_pos k10] at a5; revert a5; decide
    rw [if_neg k10] at a5
    by_cases k11:o.kind = 11
    ·rw [if_pos k11] at a5; revert a5; decide
    rw [if_neg k11] at a5
    revert a5; decide
   ·have a5:o.b = ykX:=by simpa using a5
    rw [a5]; unfold s64; decide
def yhM (b gf:Nat):Value:=.func (.func gf) #[.pointer (some ⟨b,0,none⟩)] #[]
def yL7 (b:Nat):List (Int × Value):=put (put (put (put (put (put (put (put (put (put (put (put (put [] 0 (yhM b 18)) 1 (yhM b 19)) 12 (yhM b 20)) 2 (yhM b 21)) 3 (yhM b 22)) 4 (yhM b 23)) 5 (yhM b 24)) 11 (yhM b 25)) 6 (yhM b 26)) 7 (yhM b 27)) 8 (yhM b 28)) 9 (yhM b 29)) 10 (yhM b 30)
def yh8:List Nat:=[18,19,21,22,23,24,26,27,28,29,30,25,20]
theorem yzL {w:World} {b N:Nat} {V:BrV} (h:yc3 w b V) (g:BrGood V.st N) {o:POp} {rs ts:Sl} (hE:opE o = 0) (hO:∀ w',Mod (V.foot b) w w' → OpAt w' o rs ts)
  (hp:ygW o.kind = true → ygP V.cat o.part = true) (hg:yu1 o.kind = true → (lkp V.GP o.g).isSome = true) :
  ∃ gf,gf ∈ yh8 ∧ lkp (yL7 b) o.kind = some (yhM b gf) ∧ Calls pP gf #[.pointer (some ⟨b,0,none⟩),o.v rs ts] w fun e w' => ∃ v,e = .returned v ∧ yaX w b V (ylD V.st o) v w':=by
 have ho:=yzK hE
 obtain ⟨k0,k12⟩:=yzJ hE
 have hA:=hO w ((Mod.refl _).less (by simp))
 have hlog:ygW o.kind = true → ∃ x,lkp V.LP o.part = some x:=fun hk => by
  have:=g.has o.part (hp hk)
  rw [ypH,Option.isSome_map] at this
  exact Option.isSome_iff_exists.1 this
 have hgrp:yu1 o.kind = true → ∃ x,lkp V.GP o.g = some x:=fun hk => Option.isSome_iff_exists.1 (hg hk)
 have hk:o.kind = 0 ∨ o.kind = 1 ∨ o.kind = 2 ∨ o.kind = 3 ∨ o.kind = 4 ∨ o.kind = 5 ∨ o.kind = 6 ∨ o.kind = 7 ∨ o.kind = 8 ∨ o.kind = 9 ∨ o.kind = 10 ∨ o.kind = 11 ∨ o.kind = 12:=by omega
 unfold ylD
 rcases hk with hk | hk | hk | hk | hk | hk | hk | hk | hk | hk | hk | hk | hk
 ·rw [hk]; exact ⟨_,by simp [yh8],rfl,yD7 h g ho rs ts⟩
 ·rw [hk]; exact ⟨19,by simp [yh8],rfl,yuO h g o rs ts⟩
 ·obtain ⟨x,hx⟩:=hlog (by rw [hk]; decide)
  rw [hk]; exact ⟨21,by simp [yh8],rfl,yw1 h g ho hx (fun w' M => (hO w' M).recs) hA.lr⟩
 ·obtain ⟨x,hx⟩:=hlog (by rw [hk]; decide)
  rw [hk]; exact ⟨22,by simp [yh8],rfl,yD5 h g ho hx rs ts⟩
 ·obtain ⟨x,hx⟩:=hlog (by rw [hk]; decide)
  rw [hk]; exact ⟨23,by simp [yh8],rfl,yAK h g ho hx rs ts⟩
 ·obtain ⟨x,hx⟩:=hlog (by rw [hk]; decide)
  rw [hk]; exact ⟨24,by simp [yh8],rfl,yw0 h g ho hx rs ts⟩
 ·rw [hk]; exact ⟨26,by simp [yh8],rfl,yFG h g ho (fun w' M => (hO w' M).topics) hA.lt⟩
 ·obtain ⟨x,hx⟩:=hgrp (by rw [hk]; decide)
  rw [hk]; exact ⟨27,by simp [yh8],rfl,yFF h g ho hx rs ts⟩
 ·obtain ⟨x,hx⟩:=hgrp (by rw [hk]; decide)
  rw [hk]; exact ⟨28,by simp [yh8],rfl,yD8 h g ho hx rs ts⟩
 ·obtain ⟨x,hx⟩:=hgrp (by rw [hk]; decide)
  rw [hk]
  refine ⟨29,by simp [yh8],rfl,(yk7 h g ho hx rs ts).mono ?_⟩
  rintro _ w' ⟨v,rfl,ps,rfl,hR,M⟩
  have e:(ybY V.st o).found = []:=by unfold ybY; split <;> rfl
  refine ⟨_,rfl,V,ya8,ps,rfl,BrStep.refl h M,rfl,?_,hR,fun z hz => ⟨by simp [ya8,yaN],fun hz' => by have:=(yaG hR z hz').1; have:=h.lt z hz; omega⟩⟩
  show Row _ _ _ _ _ _ _ _ (ybY V.st o).found
  rw [e]; exact Row.nil ..
 ·obtain ⟨x,hx⟩:=hgrp (by rw [hk]; decide)
  rw [hk]
  refine ⟨30,by simp [yh8],rfl,yAO h g ho hx (fun q hq => ?_) rs ts⟩
  have:=g.has q (yEb q hq)
  rw [ypH,Option.isSome_map] at this
  exact this
 ·rw [hk]; exact ⟨25,by simp [yh8],rfl,yqU h g ho rs ts⟩
 ·rw [hk]; exact ⟨20,by simp [yh8],rfl,yEa h g ho rs ts⟩
end Go.Proofs.YteldhjiiocmicaaGreat
namespace Go.Proofs.YteldhjiiocmicaaGreat
open Go Go.RowKit Go.Maps Go.MapKept
set_option linter.unusedVariables false
set_option linter.unusedSimpArgs false
set_option maxHeartbeats 4000000
set_option maxRecDepth 100000 in
theorem yIl {w:World} {b N:Nat} {V:BrV} (h:yc3 w b V) (g:BrGood V.st N) {o:POp} {rs ts:Sl} (hO:∀ w',Mod (V.foot b) w w' → OpAt w' o rs ts) :
  Calls pP 6 #[.pointer (some ⟨b,0,none⟩),o.v rs ts] w fun e w' => ∃ v,e = .returned v ∧ yaX w b V (doF V.st o) v w':=by
 refine yIk (h.cell nofun) ?_
 intro b3 f3 b4 f4 w8 A8
 have q8:=Own2.of f3 f4 A8
 have M0:∀ {w'},Mod [] w w' → Mod (V.foot b) w w':=fun M => M.less (by simp)
 have lb:b < w.heap.size:=h.low.1
 refine (yFd (hO w8 (M0 A8.mod))).mono ?_
 rintro _ w9 ⟨rfl,M9⟩
 have s9:=M9.size
 have N9:Mod [] w w9:=A8.mod.go0 M9 (by simp)
 have sN:=N9.size
 have l3:=q8.l3
 have l4:=q8.l4
 unfold doF
 refine ⟨_,rfl,yaF.of0 M9,yaE (fun g1 => ?_) fun g1 => ?_⟩
 ·have g1:opE o ≠ 0:=by simpa using g1
  refine (ybU _ w9).mono ?_
  rintro _ w22 ⟨rfl,M22⟩
  refine ⟨_,_,_,_,_,_,_,_,_,_,rfl,yaF.of0 M22,?_⟩
  intro w33 A33 _
  rw [if_pos g1]
  exact yaX.fin0 q8 h (BrStep.refl (h.keep0 A8.mod) (M9.go0 M22 (by simp))) A33.mod rfl rfl rfl rfl
 have hE:opE o = 0:=by simpa using g1
 rw [if_neg (fun hh => hh hE)]
 have ho:=yzK hE
 obtain ⟨z1,z2,z3⟩:=ho.s
 refine yd6 fun b50 w51 c51 M51 f51 => ?_
 intro w52 A52 h52
 have N52:Mod [] w w52:=(N9.go0 M51 (by simp)).go0 A52.mod (by simp)
 have hbs:∀ i ∈ [b,b3,b4],i ≠ b50:=fun i hi => by simp at hi; omega
 refine yjT (yaS.of_new (A52.mod.keep0 c51)) (by unfold s64; omega) hbs fun w53 H53 M53 => ?_
 refine yjT H53 (by unfold s64; omega) hbs fun w54 H54 M54 => ?_
 refine yjT H54 (by unfold s64; omega) hbs fun w55 H55 M55 => ?_
 refine yjT H55 (by unfold s64; omega) hbs fun w56 H56 M56 => ?_
 refine yjT H56 (by unfold s64; omega) hbs fun w57 H57 M57 => ?_
 refine yjT H57 (by unfold s64; omega) hbs fun w58 H58 M58 => ?_
 refine yjT H58 (by unfold s64; omega) hbs fun w59 H59 M59 => ?_
 refine yjT H59 (by unfold s64; omega) hbs fun w60 H60 M60 => ?_
 refine yjT H60 (by unfold s64; omega) hbs fun w61 H61 M61 => ?_
 refine yjT H61 (by unfold s64; omega) hbs fun w62 H62 M62 => ?_
 refine yjT H62 (by unfold s64; omega) hbs fun w63 H63 M63 => ?_
 refine yjT H63 (by unfold s64; omega) hbs fun w64 H64 M64 => ?_
 refine yjT H64 (by unfold s64; omega) hbs fun w65 H65 M65 => ?_
 have K65:Mod [b50] w52 w65:=((((((((((((M53.trans M54).trans M55).trans M56).trans M57).trans M58).trans M59).trans M60).trans M61).trans M62).trans M63).trans M64).trans M65).less (by simp)
 have N65:Mod [] w w65:=N52.go0 K65 (by simp; omega)
 have HM:yaS pP 3 hki (fun v:Value => v) w65 b50 (yL7 b):=H65
 clear H53 H54 H55 H56 H57 H58 H59 H60 H61 H62 H63 H64 H65 M53 M54 M55 M56 M57 M58 M59 M60 M61 M62 M63 M64 M65
 have h65:=h.keep0 N65
 have s65:=N65.size
 have q65:Own2 w w65 b3 b4:=⟨N65,f3,by have:=(M51.go0 A52.mod (by simp)).size; have:=K65.size; omega,f4,by have:=(M51.go0 A52.mod (by simp)).size; have:=K65.size; omega⟩
 have hcell:=h65.cell nofun
 have call:(ygW o.kind = true → ygP V.cat o.part = true) → (yu1 o.kind = true → (lkp V.GP o.g).isSome = true) → ∃ gf,gf ∈ yh8 ∧ ∀ w1:World,Mod [] w65 w1 →
   (∀ w',Mod [] w1 w' → (Instr.lookup 61 (.map (some b50)) (.int .i64 o.kind) false).run pP w' = .ok (yhM b gf) w') ∧
    Calls pP gf #[.pointer (some ⟨b,0,none⟩),o.v rs ts] w1 fun e w' => ∃ v,e = .returned v ∧ ∃ (V':BrV) (fs ps:Sl),v = (ylD V.st o).2.v fs ps ∧ BrStep w1 w' b V V' ∧ V'.st = (ylD V.st o).1 ∧
     Row w' w1.heap.size 76 5 yjH fs.a fs.n fs.c (ylD V.st o).2.found ∧ Row w' w1.heap.size 33 2 yiH ps.a ps.n ps.c (ylD V.st o).2.parts ∧ ∀ z ∈ V'.foot b,z ∉ yaN fs.a ∧ z ∉ yaN ps.a:=fun hp hg => by
  obtain ⟨gf,hm,hlk,_⟩:=yzL h65 g (rs:=rs) (ts:=ts) hE (fun w' M' => hO w' ((N65.trans M').less fun z hz _ => by simpa using hz)) hp hg
  refine ⟨gf,hm,fun w1 M1 => ?_⟩
  have N1:=N65.go0 M1 (by simp)
  obtain ⟨gf1,hm1,hlk1,hC⟩:=yzL (h65.keep0 M1) g (rs:=rs) (ts:=ts) hE (fun w' M' => hO w' ((N1.trans M').less fun z hz _ => by simpa using hz)) hp hg
  have e:gf1 = gf:=by
   rw [hlk] at hlk1
   simpa [yhM] using hlk1.symm
  subst e
  refine ⟨fun w' M' => ?_,hC⟩
  obtain ⟨k0,k12⟩:=yzJ hE
  have:=((HM.keepM0 M1).keepM0 M').look (T:=61) false yFe yp9 Tryz.underlying61 (yKe w') (yqA (k:=o.kind) (by unfold s64; omega))
  refine this.trans ?_
  rw [hlk]; rfl
 have own:∀ {w1:World},Mod [] w65 w1 → Own2 w w1 b3 b4:=fun {w1} M1 => ⟨N65.go0 M1 (by simp),f3,by have:=q65.l3; have:=M1.size; omega,f4,by have:=q65.l4; have:=M1.size; omega⟩
 have kp:∀ {w1 w2:World} {V':BrV} {es:List Nat} {ts:List (Nat × TypeId)},Mod [] w65 w1 → BrStep w1 w2 b V V' → yaV es ts [b3,b4] w1 w2:=fun {w1 w2 V' es ts} M1 S => yaF.of S.mod fun z hz _ hz' => by
  have:=h.lt z hz'
  simp only [List.mem_cons,List.not_mem_nil,or_false] at hz
  rcases hz with rfl | rfl <;> omega
 have C2:∀ (t:Bool),t = yu1 o.kind → (ygW o.kind = true → ygP V.cat o.part = true) → yw3 (some b50) t b V.room V.now (some ⟨V.pc,0,none⟩) (some V.ml) (some ⟨V.pm,0,none⟩) (some V.mg) (some ⟨V.po,0,none⟩) b3 o.kind o.part.t o.part.n o.n o.off o.b.prod o.b.epoch o.b.seq rs.a rs.n rs.c o.g o.m o.gen o.robin ts.a ts.n ts.c b4 (fun v w' => yaX w b V (if ygW o.kind = true ∧ ygP V.st.cat o.part = false then (V.st,ygE 91) else if yu1 o.kind = true ∧ (lkp V.st.groups o.g).isSome = false then (V.st,ygE 110) else ylD V.st o) v w') w65:=fun t ht hp => by
  intro _
  rw [if_neg (show ¬ (ygW o.kind = true ∧ ygP V.st.cat o.part = false) from fun hh => by have:=hp hh.1; rw [show V.st.cat = V.cat from rfl,this] at hh; cases hh.2)]
  have hlk:=h65.lkGrp z2
  refine yaE (fun g2 => ?_) fun g2 => ?_
  ·have hgk:yu1 o.kind = true:=by rw [← ht,g2]
   cases hx:lkp V.GP o.g with
   | none =>
    rw [hx] at hlk
    refine ⟨none,hlk,yaE (fun _ => ?_) fun g => by cases g⟩
    intro w174 A174 _
    refine (ybU _ w174).mono ?_
    rintro _ w175 ⟨rfl,M175⟩
    refine ⟨_,_,_,_,_,_,_,_,_,_,rfl,yaF.of0 M175,_,_,_,_,_,_,_,((h65.keep0 A174.mod).keep0 M175).cell nofun,?_⟩
    intro w193 A193 _
    rw [if_pos ⟨hgk,by rw [ynH,hx]; rfl⟩]
    exact yaX.fin0 q65 h (BrStep.refl h65 (A174.mod.go0 M175 (by simp))) A193.mod rfl rfl rfl rfl
   | some x =>
    rw [hx] at hlk
    refine ⟨some ⟨x.p,0,none⟩,hlk,yaE (fun g => by cases g) fun _ => ?_⟩
    rw [if_neg (fun hh => by have:=hh.2; rw [ynH,hx] at this; cases this)]
    obtain ⟨gf,hm,hgf⟩:=call hp fun _ => by rw [hx]; rfl
    refine ypV hm ⟨some ⟨b,0,none⟩,?_⟩
    intro w216 A216 _
    obtain ⟨hl,hC⟩:=hgf w216 A216.mod
    refine ⟨_,hl,rfl,hC.mono ?_⟩
    rintro _ w218 ⟨_,rfl,V',fs,ps,rfl,S,hst,hf,hps,hzx⟩
    refine ⟨_,_,_,_,_,_,_,_,_,_,rfl,kp A216.mod S,_,_,_,_,_,_,_,S.ok.cell nofun,?_⟩
    intro w236 A236 _
    exact yaX.fin (own A216.mod) h S A236.mod hst fs ps rfl hf hps hzx
  ·have hgk:yu1 o.kind = false:=by rw [← ht,g2]
   rw [if_neg (fun hh => by rw [hgk] at hh; cases hh.1)]
   obtain ⟨gf,hm,hgf⟩:=call hp fun hh => by rw [hgk] at hh; cases hh
   obtain ⟨hl,hC⟩:=hgf w65 (Mod.refl _)
   refine ypV hm ⟨some ⟨b,0,none⟩,_,hl,rfl,hC.mono ?_⟩
   rintro _ w218 ⟨_,rfl,V',fs,ps,rfl,S,hst,hf,hps,hzx⟩
   refine ⟨_,_,_,_,_,_,_,_,_,_,rfl,kp (Mod.refl _) S,_,_,_,_,_,_,_,S.ok.cell nofun,?_⟩
   intro w236 A236 _
   exact yaX.fin q65 h S A236.mod hst fs ps rfl hf hps hzx
 have gk:∀ {k:Int},o.kind = k → yu1 o.kind = yu1 k:=fun e => by rw [e]
 have C1:∀ (t:Bool),t = ygW o.kind → yw2 (some b50) o.kind t b V.room V.now (some ⟨V.pc,0,none⟩) (some V.ml) (some ⟨V.pm,0,none⟩) (some V.mg) (some ⟨V.po,0,none⟩) b3 o.kind o.part.t o.part.n o.n o.off o.b.prod o.b.epoch o.b.seq rs.a rs.n rs.c o.g o.m o.gen o.robin ts.a ts.n ts.c b4 (fun v w' => yaX w b V (if ygW o.kind = true ∧ ygP V.st.cat o.part = false then (V.st,ygE 91) else if yu1 o.kind = true ∧ (lkp V.st.groups o.g).isSome = false then (V.st,ygE 110) else ylD V.st o) v w') w65:=fun t ht => by
  intro _
  refine yaE (fun g2 => ?_) fun g2 => ?_
  ·have hpk:ygW o.kind = true:=by rw [← ht,g2]
   have hgk:yu1 o.kind = false:=by
    unfold ygW at hpk
    unfold yu1
    have hpk:=of_decide_eq_true hpk
    exact decide_eq_false (by omega)
   intro w66 A66 _
   have h66:=h65.keep0 A66.mod
   refine (ymY (h66.cat nofun) (p:=o.part) z1).mono ?_
   rintro _ w67 ⟨rfl,M67⟩
   have N67:=A66.mod.go0 M67 (by simp)
   have h67:=h66.keep0 M67
   refine ⟨_,rfl,yaF.of0 M67,_,_,_,_,_,_,_,h67.cell nofun,yaE (fun g3 => ?_) fun g3 => ?_⟩
   ·have g3:ygP V.cat o.part = false:=by simpa using g3
    refine (ybU _ w67).mono ?_
    rintro _ w94 ⟨rfl,M94⟩
    refine ⟨_,_,_,_,_,_,_,_,_,_,rfl,yaF.of0 M94,_,_,_,_,_,_,_,(h67.keep0 M94).cell nofun,?_⟩
    intro w112 A112 _
    rw [if_pos ⟨hpk,g3⟩]
    exact yaX.fin0 q65 h (BrStep.refl h65 (N67.go0 M94 (by simp))) A112.mod rfl rfl rfl rfl
   ·have g3:ygP V.cat o.part = true:=by simpa using g3
    rw [if_neg (show ¬ (ygW o.kind = true ∧ ygP V.st.cat o.part = false) from fun hh => by rw [show V.st.cat = V.cat from rfl,g3] at hh; cases hh.2),if_neg (fun hh => by rw [hgk] at hh; cases hh.1)]
    obtain ⟨gf,hm,hgf⟩:=call (fun _ => g3) fun hh => by rw [hgk] at hh; cases hh
    obtain ⟨hl,hC⟩:=hgf w67 N67
    refine ypV hm ⟨some ⟨b,0,none⟩,_,hl,rfl,hC.mono ?_⟩
    rintro _ w135 ⟨_,rfl,V',fs,ps,rfl,S,hst,hf,hps,hzx⟩
    refine ⟨_,_,_,_,_,_,_,_,_,_,rfl,kp N67 S,_,_,_,_,_,_,_,S.ok.cell nofun,?_⟩
    intro w153 A153 _
    exact yaX.fin (own N67) h S A153.mod hst fs ps rfl hf hps hzx
  ·have hpk:ygW o.kind = false:=by rw [← ht,g2]
   have hnp:ygW o.kind = true → ygP V.cat o.part = true:=fun hh => by rw [hpk] at hh; cases hh
   refine yaE (fun g7 => ?_) fun g7 => ?_
   ·have e:o.kind = 7:=by simpa using g7
    exact ylR (C2 _ (by rw [g7,e]; decide) hnp)
   refine yaE (fun g8 => ?_) fun g8 => ?_
   ·have e:o.kind = 8:=by simpa using g8
    exact ylR (C2 _ (by rw [g8,e]; decide) hnp)
   refine yaE (fun g9 => ?_) fun g9 => ?_
   ·have e:o.kind = 9:=by simpa using g9
    exact ylR (C2 _ (by rw [g9,e]; decide) hnp)
   ·refine ylR (C2 _ ?_ hnp)
    have e7:o.kind ≠ 7:=by simpa using g7
    have e8:o.kind ≠ 8:=by simpa using g8
    have e9:o.kind ≠ 9:=by simpa using g9
    unfold yu1
    by_cases e:o.kind = 10
    ·rw [e]; decide
    ·rw [show (o.kind == 10) = false by simpa using e]; exact (decide_eq_false (by omega)).symm
 refine yaE (fun g2 => ?_) fun g2 => ?_
 ·have e:o.kind = 2:=by simpa using g2
  exact yjA (C1 _ (by rw [g2,e]; decide))
 refine yaE (fun g3 => ?_) fun g3 => ?_
 ·have e:o.kind = 3:=by simpa using g3
  exact yjA (C1 _ (by rw [g3,e]; decide))
 refine yaE (fun g4 => ?_) fun g4 => ?_
 ·have e:o.kind = 4:=by simpa using g4
  exact yjA (C1 _ (by rw [g4,e]; decide))
 refine yaE (fun g5 => ?_) fun g5 => ?_
 ·have e:o.kind = 5:=by simpa using g5
  exact yjA (C1 _ (by rw [g5,e]; decide))
 ·refine yjA (C1 _ ?_)
  have e2:o.kind ≠ 2:=by simpa using g2
  have e3:o.kind ≠ 3:=by simpa using g3
  have e4:o.kind ≠ 4:=by simpa using g4
  have e5:o.kind ≠ 5:=by simpa using g5
  unfold ygW
  by_cases e:o.kind = 11
  ·rw [e]; decide
  ·rw [show (o.kind == 11) = false by simpa using e]; exact (decide_eq_false (by omega)).symm
end Go.Proofs.YteldhjiiocmicaaGreat
namespace Go.Proofs.YteldhjiiocmicaaGreat
open Go Go.RowKit Go.Maps Go.MapKept
set_option linter.unusedVariables false
set_option linter.unusedSimpArgs false
set_option maxHeartbeats 1000000
def br0 (room:Int):PBr:=⟨room,0,[],[],[],[],[],[]⟩
theorem yFK {room:Int} (h:1 ≤ room ∧ room ≤ 64):BrGood (br0 room) 0 :=
 ⟨h.1,h.2,by simp [br0],by simp [br0],by simp [br0],by simp [br0],by simp [br0],by simp [br0],by simp [br0],by simp [br0],by simp [br0],by simp [br0],fun p hp => by simp [ygP,br0,lkp] at hp; omega,fun p hp => by simp [br0,lkp] at hp,by omega⟩
theorem yqZ (room:Int) (w:World):Calls pP 5 #[.int .i64 room] w fun e w' => ∃ v,e = .returned v ∧ Mod [] w w' ∧
  if 1 ≤ room ∧ room ≤ 64 then ∃ b V,v = .tuple #[.pointer (some ⟨b,0,none⟩),.int .i64 0] ∧ yc3 w' b V ∧ V.st = br0 room ∧ (∀ k ∈ V.foot b,w.heap.size ≤ k) else v = .tuple #[.pointer none,.int .i64 1]:=by
 refine yJ9 ?_
 refine (ytI room w).mono ?_
 rintro _ w4 ⟨_,rfl,M4,hif⟩
 by_cases g:1 ≤ room ∧ room ≤ 64
 ·rw [if_pos g] at hif
  obtain ⟨pl,Fl,rfl,_,_⟩:=hif
  refine ⟨_,_,rfl,brF rfl ?_⟩
  refine (ytP w4).mono ?_
  rintro _ w18 ⟨_,rfl,pc,Fc,rfl,hT,hFc,M18⟩
  refine ⟨_,rfl,yd6 fun b20 w21 c21 M21 f21 => ?_⟩
  refine (ytT w21).mono ?_
  rintro _ w22 ⟨_,rfl,pm,Fm,rfl,hD,hFm,M22⟩
  refine ⟨_,rfl,yd6 fun b24 w25 c25 M25 f25 => ?_⟩
  refine (ytR w25).mono ?_
  rintro _ w26 ⟨_,rfl,po,Fo,rfl,hO,hFo,M26⟩
  refine ⟨_,rfl,?_⟩
  intro b28 f28 w29 A29 h29
  have s4:=M4.size
  have s18:=M18.size
  have s21:=M21.size
  have s22:=M22.size
  have s25:=M25.size
  have s26:=M26.size
  have s29:=A29.mod.size
  have l28:=A29.lt b28 (by simp)
  have l20:=yaH c21
  have l24:=yaH c25
  have lFc:=hT.lt
  have lFm:=hD.lt
  have lFo:=hO.lt
  have N25:Mod [] w25 w29:=M26.go0 A29.mod (by simp)
  have N22:Mod [] w22 w29:=M25.go0 N25 (by simp)
  have N21:Mod [] w21 w29:=M22.go0 N22 (by simp)
  have N18:Mod [] w18 w29:=M21.go0 N21 (by simp)
  refine ⟨(M4.go0 M18 (by simp)).go0 N18 (by simp),?_⟩
  rw [if_pos g]
  refine ⟨b28,⟨room,0,[],[],[],[],[],[],pc,b20,pm,b24,po,Fc,Fm,Fo,fun k => if k < w18.heap.size then .cat else if k < w21.heap.size then .lm else if k < w22.heap.size then .mk else if k < w25.heap.size then .gm else if k < w26.heap.size then .off else .br⟩,rfl,?_,rfl,fun k hk => ?_⟩
  ·exact {
    cell:=fun _ => h29
    lb:=by
     show (if b28 < w18.heap.size then BLab.cat else _) = _
     rw [if_neg (by omega),if_neg (by omega),if_neg (by omega),if_neg (by omega),if_neg (by omega)]
    cat:=fun _ => hT.keep0 N18
    lc:=fun k hk => if_pos (lFc k hk)
    logs:=fun _ => yaS.of_new (N21.keep0 c21)
    lm:=by
     show (if b20 < w18.heap.size then BLab.cat else _) = _
     rw [if_neg (by omega),if_pos l20]
    log:=fun q hq => by cases hq
    ll:=fun q hq => by cases hq
    ded:=fun _ => hD.keep0 N22
    lk:=fun k hk => by
     have h1:=hFm k hk
     have h2:=lFm k hk
     show (if k < w18.heap.size then BLab.cat else _) = _
     rw [if_neg (by omega),if_neg (by omega),if_pos h2]
    gs:=fun _ => yaS.of_new (N25.keep0 c25)
    lg:=by
     have a1:¬ b24 < w18.heap.size:=by omega
     have a2:¬ b24 < w21.heap.size:=by omega
     have a3:¬ b24 < w22.heap.size:=by omega
     show (if b24 < w18.heap.size then BLab.cat else _) = _
     rw [if_neg a1,if_neg a2,if_neg a3,if_pos l24]
    grp:=fun q hq => by cases hq
    lgr:=fun q hq => by cases hq
    off:=fun _ => hO.keep0 A29.mod
    lo:=fun k hk => by
     have h1:=hFo k hk
     have h2:=lFo k hk
     show (if k < w18.heap.size then BLab.cat else _) = _
     rw [if_neg (by omega),if_neg (by omega),if_neg (by omega),if_neg (by omega),if_pos h2]
    low:=⟨l28,by show b20 < _; omega,by show b24 < _; omega,fun k hk => by have:=lFc k hk; omega,fun k hk => by have:=lFm k hk; omega,fun k hk => by have:=lFo k hk; omega,fun q hq => (List.not_mem_nil hq).elim,fun q hq => (List.not_mem_nil hq).elim⟩ }
  ·rcases yaD.1 hk with rfl | rfl | rfl | hk | hk | hk | ⟨q,hq,_⟩ | ⟨q,hq,_⟩
   ·omega
   ·show w.heap.size ≤ _; omega
   ·show w.heap.size ≤ _; omega
   ·have:=hFc k hk; omega
   ·have:=hFm k hk; omega
   ·have:=hFo k hk; omega
   ·cases hq
   ·cases hq
 ·rw [if_neg g] at hif
  subst hif
  refine ⟨_,_,rfl,brT rfl ⟨M4,?_⟩⟩
  rw [if_neg g]
end Go.Proofs.YteldhjiiocmicaaGreat
namespace Go.Proofs.YteldhjiiocmicaaGreat
open Go Go.RowKit
set_option linter.all false
section
set_option maxRecDepth 100000
variable {R:VWP} {w w0:World} {m:Nat} {i0 i1 i2 i3 i4 i5 i6 i7 i8 i9 j0 j1 j2 j3 j4 j5 j6 j7 j8 j9 k0 k1 k2 k3 k4 k5 k6 k7 k8 k9 l0 l1 l2 l3 l4 l5 l6 l7 l8 l9:Int} {s0 s1 s2 s3 s4 s5 s6 s7 s8 s9 t0 t1 t2 t3 t4 t5 t6 t7 t8 t9:BA} {n0 n1 n2 n3 n4 n5 n6 n7 n8 n9 o0 o1 o2 o3 o4 o5 o6 o7 o8 o9 p0 p1 p2 p3 p4 p5 p6 p7 p8 p9:Nat} {q0 q1 q2 q3 q4 q5 q6 q7 q8 q9 r0 r1 r2 r3 r4 r5 r6 r7 r8 r9:OA} {B0 B1 B2 B3 B4 B5 B6 B7 B8 B9:Bool} {M0 M1 M2 M3:Option Nat} {V0 V1 V2 V3 V4 V5:Value} {A0 A1 A2:Addr}
theorem yIm (h :
 R (.bool (!(s0.toList == s0.toList))) w) :
 CR pP 179 #[.string s0] w R :=
 yaB Tryz.wide_mixed (an:=[]) Tryz.func179 rfl rfl (by kernel_rfl) rfl (Eq.mpr (by kernel_rfl) h)
theorem yIn {a0 a1:BA} (h :
 Calls pP 179 #[.string a0] w fun e w3 => ∃ t4,e = .returned (.bool t4) ∧
 Calls pP 179 #[.string a1] w3 fun e w7 => ∃ t8,e = .returned (.bool t8) ∧
 brB t4 (
 brB t8 (
 R (.int .i64 0) w7)
 (
 R (.int .i64 (-1)) w7))
 (
 brB t8 (
 R (.int .i64 1) w7)
 (
 brB (Op.bytesLess a0.toList a1.toList) (
 R (.int .i64 (-1)) w7)
 (
 brB (!((Op.bytesLess a0.toList a1.toList) || (a0.toList == a1.toList))) (
 R (.int .i64 1) w7)
 (
 R (.int .i64 0) w7))))) :
 CR pP 160 #[.string a0,.string a1] w R :=
 yaB Tryz.wide_mixed (an:=[]) Tryz.func160 rfl rfl (by kernel_rfl) rfl (Eq.mpr (by kernel_rfl) h)
def yq0:LA:=⟨[0,0,1,0,1,1],[3,6,7,8],[],0,[]⟩
def yq1:List LA:=[yq0]
abbrev yGL:=dnF pP yq1 (code Tryz.f158)
abbrev yMS:=yaR pP yq1 (code Tryz.f158)
abbrev yGM (p:List Nat) (K:List Kh) (R:VWP):=yaR pP yq1 (code Tryz.f158) p K (ybE pP Tryz.f158 [] R)
def yj8 (a0:OA) (a2 a1:Nat) (a3:Int):Int → List Value × List TB:=fun a4 => ([.int .i64 0,.slice a0 a2 a1,.int .i64 a3,.int .i64 a4],[])
abbrev yEe (a0:OA) (a2 a1:Nat) (a3:Int) (I:Nat → Int → World → Prop) (m:Nat):Kh:=KG (yj8 a0 a2 a1 a3) (U1 I) m
theorem yAQ {I:Nat → Int → World → Prop} (m':Nat) (h1:m' < m) (h2:I m' i1 w):KS (yEe q0 n0 n1 i0 I m) (yj8 q0 n0 n1 i0 i1) w:=⟨m',h1,_,rfl,rfl,h2⟩
theorem yAR {a1:OA} (I:Nat → Int → World → Prop) (m0:Nat) (h0:I m0 i1 w0)
 (hr:∀ m a0 w,I m a0 w →
 brB (decide (a0 < i0)) (
 ixA a1 n0 a0 1 fun q3 =>
 ya1 .i64 w q3 fun x4 =>
 brB (x4 != 0) (
 R (.int .i64 x4) w)
 (
 KS (yEe a1 n0 n1 i0 I m) (yj8 a1 n0 n1 i0 (IntKind.wrap .i64 (a0 + 1))) w))
 (
 R (.int .i64 0) w)) :
 yaO yq0 (yGL 396 [0,0,1,0,1,1]) (yGM [1,1,0,1,0] [] R) (yj8 a1 n0 n1 i0 i1) w0 :=
 lrule (yj8 a1 n0 n1 i0) (U1 I) h0 (by rintro m a0 w h; exact ⟨by kernel_rfl,by kernel_rfl,fun js => Eq.mpr (by kernel_rfl) (hr m a0 w h)⟩)
theorem yIo (h :
 yaO yq0 (yGL 396 [0,0,1,0,1,1]) (yGM [1,1,0,1,0] [] R) (yj8 q0 n0 n1 (n0:Int) 0) w) :
 CR pP 158 #[.slice q0 n0 n1] w R :=
 yaB Tryz.wide_mixed (an:=yq1) Tryz.func158 rfl rfl (by kernel_rfl) rfl (Eq.mpr (by kernel_rfl) h)
theorem yIp {b0:Nat} (hb:w.heap[b0]? = some (.cells #[.int .i64 i0,.bool B0,(.map M0)] 190)) (h :
 ∀ w1,Adv [] [] w w1 → w1.heap[b0]? = some (.cells #[.int .i64 i0,.bool B0,(.map M0)] 190) →
 R (.tuple #[.int .i64 i0,.bool B0]) w1) :
 CR pP 76 #[(.pointer (some ⟨b0,0,none⟩))] w R :=
 yaJ Tryz.wide_mixed (an:=[]) Tryz.func76 rfl rfl (by kernel_rfl) rfl hb (Eq.mpr (by kernel_rfl) h)
end
end Go.Proofs.YteldhjiiocmicaaGreat
namespace Go.Proofs
open Go.Shelf
shelf_lay_g SlLaysF0.n6 Slsf 6 at Tryz 131 as Tryz.mkSortL
shelf_lay_g SlLaysF0.n6 Slsf 6 at Tryz 132 as Tryz.ofSortL
end Go.Proofs
namespace Go.Proofs.YteldhjiiocmicaaGreat
open Go Go.RowKit Go.Shelf Go.Lib Go.Sort
set_option linter.unusedVariables false
set_option linter.unusedSimpArgs false
theorem yEf (s:ByteArray) (w:World):Calls pP 179 #[.string s] w fun e w' => e = .returned (.bool false) ∧ w' = w:=by
 refine ya0 (yIm ?_)
 exact ⟨by simp,rfl⟩
def yq2 (x y:ByteArray):Int:=if yb8 x y = true then -1 else if x = y then 0 else 1
theorem yEg (x y:ByteArray) (w:World):Calls pP 160 #[.string x,.string y] w fun e w' => e = .returned (.int .i64 (yq2 x y)) ∧ w' = w:=by
 refine ya0 (yIn ?_)
 refine (yEf x w).mono ?_
 rintro _ _ ⟨rfl,rfl⟩
 refine ⟨_,rfl,?_⟩
 refine (yEf y _).mono ?_
 rintro _ _ ⟨rfl,rfl⟩
 refine ⟨_,rfl,brF rfl (brF rfl ?_)⟩
 unfold yq2
 refine yaE (fun g => ?_) fun g => ?_
 ·rw [if_pos (show yb8 x y = true from g)]; exact ⟨rfl,rfl⟩
 ·rw [if_neg (show ¬ yb8 x y = true by unfold yb8; rw [g]; simp),g]
  by_cases e:x = y
  ·rw [if_pos e]
   refine brF (by simp [e]) ⟨rfl,rfl⟩
  ·rw [if_neg e]
   refine brT ?_ ⟨rfl,rfl⟩
   simp only [Bool.false_or,Bool.not_eq_true']
   rw [beq_eq_false_iff_ne]
   exact fun h => e (yeS.1 h)
def orF:List Int → Int
 | [] => 0
 | x :: r => if x ≠ 0 then x else orF r
theorem yFL {w:World} {a:Option Addr} {n c:Nat} {l:List Int} (h:ybF w 1 ycO a n l) (hl:l.length ≤ 1000000) :
  Calls pP 158 #[.slice a n c] w fun e w' => e = .returned (.int .i64 (orF l)) ∧ w' = w:=by
 have hn:=h.1
 refine ya0 (yIo ?_)
 refine yAR (fun mm x w' => ∃ k:Nat,x = k ∧ k ≤ l.length ∧ orF l = orF (l.drop k) ∧ w' = w ∧ mm = l.length - k) l.length ⟨0,rfl,by omega,rfl,rfl,rfl⟩ ?_
 rintro mm x w1 ⟨k,rfl,hk,ho,rfl,rfl⟩
 refine yaC (fun hlt => ?_) fun hge => ?_
 ·obtain ⟨x,hx⟩:∃ x,l[k]? = some x:=⟨_,List.getElem?_eq_getElem (by omega)⟩
  rw [yFv hx,orF] at ho
  refine h.ix hx fun q hq => yaK (x:=x) (by simpa [add_zero] using hq 0 _ rfl) ?_
  refine yaE (fun g => ?_) fun g => ?_
  ·rw [if_pos (by simpa using g)] at ho
   exact ⟨by rw [ho],rfl⟩
  ·rw [if_neg (by simpa using g)] at ho
   exact yAQ (l.length - (k + 1)) (by omega) ⟨k + 1,by rw [yaI (by omega) (by omega)]; omega,by omega,ho,rfl,rfl⟩
 ·have hk:k = l.length:=by omega
  subst hk
  rw [List.drop_length] at ho
  exact ⟨by rw [ho]; rfl,rfl⟩
theorem ynJ {x y:ByteArray} (h1:yb8 x y = false) (h2:yb8 y x = false):x = y:=by
 unfold yb8 at *
 rw [bytesLess_eq,decide_eq_false_iff_not] at *
 have h:x.toList = y.toList:=List.le_antisymm (List.not_lt.1 h2) (List.not_lt.1 h1)
 exact yeS.1 h
def yzM (p q:PPart):Prop:=yb8 p.t q.t = true ∨ p.t = q.t ∧ p.n < q.n
theorem yh9 (p:PPart):¬ yzM p p:=fun h => by
 rcases h with h | ⟨_,h⟩
 ·rw [yeB] at h; cases h
 ·omega
theorem yhE {p q r:PPart} (h1:yzM p q) (h2:yzM q r):yzM p r:=by
 rcases h1 with h1 | ⟨e1,h1⟩
 ·rcases h2 with h2 | ⟨e2,h2⟩
  ·exact .inl (yf7 h1 h2)
  ·exact .inl (e2 ▸ h1)
 ·rcases h2 with h2 | ⟨e2,h2⟩
  ·exact .inl (e1 ▸ h2)
  ·exact .inr ⟨e1.trans e2,by omega⟩
theorem yAS {p q:PPart} (h1:¬ yzM p q) (h2:¬ yzM q p):p = q:=by
 have e1:yb8 p.t q.t = false:=by
  cases e:yb8 p.t q.t
  ·rfl
  ·exact absurd (.inl e) h1
 have e2:yb8 q.t p.t = false:=by
  cases e:yb8 q.t p.t
  ·rfl
  ·exact absurd (.inl e) h2
 have e:=ynJ e1 e2
 have h3:¬ p.n < q.n:=fun h => h1 (.inr ⟨e,h⟩)
 have h4:¬ q.n < p.n:=fun h => h2 (.inr ⟨e.symm,h⟩)
 cases p; cases q
 simp at e h3 h4 ⊢
 exact ⟨e,by omega⟩
theorem yGN {α κ:Type} {lt:κ → κ → Prop} (irr:∀ x,¬ lt x x) (tr:∀ {x y z},lt x y → lt y z → lt x z) (tot:∀ {x y},¬ lt x y → ¬ lt y x → x = y) (f:α → κ) (g:α → PPart) (ltb:α → α → Bool) (h:∀ x y,ltb x y = true ↔ lt (f x) (f y) ∨ f x = f y ∧ yzM (g x) (g y)):SWO ltb where
 irrefl x:=by
  cases e:ltb x x
  ·rfl
  ·rcases (h x x).1 e with h1 | ⟨_,h1⟩
   ·exact absurd h1 (irr _)
   ·exact absurd h1 (yh9 _)
 trans x y z h1 h2:=by
  rw [h] at h1 h2 ⊢
  rcases h1 with h1 | ⟨e1,h1⟩
  ·rcases h2 with h2 | ⟨e2,h2⟩
   ·exact .inl (tr h1 h2)
   ·exact .inl (e2 ▸ h1)
  ·rcases h2 with h2 | ⟨e2,h2⟩
   ·exact .inl (e1 ▸ h2)
   ·exact .inr ⟨e1.trans e2,yhE h1 h2⟩
 ntrans x y z h1 h2:=by
  have k1:¬ (lt (f x) (f y) ∨ f x = f y ∧ yzM (g x) (g y)):=by rw [← h,h1]; simp
  have k2:¬ (lt (f y) (f z) ∨ f y = f z ∧ yzM (g y) (g z)):=by rw [← h,h2]; simp
  cases e:ltb x z
  ·rfl
  exfalso
  simp only [not_or,not_and] at k1 k2
  rcases (h x z).1 e with h3 | ⟨e3,h3⟩
  ·by_cases c1:lt (f z) (f y)
   ·exact k1.1 (tr h3 c1)
   ·have e4:=tot k2.1 c1
    exact k1.1 (e4 ▸ h3)
  ·by_cases c1:lt (f y) (f x)
   ·exact k2.1 (e3 ▸ c1)
   ·have e4:=tot k1.1 c1
    have e5:f y = f z:=e4 ▸ e3
    have n1:=k1.2 e4
    have n2:=k2.2 e5
    by_cases c2:yzM (g z) (g y)
    ·exact n1 (yhE h3 c2)
    ·have:=yAS n2 c2
     exact n1 (this ▸ h3)
end Go.Proofs.YteldhjiiocmicaaGreat
