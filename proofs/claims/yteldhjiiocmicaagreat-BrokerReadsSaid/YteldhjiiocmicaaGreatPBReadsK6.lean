/- Part 6 of the proof of PBReads. -/
import Derived.Test.YteldhjiiocmicaaGreatPBReadsK5
namespace Go.Proofs.YteldhjiiocmicaaGreat
open Go Go.RowKit
set_option linter.all false
section
set_option maxRecDepth 100000
variable {R:VWP} {w w0:World} {m:Nat} {i0 i1 i2 i3 i4 i5 i6 i7 i8 i9 j0 j1 j2 j3 j4 j5 j6 j7 j8 j9 k0 k1 k2 k3 k4 k5 k6 k7 k8 k9 l0 l1 l2 l3 l4 l5 l6 l7 l8 l9:Int} {s0 s1 s2 s3 s4 s5 s6 s7 s8 s9 t0 t1 t2 t3 t4 t5 t6 t7 t8 t9:BA} {n0 n1 n2 n3 n4 n5 n6 n7 n8 n9 o0 o1 o2 o3 o4 o5 o6 o7 o8 o9 p0 p1 p2 p3 p4 p5 p6 p7 p8 p9:Nat} {q0 q1 q2 q3 q4 q5 q6 q7 q8 q9 r0 r1 r2 r3 r4 r5 r6 r7 r8 r9:OA} {B0 B1 B2 B3 B4 B5 B6 B7 B8 B9:Bool} {M0 M1 M2 M3:Option Nat} {V0 V1 V2 V3 V4 V5:Value} {A0 A1 A2:Addr}
theorem yIq (h :
 brB (Option.isNone q0) (
 R (.slice none 0 0) w)
 (
 al w (.cells #[] 3) fun b7 w8 =>
 ybC pP (Builtin.append_ #[22,22] 22 #[(.slice (some ⟨b7,0,none⟩) 0 0),.slice q0 n0 n1]) w8 fun a3 a5 a4 w9 =>
 R (.slice a3 a5 a4) w9)) :
 CR pP 125 #[.slice q0 n0 n1] w R :=
 yaB Tryz.wide_mixed (an:=[]) Tryz.func125 rfl rfl (by kernel_rfl) rfl (Eq.mpr (by kernel_rfl) h)
theorem yIr {b0:Nat} {o0_n o0_c:Nat} (hb:w.heap[b0]? = some (.cells #[.slice q0 o0_n o0_c,(.map M0)] 89)) (h :
 Calls pP 125 #[.slice q0 o0_n o0_c] w fun e w5 => ∃ a6 n7 c8,e = .returned (.slice a6 n7 c8) ∧ yaF [b0] w w5 ∧
 ∀ w9,Adv [] [] w5 w9 → w9.heap[b0]? = some (.cells #[.slice q0 o0_n o0_c,(.map M0)] 89) →
 R (.slice a6 n7 c8) w9) :
 CR pP 68 #[(.pointer (some ⟨b0,0,none⟩))] w R :=
 yaJ Tryz.wide_mixed (an:=[]) Tryz.func68 rfl rfl (by kernel_rfl) rfl hb (Eq.mpr (by kernel_rfl) h)
def yq3:LA:=⟨[0,0,1,0,1,1],[0,3,10],[(0,0,0)],1,[]⟩
def yq4:List LA:=[yq3]
abbrev yGO:=dnF pP yq4 (code Tryz.f69)
abbrev yMT:=yaR pP yq4 (code Tryz.f69)
abbrev yGP (p:List Nat) (K:List Kh) (R:VWP):=yaR pP yq4 (code Tryz.f69) p K (ybE pP Tryz.f69 [0] R)
def yj9 (a4:Addr) (bm0:Nat) (a0:OA) (a3 a1:Nat) (a2:Option Nat):(Option Addr) × Nat × Nat → List Value × List TB:=fun (a5,a7,a6) => ([(.pointer (some ⟨bm0,0,none⟩)),.slice a5 a7 a6,(.pointer (some a4))],[⟨bm0,89,[.slice a0 a3 a1,(.map a2)],false⟩])
abbrev yEh (a4:Addr) (bm0:Nat) (a0:OA) (a3 a1:Nat) (a2:Option Nat) (I:Nat → Option Addr → Nat → Nat → World → Prop) (m:Nat):Kh:=KG (yj9 a4 bm0 a0 a3 a1 a2) (U3 I) m
theorem yAT {I:Nat → Option Addr → Nat → Nat → World → Prop} (m':Nat) (h1:m' < m) (h2:I m' q1 n3 n4 w):KS (yEh A0 n0 q0 n1 n2 M0 I m) (yj9 A0 n0 q0 n1 n2 M0 (q1,n3,n4)) w:=⟨m',h1,_,rfl,rfl,h2⟩
theorem yAU (I:Nat → Option Addr → Nat → Nat → World → Prop) (m0:Nat) (h0:I m0 q1 n3 n4 w0)
 (hr:∀ m a6 a8 a7 w,I m a6 a8 a7 w →
 yz0 pP (.pointer (some A0)) 0 w (fun w9 => yaF [n0] w w9 ∧
 Calls pP 131 #[.slice a6 a8 a7,(.func (.func 126) #[] #[])] w9 fun e c7 => e = .returned (.tuple #[]) ∧ yaF [n0] w9 c7 ∧
 ∀ b8,Adv [] [] c7 b8 → b8.heap[n0]? = some (.cells #[.slice q0 n1 n2,(.map M0)] 89) →
 R (.slice a6 a8 a7) b8)
 (fun d6 d7 b7 => yaF [n0] w b7 ∧
 ∃ a5 b0 b3 c0 c4 c2,∃ b1,(Instr.entry (.pointer (some A0))).run pP b7 = .ok (.tuple #[(.agg (Z10 a5 b0 b3)),.slice c0 c4 c2]) b1 ∧ yaF [n0] b7 b1 ∧
 ∀ a9,b1.heap.size ≤ a9 →
 ixA q0 n1 (IntKind.wrap .i64 (a5 - 1)) 1 fun c6 =>
 ∀ b2,Adv [] [a9] b1 b2 →
 ya1 .i64 b2 c6 fun d0 =>
 Calls pP 98 #[.slice c0 c4 c2] b2 fun e b9 => ∃ c1 c5 c3,e = .returned (.slice c1 c5 c3) ∧ yaF [n0,a9] b2 b9 ∧ (((.agg #[.string b0,.int .i64 b3]):Value) = (.agg #[.string b0,.int .i64 b3])) ∧ (ya1 .i64 b9 c6 fun d5 => ((.int .i64 d5):Value) = (.int .i64 d0)) ∧ (((.int .i64 a5):Value) = (.int .i64 a5)) ∧ (((.slice q0 n1 n2):Value) = (.slice q0 n1 n2)) ∧ (((.int .i64 a5):Value) = (.int .i64 a5)) ∧
 al b9 (.cells (Z11 a5 d0 b0 b3 c1 c5 c3) 143) fun d2 c8 =>
 ybC pP (Builtin.append_ #[69,69] 69 #[.slice a6 a8 a7,(.slice (some ⟨d2,0,none⟩) 1 1)]) c8 fun d1 d4 d3 c9 => yaF [n0,a9] c8 c9 ∧
 KS (yEh A0 n0 q0 n1 n2 M0 I m) (yj9 A0 n0 q0 n1 n2 M0 (d1,d4,d3)) c9)) :
 yaO yq3 (yGO 396 [0,0,1,0,1,1]) (yGP [1,1,0,1,0] [] R) (yj9 A0 n0 q0 n1 n2 M0 (q1,n3,n4)) w0 :=
 lrule (yj9 A0 n0 q0 n1 n2 M0) (U3 I) h0 (by rintro m ⟨a6,a8,a7⟩ w h; exact ⟨by kernel_rfl,by kernel_rfl,fun js => Eq.mpr (by kernel_rfl) (hr m a6 a8 a7 w h)⟩)
theorem yIs {b0:Nat} {o0_a:OA} {o0_n o0_c:Nat} (hb:w.heap[b0]? = some (.cells #[.slice o0_a o0_n o0_c,(.map M0)] 89)) (h :
 ylU pP (Instr.range 87 (.map M0)) w fun q3 w4 => yaF [b0] w w4 ∧
 yaO yq3 (yGO 396 [0,0,1,0,1,1]) (yGP [1,1,0,1,0] [] R) (yj9 q3 b0 o0_a o0_n o0_c M0 (none,0,0)) w4) :
 CR pP 69 #[(.pointer (some ⟨b0,0,none⟩))] w R :=
 yaJ Tryz.wide_mixed (an:=yq4) Tryz.func69 rfl rfl (by kernel_rfl) rfl hb (Eq.mpr (by kernel_rfl) h)
def yq5:LA:=⟨[0,0,1,0,1,1],[3,10],[],1,[]⟩
def yq6:List LA:=[yq5]
abbrev yGQ:=dnF pP yq6 (code Tryz.f70)
abbrev yMU:=yaR pP yq6 (code Tryz.f70)
abbrev yGR (p:List Nat) (K:List Kh) (R:VWP):=yaR pP yq6 (code Tryz.f70) p K (ybE pP Tryz.f70 [0] R)
def ykA (a1:Addr) (bm0:Nat) (a0:Option Nat):(Option Addr) × Nat × Nat → List Value × List TB:=fun (a2,a4,a3) => ([.slice a2 a4 a3,(.pointer (some a1))],[⟨bm0,92,[(.map a0)],false⟩])
abbrev yEi (a1:Addr) (bm0:Nat) (a0:Option Nat) (I:Nat → Option Addr → Nat → Nat → World → Prop) (m:Nat):Kh:=KG (ykA a1 bm0 a0) (U3 I) m
theorem yAV {I:Nat → Option Addr → Nat → Nat → World → Prop} (m':Nat) (h1:m' < m) (h2:I m' q0 n1 n2 w):KS (yEi A0 n0 M0 I m) (ykA A0 n0 M0 (q0,n1,n2)) w:=⟨m',h1,_,rfl,rfl,h2⟩
theorem yAW (I:Nat → Option Addr → Nat → Nat → World → Prop) (m0:Nat) (h0:I m0 q0 n1 n2 w0)
 (hr:∀ m a2 a4 a3 w,I m a2 a4 a3 w →
 yz0 pP (.pointer (some A0)) 0 w (fun w9 => yaF [n0] w w9 ∧
 Calls pP 132 #[.slice a2 a4 a3,(.func (.func 129) #[] #[])] w9 fun e b4 => e = .returned (.tuple #[]) ∧ yaF [n0] w9 b4 ∧
 ∀ b1,Adv [] [] b4 b1 → b1.heap[n0]? = some (.cells #[(.map M0)] 92) →
 R (.slice a2 a4 a3) b1)
 (fun c4 c5 b0 => yaF [n0] w b0 ∧
 ∃ b2 b3 b8 b9,∃ a5,(Instr.entry (.pointer (some A0))).run pP b0 = .ok (.tuple #[(.agg (Z14 b2 b3 b8)),.int .i64 b9]) a5 ∧ yaF [n0] b0 a5 ∧
 ∀ a7,a5.heap.size ≤ a7 →
 ∀ b5,Adv [] [a7] a5 b5 →
 al b5 (.cells (Z6 b2 b3 b8 b9) 130) fun c1 b6 =>
 ybC pP (Builtin.append_ #[71,71] 71 #[.slice a2 a4 a3,(.slice (some ⟨c1,0,none⟩) 1 1)]) b6 fun c0 c3 c2 b7 => yaF [n0,a7] b6 b7 ∧
 KS (yEi A0 n0 M0 I m) (ykA A0 n0 M0 (c0,c3,c2)) b7)) :
 yaO yq5 (yGQ 396 [0,0,1,0,1,1]) (yGR [1,1,0,1,0] [] R) (ykA A0 n0 M0 (q0,n1,n2)) w0 :=
 lrule (ykA A0 n0 M0) (U3 I) h0 (by rintro m ⟨a2,a4,a3⟩ w h; exact ⟨by kernel_rfl,by kernel_rfl,fun js => Eq.mpr (by kernel_rfl) (hr m a2 a4 a3 w h)⟩)
theorem yIt {b0:Nat} (hb:w.heap[b0]? = some (.cells #[(.map M0)] 92)) (h :
 ylU pP (Instr.range 90 (.map M0)) w fun q3 w4 => yaF [b0] w w4 ∧
 yaO yq5 (yGQ 396 [0,0,1,0,1,1]) (yGR [1,1,0,1,0] [] R) (ykA q3 b0 M0 (none,0,0)) w4) :
 CR pP 70 #[(.pointer (some ⟨b0,0,none⟩))] w R :=
 yaJ Tryz.wide_mixed (an:=yq6) Tryz.func70 rfl rfl (by kernel_rfl) rfl hb (Eq.mpr (by kernel_rfl) h)
def yq7:LA:=⟨[0,0,1,0,1,1],[3,11,12,13],[],1,[]⟩
def yq8:List LA:=[yq7]
abbrev yGS:=dnF pP yq8 (code Tryz.f73)
abbrev yMV:=yaR pP yq8 (code Tryz.f73)
abbrev yGT (p:List Nat) (K:List Kh) (R:VWP):=yaR pP yq8 (code Tryz.f73) p K (ybE pP Tryz.f73 [0] R)
def ykB (a4:OA) (a6 a5:Nat) (a7:Int) (bm0:Nat) (a3:Int) (a0:OA) (a2 a1:Nat):(Option Addr) × Nat × Nat × Int → List Value × List TB:=fun (a9,b1,b0,a8) => ([.slice a9 b1 b0,.slice a4 a6 a5,.int .i64 a7,.int .i64 a8],[⟨bm0,83,[.int .i64 a3,.slice a0 a2 a1],false⟩])
abbrev yEj (a4:OA) (a6 a5:Nat) (a7:Int) (bm0:Nat) (a3:Int) (a0:OA) (a2 a1:Nat) (I:Nat → Option Addr → Nat → Nat → Int → World → Prop) (m:Nat):Kh:=KG (ykB a4 a6 a5 a7 bm0 a3 a0 a2 a1) (U4 I) m
theorem yAX {I:Nat → Option Addr → Nat → Nat → Int → World → Prop} (m':Nat) (h1:m' < m) (h2:I m' q2 n5 n6 i2 w):KS (yEj q0 n0 n1 i0 n2 i1 q1 n3 n4 I m) (ykB q0 n0 n1 i0 n2 i1 q1 n3 n4 (q2,n5,n6,i2)) w:=⟨m',h1,_,rfl,rfl,h2⟩
theorem yAY {a5:OA} {a6 a8:Nat} {bm0:Nat} {a0:OA} {a2 a1:Nat} {b3:OA} {b5 b4:Nat} (I:Nat → Option Addr → Nat → Nat → Int → World → Prop) (m0:Nat) (h0:I m0 b3 b5 b4 i2 w0)
 (hr:∀ m a9 b1 b0 a4 w,I m a9 b1 b0 a4 w →
 brB (decide (a4 < i0)) (
 ixA a5 a6 a4 1 fun q3 =>
 ygI w q3 fun p4 =>
 Calls pP 99 #[.pointer p4] w fun e w8 => ∃ x9 c3,e = .returned (.tuple #[.int .i64 x9,.int .i64 c3]) ∧ yaF [bm0] w w8 ∧
 Calls pP 104 #[.pointer p4] w8 fun e c0 => ∃ b7 b9 b8,e = .returned (.slice b7 b9 b8) ∧ yaF [bm0] w8 c0 ∧
 al c0 (.cells #[.int .i64 x9,.int .i64 c3,.slice b7 b9 b8] 243) fun c5 c1 =>
 ybC pP (Builtin.append_ #[154,154] 154 #[.slice a9 b1 b0,(.slice (some ⟨c5,0,none⟩) 1 1)]) c1 fun c4 c7 c6 c2 => yaF [bm0] c1 c2 ∧
 KS (yEj a5 a6 a8 i0 bm0 i1 a0 a2 a1 I m) (ykB a5 a6 a8 i0 bm0 i1 a0 a2 a1 (c4,c7,c6,(IntKind.wrap .i64 (a4 + 1)))) c2)
 (
 ∀ b6,Adv [] [] w b6 → b6.heap[bm0]? = some (.cells #[.int .i64 i1,.slice a0 a2 a1] 83) →
 R (.slice a9 b1 b0) b6)) :
 yaO yq7 (yGS 396 [0,0,1,0,1,1]) (yGT [1,1,0,1,0] [] R) (ykB a5 a6 a8 i0 bm0 i1 a0 a2 a1 (b3,b5,b4,i2)) w0 :=
 lrule (ykB a5 a6 a8 i0 bm0 i1 a0 a2 a1) (U4 I) h0 (by rintro m ⟨a9,b1,b0,a4⟩ w h; exact ⟨by kernel_rfl,by kernel_rfl,fun js => Eq.mpr (by kernel_rfl) (hr m a9 b1 b0 a4 w h)⟩)
theorem yIu {b0:Nat} {o1_n o1_c:Nat} (hb:w.heap[b0]? = some (.cells #[.int .i64 i0,.slice q0 o1_n o1_c] 83)) (h :
 yaO yq7 (yGS 396 [0,0,1,0,1,1]) (yGT [1,1,0,1,0] [] R) (ykB q0 o1_n o1_c (o1_n:Int) b0 i0 q0 o1_n o1_c (none,0,0,0)) w) :
 CR pP 73 #[(.pointer (some ⟨b0,0,none⟩))] w R :=
 yaJ Tryz.wide_mixed (an:=yq8) Tryz.func73 rfl rfl (by kernel_rfl) rfl hb (Eq.mpr (by kernel_rfl) h)
end
end Go.Proofs.YteldhjiiocmicaaGreat
namespace Go.Proofs.YteldhjiiocmicaaGreat
open Go Go.RowKit Go.Shelf Go.Lib Go.Sort
set_option linter.unusedVariables false
set_option linter.unusedSimpArgs false
structure PMaker where
 id:Int
 epoch:Int
 part:PPart
 last:List PDid
 deriving DecidableEq
structure MkV where
 x:PMaker
 s:Sl
def MkV.cs (q:MkV):List Value:=[.int .i64 q.x.id,.int .i64 q.x.epoch,.string q.x.part.t,.int .i64 q.x.part.n,.slice q.s.a q.s.n q.s.c]
theorem MkV.cs_len (q:MkV):q.cs.length = 5:=rfl
theorem MkV.cs_one (q:MkV):∀ u ∈ q.cs,u.oneCell' = true:=by simp [MkV.cs,Value.oneCell']
def yfX (q:PMark):List Value:=[.string q.g,.string q.p.t,.int .i64 q.p.n,.int .i64 q.off]
theorem yjB (q:PMark):(yfX q).length = 4:=rfl
theorem yuQ (q:PMark):∀ u ∈ yfX q,u.oneCell' = true:=by simp [yfX,Value.oneCell']
def yc4 (x y:MkV):Int:=orF [compareInt x.x.id y.x.id,yq2 x.x.part.t y.x.part.t,compareInt x.x.part.n y.x.part.n]
def ydX (x y:PMark):Int:=orF [yq2 x.g y.g,yq2 x.p.t y.p.t,compareInt x.p.n y.p.n]
theorem yGU (W:World) (a b c:Int):Calls pP 158 #[.slice (some ⟨W.heap.size,0,none⟩) 3 3] (W.alloc (.cells #[.int .i64 a,.int .i64 b,.int .i64 c] 3)).drew fun e w' => e = .returned (.int .i64 (orF [a,b,c])) ∧ w' = (W.alloc (.cells #[.int .i64 a,.int .i64 b,.int .i64 c] 3)).drew:=by
 refine yFL (l:=[a,b,c]) ?_ (by simp)
 refine ybF.flatB (l:=[a,b,c]) (T:=3) yb4 ?_
 exact Array.getElem?_push_size
theorem yuR (W:World) (A B:Obj):∃ os,(W.alloc A).alloc B = grow W os ∧ ((W.alloc A).alloc B).heap[W.heap.size]? = some A ∧ ((W.alloc A).alloc B).heap[W.heap.size + 1]? = some B:=by
 refine ⟨#[A] ++ #[B],by rw [alloc_eq_grow,alloc_eq_grow,grow_grow],?_,?_⟩
 ·show ((W.heap.push A).push B)[W.heap.size]? = _
  simp [Array.getElem?_push]
 ·show ((W.heap.push A).push B)[W.heap.size + 1]? = _
  have:W.heap.size + 1 = (W.heap.push A).size:=by simp
  rw [this]
  exact Array.getElem?_push_size
set_option maxHeartbeats 4000000 in
theorem ynK (x y:MkV) (W:World):Calls pP 126 #[.agg x.cs.toArray,.agg y.cs.toArray] W fun e w' => e = .returned (.int .i64 (yc4 x y)) ∧ ∃ q os',w' = grow (W.drewN q) os':=by
 have mixed:=Tryz.wide_mixed
 have hci:=fun a b W' => AnyG.cmp_Compare_int Tryz.hcmpL a b W'
 change ∀ a b W',Calls pP 159 _ _ _ at hci
 unfold yc4 MkV.cs
 go_enter Tryz.func126,Tryz.ntmps126
 go_wp2
 obtain ⟨os,hg,h0,h1⟩:=yuR W (Obj.cells #[.int .i64 x.x.id,.int .i64 x.x.epoch,.string x.x.part.t,.int .i64 x.x.part.n,.slice x.s.a x.s.n x.s.c] 143) (Obj.cells #[.int .i64 y.x.id,.int .i64 y.x.epoch,.string y.x.part.t,.int .i64 y.x.part.n,.slice y.s.a y.s.n y.s.c] 143)
 generalize (World.alloc (World.alloc W _) _) = W1 at hg h0 h1 ⊢
 have a0:W1.cell? ⟨W.heap.size,0,none⟩ = some (.int .i64 x.x.id):=by rw [yaM h0]; rfl
 have a2:W1.cell? ⟨W.heap.size,2,none⟩ = some (.string x.x.part.t):=by rw [yaM h0]; rfl
 have a3:W1.cell? ⟨W.heap.size,3,none⟩ = some (.int .i64 x.x.part.n):=by rw [yaM h0]; rfl
 have b0:W1.cell? ⟨W.heap.size + 1,0,none⟩ = some (.int .i64 y.x.id):=by rw [yaM h1]; rfl
 have b2:W1.cell? ⟨W.heap.size + 1,2,none⟩ = some (.string y.x.part.t):=by rw [yaM h1]; rfl
 have b3:W1.cell? ⟨W.heap.size + 1,3,none⟩ = some (.int .i64 y.x.part.n):=by rw [yaM h1]; rfl
 clear h0 h1
 replace hg:Shut (W1 = grow W os):=hg
 go_region_held (fun w' => w'.cell? ⟨W.heap.size,0,none⟩ = some (.int .i64 x.x.id) ∧ w'.cell? ⟨W.heap.size,2,none⟩ = some (.string x.x.part.t) ∧ w'.cell? ⟨W.heap.size,3,none⟩ = some (.int .i64 x.x.part.n) ∧ w'.cell? ⟨W.heap.size + 1,0,none⟩ = some (.int .i64 y.x.id) ∧ w'.cell? ⟨W.heap.size + 1,2,none⟩ = some (.string y.x.part.t) ∧ w'.cell? ⟨W.heap.size + 1,3,none⟩ = some (.int .i64 y.x.part.n)) (go_keep)
  (first | (go_at_call 159; refine (hci _ _ _).mono ?_; rintro e w' ⟨rfl,rfl⟩) | (go_at_call 160; refine (yEg _ _ _).mono ?_; rintro e w' ⟨rfl,rfl⟩) | (go_at_call 158; refine (yGU _ _ _ _).mono ?_; rintro e w' ⟨rfl,rfl⟩))
 all_goals go_wp2
 all_goals go_ret
 all_goals exact ⟨rfl,1,os ++ #[_],by rw [hg.out,alloc_eq_grow,grow_grow]; rfl⟩
set_option maxHeartbeats 4000000 in
theorem ynL (x y:PMark) (W:World):Calls pP 129 #[.agg (yfX x).toArray,.agg (yfX y).toArray] W fun e w' => e = .returned (.int .i64 (ydX x y)) ∧ ∃ q os',w' = grow (W.drewN q) os':=by
 have mixed:=Tryz.wide_mixed
 have hci:=fun a b W' => AnyG.cmp_Compare_int Tryz.hcmpL a b W'
 change ∀ a b W',Calls pP 159 _ _ _ at hci
 unfold ydX yfX
 go_enter Tryz.func129,Tryz.ntmps129
 go_wp2
 obtain ⟨os,hg,h0,h1⟩:=yuR W (Obj.cells #[.string x.g,.string x.p.t,.int .i64 x.p.n,.int .i64 x.off] 130) (Obj.cells #[.string y.g,.string y.p.t,.int .i64 y.p.n,.int .i64 y.off] 130)
 generalize (World.alloc (World.alloc W _) _) = W1 at hg h0 h1 ⊢
 have a0:W1.cell? ⟨W.heap.size,0,none⟩ = some (.string x.g):=by rw [yaM h0]; rfl
 have a2:W1.cell? ⟨W.heap.size,1,none⟩ = some (.string x.p.t):=by rw [yaM h0]; rfl
 have a3:W1.cell? ⟨W.heap.size,2,none⟩ = some (.int .i64 x.p.n):=by rw [yaM h0]; rfl
 have b0:W1.cell? ⟨W.heap.size + 1,0,none⟩ = some (.string y.g):=by rw [yaM h1]; rfl
 have b2:W1.cell? ⟨W.heap.size + 1,1,none⟩ = some (.string y.p.t):=by rw [yaM h1]; rfl
 have b3:W1.cell? ⟨W.heap.size + 1,2,none⟩ = some (.int .i64 y.p.n):=by rw [yaM h1]; rfl
 clear h0 h1
 replace hg:Shut (W1 = grow W os):=hg
 go_region_held (fun w' => w'.cell? ⟨W.heap.size,0,none⟩ = some (.string x.g) ∧ w'.cell? ⟨W.heap.size,1,none⟩ = some (.string x.p.t) ∧ w'.cell? ⟨W.heap.size,2,none⟩ = some (.int .i64 x.p.n) ∧ w'.cell? ⟨W.heap.size + 1,0,none⟩ = some (.string y.g) ∧ w'.cell? ⟨W.heap.size + 1,1,none⟩ = some (.string y.p.t) ∧ w'.cell? ⟨W.heap.size + 1,2,none⟩ = some (.int .i64 y.p.n)) (go_keep)
  (first | (go_at_call 159; refine (hci _ _ _).mono ?_; rintro e w' ⟨rfl,rfl⟩) | (go_at_call 160; refine (yEg _ _ _).mono ?_; rintro e w' ⟨rfl,rfl⟩) | (go_at_call 158; refine (yGU _ _ _ _).mono ?_; rintro e w' ⟨rfl,rfl⟩))
 all_goals go_wp2
 all_goals go_ret
 all_goals exact ⟨rfl,1,os ++ #[_],by rw [hg.out,alloc_eq_grow,grow_grow]; rfl⟩
end Go.Proofs.YteldhjiiocmicaaGreat
namespace Go.Proofs.YteldhjiiocmicaaGreat
open Go Go.RowKit Go.Shelf Go.Lib Go.Sort
set_option linter.unusedVariables false
set_option linter.unusedSimpArgs false
theorem yq9 {a b:Int}:compareInt a b < 0 ↔ a < b:=by
 unfold Lib.compareInt
 by_cases h1:a < b
 ·simp [h1]
 ·by_cases h2:b < a <;> simp [h1,h2]
theorem yEk {a b:Int}:compareInt a b = 0 ↔ a = b:=by
 unfold Lib.compareInt
 by_cases h1:a < b
 ·simp [h1]; omega
 ·by_cases h2:b < a
  ·simp [h1,h2]; omega
  ·simp [h1,h2]; omega
theorem ynM {a b:ByteArray}:yq2 a b < 0 ↔ yb8 a b = true:=by
 unfold yq2
 by_cases h1:yb8 a b = true
 ·simp [h1]
 ·rw [if_neg h1]
  by_cases h2:a = b
  ·rw [if_pos h2]; simp [h1]
  ·rw [if_neg h2]; simp [h1]
theorem ykC {a b:ByteArray}:yq2 a b = 0 ↔ a = b:=by
 unfold yq2
 by_cases h1:yb8 a b = true
 ·simp only [h1,if_true]
  refine ⟨fun h => by omega,fun h => ?_⟩
  subst h
  rw [yeB] at h1; cases h1
 ·rw [if_neg h1]
  by_cases h2:a = b
  ·rw [if_pos h2]; simp [h2]
  ·rw [if_neg h2]; simp [h2]
theorem yEl {x y z:Int}:orF [x,y,z] < 0 ↔ x < 0 ∨ x = 0 ∧ (y < 0 ∨ y = 0 ∧ z < 0):=by
 unfold orF
 by_cases h1:x = 0
 ·rw [if_neg (by simp [h1])]
  unfold orF
  by_cases h2:y = 0
  ·rw [if_neg (by simp [h2])]
   unfold orF
   by_cases h3:z = 0
   ·rw [if_neg (by simp [h3])]; unfold orF; omega
   ·rw [if_pos h3]; omega
  ·rw [if_pos h2]; omega
 ·rw [if_pos h1]; omega
theorem yw4 (x y:MkV):ltOf yc4 x y = true ↔ x.x.id < y.x.id ∨ x.x.id = y.x.id ∧ yzM x.x.part y.x.part:=by
 unfold ltOf yc4 yzM
 rw [decide_eq_true_eq,yEl,yq9,yEk,ynM,ykC,yq9]
theorem yEm (x y:PMark):ltOf ydX x y = true ↔ yb8 x.g y.g = true ∨ x.g = y.g ∧ yzM x.p y.p:=by
 unfold ltOf ydX yzM
 rw [decide_eq_true_eq,yEl,ynM,ykC,ynM,ykC,yq9]
theorem yFM:SWO (ltOf yc4):=yGN (lt:=fun a b:Int => a < b) (fun x => by omega) (fun h1 h2 => by omega) (fun h1 h2 => by omega) (fun q:MkV => q.x.id) (fun q => q.x.part) _ yw4
theorem yIv:SWO (ltOf ydX):=yGN (lt:=fun a b:ByteArray => yb8 a b = true) (fun x => by rw [yeB]; simp) (fun h1 h2 => yf7 h1 h2) (fun h1 h2 => ynJ (by simpa using h1) (by simpa using h2)) (fun q:PMark => q.g) (fun q => q.p) _ yEm
instance:Inhabited MkV:=⟨⟨⟨0,0,⟨⟨#[]⟩,0⟩,[]⟩,ya8⟩⟩
instance:Inhabited PMark:=⟨⟨⟨#[]⟩,⟨⟨#[]⟩,0⟩,0⟩⟩
theorem yEn {w:World} {B:Nat} {s:Sl} {ll:List MkV} (hR:Row w B 143 5 MkV.cs s.a s.n s.c ll) (hl:ll.length ≤ 1000000) :
  Calls pP 131 #[.slice s.a s.n s.c,.func (.func 126) #[] #[]] w fun e w' => e = .returned (.tuple #[]) ∧ ∃ ll':List MkV,ll'.Perm ll ∧ ll'.Pairwise (fun a b => ltOf yc4 b a = false) ∧ Row w' B 143 5 MkV.cs s.a s.n s.c ll' ∧ Mod (yaN s.a) w w':=by
 obtain ⟨sa,sn,sc⟩:=s
 have hn:sn = ll.length:=hR.1
 subst hn
 cases sa with
 | none =>
  have h0:ll = []:=by
   obtain ⟨_,_,h⟩:=hR
   rcases h with ⟨h,h2⟩ | ⟨g',cap,cur,h1,_⟩
   ·exact List.eq_nil_of_length_eq_zero h2
   ·cases h1
  subst h0
  refine (AnyF.slices_SortFunc_none Tryz.mkSortL none sc (.func (.func 126) #[] #[]) w).mono ?_
  rintro _ w' ⟨rfl,rfl⟩
  exact ⟨rfl,[],List.Perm.refl _,List.Pairwise.nil,hR,(Mod.refl _).less (by simp)⟩
 | some ad =>
  obtain ⟨g,rfl⟩:∃ g,ad = ⟨g,0,none⟩:=by
   obtain ⟨_,_,h⟩:=hR
   rcases h with ⟨h,h2⟩ | ⟨g',cap,cur,h1,_⟩
   ·cases h
   ·cases h1; exact ⟨g',rfl⟩
  have hH:=yoQ MkV.cs_len hR
  have lg:g < w.heap.size:=by
   obtain ⟨_,cur,hc⟩:=hR.block _ rfl
   exact yaH hc
  have eg:∀ args w,(callFunc 126 args).run pP w = .ok (.enter 126 args) w:=enters_of Tryz.func126 (by kernel_rfl) rfl
  have hcon:=AnyQ.slices_SortFunc Tryz.mkSortL 5 (by intro w; kernel_rfl) (by intro w; kernel_rfl) MkV.cs MkV.cs_len MkV.cs_one yc4 yFM 126 #[] g 0 sc ll.toArray w eg (fun _ _ _ _ x y => ynK x y _) hH lg (by simp; omega)
  change Calls pP 131 _ _ _ at hcon
  refine hcon.mono ?_
  rintro _ w' ⟨rfl,d',m,os,hP,hSd,rfl⟩
  obtain ⟨p1,p2,p3⟩:=hP
  have hsz:d'.size = ll.length:=by simpa using p1
  obtain ⟨hR',hM⟩:=yoR (m:=m) (os:=os) MkV.cs_len hR hsz
  refine ⟨rfl,d'.toList,?_,?_,hR',hM⟩
  ·have et:d'.toList.take ll.length = d'.toList:=List.take_of_length_le (by simp [hsz])
   simpa [hsz,et] using p3
  ·refine List.pairwise_iff_getElem.2 fun i j hi hj hij => ?_
   have:=hSd i j (Nat.zero_le _) hij (by simpa [hsz] using hj)
   simpa [getElem!_pos d' i (by simpa using hi),getElem!_pos d' j (by simpa using hj)] using this
theorem yEo {w:World} {B:Nat} {s:Sl} {ll:List PMark} (hR:Row w B 130 4 yfX s.a s.n s.c ll) (hl:ll.length ≤ 1000000) :
  Calls pP 132 #[.slice s.a s.n s.c,.func (.func 129) #[] #[]] w fun e w' => e = .returned (.tuple #[]) ∧ ∃ ll':List PMark,ll'.Perm ll ∧ ll'.Pairwise (fun a b => ltOf ydX b a = false) ∧ Row w' B 130 4 yfX s.a s.n s.c ll' ∧ Mod (yaN s.a) w w':=by
 obtain ⟨sa,sn,sc⟩:=s
 have hn:sn = ll.length:=hR.1
 subst hn
 cases sa with
 | none =>
  have h0:ll = []:=by
   obtain ⟨_,_,h⟩:=hR
   rcases h with ⟨h,h2⟩ | ⟨g',cap,cur,h1,_⟩
   ·exact List.eq_nil_of_length_eq_zero h2
   ·cases h1
  subst h0
  refine (AnyF.slices_SortFunc_none Tryz.ofSortL none sc (.func (.func 129) #[] #[]) w).mono ?_
  rintro _ w' ⟨rfl,rfl⟩
  exact ⟨rfl,[],List.Perm.refl _,List.Pairwise.nil,hR,(Mod.refl _).less (by simp)⟩
 | some ad =>
  obtain ⟨g,rfl⟩:∃ g,ad = ⟨g,0,none⟩:=by
   obtain ⟨_,_,h⟩:=hR
   rcases h with ⟨h,h2⟩ | ⟨g',cap,cur,h1,_⟩
   ·cases h
   ·cases h1; exact ⟨g',rfl⟩
  have hH:=yoQ yjB hR
  have lg:g < w.heap.size:=by
   obtain ⟨_,cur,hc⟩:=hR.block _ rfl
   exact yaH hc
  have eg:∀ args w,(callFunc 129 args).run pP w = .ok (.enter 129 args) w:=enters_of Tryz.func129 (by kernel_rfl) rfl
  have hcon:=AnyQ.slices_SortFunc Tryz.ofSortL 4 (by intro w; kernel_rfl) (by intro w; kernel_rfl) yfX yjB yuQ ydX yIv 129 #[] g 0 sc ll.toArray w eg (fun _ _ _ _ x y => ynL x y _) hH lg (by simp; omega)
  change Calls pP 132 _ _ _ at hcon
  refine hcon.mono ?_
  rintro _ w' ⟨rfl,d',m,os,hP,hSd,rfl⟩
  obtain ⟨p1,p2,p3⟩:=hP
  have hsz:d'.size = ll.length:=by simpa using p1
  obtain ⟨hR',hM⟩:=yoR (m:=m) (os:=os) yjB hR hsz
  refine ⟨rfl,d'.toList,?_,?_,hR',hM⟩
  ·have et:d'.toList.take ll.length = d'.toList:=List.take_of_length_le (by simp [hsz])
   simpa [hsz,et] using p3
  ·refine List.pairwise_iff_getElem.2 fun i j hi hj hij => ?_
   have:=hSd i j (Nat.zero_le _) hij (by simpa [hsz] using hj)
   simpa [getElem!_pos d' i (by simpa using hi),getElem!_pos d' j (by simpa using hj)] using this
end Go.Proofs.YteldhjiiocmicaaGreat
namespace Go.Proofs.YteldhjiiocmicaaGreat
open Go Go.RowKit Go.Maps Go.MapKept Go.Sort Go.Shelf
set_option linter.unusedVariables false
set_option linter.unusedSimpArgs false
theorem yFN:(Tryz.prog.info? 130).map (fun i => (i.zero,i.size,i.bytes)) = some (some (.agg #[.string ByteArray.empty,.string ByteArray.empty,.int .i64 0,.int .i64 0]),4,48):=by kernel_rfl
theorem yEp:(Tryz.prog.info? 143).map (fun i => (i.zero,i.size,i.bytes)) = some (some (.agg #[.int .i64 0,.int .i64 0,.string ByteArray.empty,.int .i64 0,.slice none 0 0]),5,64):=by kernel_rfl
theorem yAZ {w:World} {B:Nat} {f:Sl} {l:List PMark} {y:PMark} {bs:List Nat} {F:Option Addr → Nat → Nat → World → Prop} (hR:Row w B 130 4 yfX f.a f.n f.c l) (hl:l.length ≤ 1000000) (hB:B ≤ w.heap.size) (hbs:∀ b ∈ bs,b ∉ yaN f.a)
  (hF:∀ a' c' w',Row w' B 130 4 yfX a' (f.n + 1) c' (l ++ [y]) → Mod (yaN f.a) w w' → (∀ k ∈ yaN a',k ∈ yaN f.a ∨ w.heap.size ≤ k) → F a' (f.n + 1) c' w') :
  al w (.cells (yfX y).toArray 130) fun b w1 => ybC pP (Builtin.append_ #[71,71] 71 #[.slice f.a f.n f.c,.slice (some ⟨b,0,none⟩) 1 1]) w1 fun a n c w2 => yaF bs w1 w2 ∧ F a n c w2:=by
 refine yd6 fun b w1 c1 M1 f1 => ?_
 have s1:=M1.size
 obtain ⟨i0,hi0,hz0,hz1,hz2⟩:=info_parts yFN
 refine ydF (x:=y) (hR.keep0 M1) Tryz.underlying71 hi0 hz0 hz1 hz2 rfl (by decide) c1 rfl (yuQ _) (by omega) (by unfold maxLen; omega) (by omega) fun a' c' w8 hR8 hM8 hk8 => ?_
 have M8:=hM8 _ (ycN f.a)
 refine ⟨yaF.of M8 fun b hb _ => hbs b hb,hF a' c' w8 hR8 ?_ fun k hk => ?_⟩
 ·exact (M1.trans M8).less fun k hk _ => by simpa using hk
 ·rcases hk8 k hk with h | h
  ·exact .inl h
  ·exact .inr (by omega)
theorem yw5 {w:World} {B:Nat} {f:Sl} {l:List MkV} {y:MkV} {bs:List Nat} {F:Option Addr → Nat → Nat → World → Prop} (hR:Row w B 143 5 MkV.cs f.a f.n f.c l) (hl:l.length ≤ 1000000) (hB:B ≤ w.heap.size) (hbs:∀ b ∈ bs,b ∉ yaN f.a)
  (hF:∀ a' c' w',Row w' B 143 5 MkV.cs a' (f.n + 1) c' (l ++ [y]) → Mod (yaN f.a) w w' → (∀ k ∈ yaN a',k ∈ yaN f.a ∨ w.heap.size ≤ k) → F a' (f.n + 1) c' w') :
  al w (.cells (MkV.cs y).toArray 143) fun b w1 => ybC pP (Builtin.append_ #[69,69] 69 #[.slice f.a f.n f.c,.slice (some ⟨b,0,none⟩) 1 1]) w1 fun a n c w2 => yaF bs w1 w2 ∧ F a n c w2:=by
 refine yd6 fun b w1 c1 M1 f1 => ?_
 have s1:=M1.size
 obtain ⟨i0,hi0,hz0,hz1,hz2⟩:=info_parts yEp
 refine ydF (x:=y) (hR.keep0 M1) Tryz.underlying69 hi0 hz0 hz1 hz2 rfl (by decide) c1 rfl (MkV.cs_one _) (by omega) (by unfold maxLen; omega) (by omega) fun a' c' w8 hR8 hM8 hk8 => ?_
 have M8:=hM8 _ (ycN f.a)
 refine ⟨yaF.of M8 fun b hb _ => hbs b hb,hF a' c' w8 hR8 ?_ fun k hk => ?_⟩
 ·exact (M1.trans M8).less fun k hk _ => by simpa using hk
 ·rcases hk8 k hk with h | h
  ·exact .inl h
  ·exact .inr (by omega)
theorem yuS {w:World} {a:Option Addr} {n c:Nat} {l:List Int} (h:ybF w 1 ycO a n l) (hl:l.length ≤ 1000000) :
  Calls pP 125 #[.slice a n c] w fun e w' => ∃ v,e = .returned v ∧ ∃ s':Sl,v = .slice s'.a s'.n s'.c ∧ Row w' w.heap.size 3 1 ycO s'.a s'.n s'.c l ∧ Mod [] w w':=by
 refine yIq ?_
 refine yaE (fun h0 => ?_) fun _ => ?_
 ·have hl0:l = []:=by
   cases l with
   | nil => rfl
   | cons x r => obtain ⟨ad,ha,_⟩:=h.2 0 x rfl; rw [ha] at h0; cases h0
  subst hl0
  exact ⟨⟨none,0,0⟩,rfl,Row.nil ..,Mod.refl _⟩
 ·refine yd6 fun b w1 c1 M1 f1 => ?_
  obtain ⟨i0,hi,hz0,hz1,hz2⟩:=info_parts yGh
  refine ydE (Row.fresh c1 f1) Tryz.underlying22 hi hz0 hz1 hz2 rfl (by decide) (h.keep0 M1) yb4 ys8 (by simp; omega) (by simp; unfold maxLen; omega) M1.size fun a' n' c' w2 hR hM => ?_
  exact ⟨⟨a',n',c'⟩,rfl,by simpa using hR,M1.go0 (hM [b] (by simp)) (by simpa using f1)⟩
theorem yg0 {w:World} {b:Nat} {eps:List Int} {D:List (yjI × List PDid)} {F:List Nat} (h:yeO w b eps D F) (hl:eps.length ≤ 1000000) :
  Calls pP 68 #[.pointer (some ⟨b,0,none⟩)] w fun e w' => ∃ v,e = .returned v ∧ ∃ s':Sl,v = .slice s'.a s'.n s'.c ∧ Row w' w.heap.size 3 1 ycO s'.a s'.n s'.c eps ∧ Mod [] w w':=by
 obtain ⟨sl,m,L,hc,hR,hm,hD,hP,rfl,rfl⟩:=h
 refine yIr hc ?_
 refine (yuS (hR.sl yb4) hl).mono ?_
 rintro _ w1 ⟨_,rfl,s',rfl,hR',M1⟩
 refine ⟨_,_,_,rfl,yaF.of0 M1,?_⟩
 intro w2 A2 _
 exact ⟨s',rfl,hR'.keep0 A2.mod,M1.go0 A2.mod (by simp)⟩
def yjC (q:yMj × Int):PMark:=⟨q.1.1,q.1.2,q.2⟩
theorem yfY {w:World} {b:Nat} {L:OL} {F:List Nat} (h:yf5 w b L F) (hl:L.length ≤ 1000000) :
  Calls pP 70 #[.pointer (some ⟨b,0,none⟩)] w fun e w' => ∃ v,e = .returned v ∧ ∃ (s':Sl) (ll:List PMark),v = .slice s'.a s'.n s'.c ∧ Row w' w.heap.size 130 4 yfX s'.a s'.n s'.c ll ∧ ll.Perm (L.map yjC) ∧ ll.Pairwise (fun a b => ltOf ydX b a = false) ∧ Mod [] w w':=by
 obtain ⟨mb,hc,hm,rfl⟩:=h
 have lb:=yaH hc
 have lm:=hm.lt
 refine yIt hc ?_
 obtain ⟨w2,h2,M2,I2⟩:=ybW.start (T:=90) hm Tryz.underlying90
 have s2:=M2.size
 refine ⟨_,w2,h2,yaF.of0 M2,?_⟩
 generalize hr:w.heap.size = r at I2 ⊢
 refine yAW (fun mm a n c w' => ∃ (left:OL) (out:List PMark),ybW pP 204 hko hki w' r mb L left ∧ Row w' r 130 4 yfX a n c out ∧ (out ++ left.map yjC).Perm (L.map yjC) ∧ (∀ q ∈ left,q ∈ L) ∧ (left.map (·.1)).Nodup ∧ r < w'.heap.size ∧ Mod [] w w' ∧ w'.heap[b]? = w.heap[b]? ∧ mm = left.length) L.length
  ⟨L,[],I2,Row.nil ..,by simp,fun p hp => hp,hm.nodup,by
   obtain ⟨es,clock,since,seen,c0,h1,_⟩:=I2
   exact (Array.getElem?_eq_some_iff.1 h1).1,M2,M2.block b lb (by simp),rfl⟩ ?_
 rintro mm a n c w3 ⟨left,out,I3,hR,hP,hsub,hnd,lr,N3,hb3,rfl⟩
 have hlen:out.length + left.length = L.length:=by have:=hP.length_eq; simpa using this
 have s3:=N3.size
 have lk:=yaG hR
 have lbr:∀ k ∈ yaN a,k ≠ b:=fun k hk e => by have:=(lk k hk).1; omega
 rcases I3.step (ty:=0) yh0 with ⟨hl0,hs⟩ | ⟨p,hp,w4',hs,M4',I4,hen⟩
 ·subst hl0
  refine .inl ⟨_,hs,yaF.of0 (Mod.refl _),?_⟩
  refine (yEo (s:=⟨a,n,c⟩) hR (by omega)).mono ?_
  rintro _ w5 ⟨rfl,ll',hp1,hp2,hR',M'⟩
  refine ⟨rfl,yaF.of M' fun k hk _ hk' => by simp at hk; exact lbr k hk' hk,?_⟩
  intro w6 A6 _
  exact ⟨⟨a,n,c⟩,ll',rfl,hR'.keep0 A6.mod,hp1.trans (by simpa using hP),hp2,(N3.go0 M' fun i hi => by have:=(lk i hi).1; omega).go0 A6.mod (by simp)⟩
 ·have hpL:=hsub p hp
  have s4:=M4'.size
  have nr:r ∉ yaN a:=fun hi => by
   obtain ⟨_,_,cur,hcr⟩:=yaP hR r hi
   obtain ⟨es,clock,since,seen,c0,h1,_⟩:=I3
   rw [h1] at hcr; cases hcr
  have nmb:mb ∉ yaN a:=fun hi => by have:=(lk mb hi).1; omega
  have hR4:Row w4' r 130 4 yfX a n c out:=yaA hR M4' (by simpa using nr)
  have N4:Mod [] w w4':=N3.go0 M4' (by simp; omega)
  refine .inr ⟨_,_,w4',hs,yaF.of M4' (by simp; omega),_,_,_,_,w4',hen w4' (Mod.refl _),yaF.of0 (Mod.refl _),?_⟩
  intro b27 f27 w35 A35
  have l35:=A35.lt b27 (by simp)
  have s35:=A35.mod.size
  have hR35:=hR4.keep0 A35.mod
  refine yAZ (y:=yjC p) (f:=⟨a,n,c⟩) hR35 (by omega) (by omega) (fun z hz hz' => ?_) fun a' c' w38 hR38 M38 hk38 => ?_
  ·have:=(yaG hR4 z hz').2
   simp at hz
   rcases hz with rfl | rfl
   ·exact lbr _ hz' rfl
   ·omega
  ·have s38:=M38.size
   have hpm:=yeT hp hnd
   have hll:=hpm.length_eq
   rw [List.length_cons] at hll
   have hsl:(yeJ left p.1).Sublist left:=List.filter_sublist
   have N38:Mod [] w w38:=(N4.go0 A35.mod (by simp)).go0 M38 fun i hi => by have:=(lk i hi).1; omega
   refine yAV (yeJ left p.1).length (by omega) ⟨yeJ left p.1,out ++ [yjC p],(I4.keep A35.mod (by simp) (by simp)).keep M38 nr nmb,hR38,?_,fun q hq => hsub q (hsl.subset hq),hnd.sublist (hsl.map _),by omega,N38,N38.block b lb (by simp),rfl⟩
   refine List.Perm.trans ?_ hP
   rw [List.append_assoc]
   refine List.Perm.append_left _ ?_
   exact (hpm.map yjC).symm
def yEq (eps:List Int) (q:yjI × List PDid):PMaker:=⟨q.1.1,eps.getD (q.1.1 - 1).toNat 0,q.1.2,q.2⟩
theorem yfF {w:World} {b:Nat} {eps:List Int} {D:List (yjI × List PDid)} {F:List Nat} (h:yeO w b eps D F) (hl:D.length ≤ 1000000) (he:eps.length ≤ 1000000) (hq:∀ q ∈ D,q.2.length ≤ 1000000) (hid:∀ q ∈ D,1 ≤ q.1.1 ∧ q.1.1 ≤ eps.length) :
  Calls pP 69 #[.pointer (some ⟨b,0,none⟩)] w fun e w' => ∃ v,e = .returned v ∧ ∃ (s':Sl) (ll:List MkV),v = .slice s'.a s'.n s'.c ∧ Row w' w.heap.size 143 5 MkV.cs s'.a s'.n s'.c ll ∧ (∀ q ∈ ll,Row w' w.heap.size 196 3 yjZ q.s.a q.s.n q.s.c q.x.last) ∧ (ll.map (·.x)).Perm (D.map (yEq eps)) ∧ ll.Pairwise (fun a b => ltOf yc4 b a = false) ∧ Mod [] w w':=by
 obtain ⟨sl,mb,L,hc,hE,hm,hD,hPw,rfl,rfl⟩:=h
 have hlL:L.length ≤ 1000000:=by simpa [ddL] using hl
 have hidL:∀ q ∈ L,1 ≤ q.1.1 ∧ q.1.1 ≤ eps.length:=fun q hq => hid (q.1,q.2.l) (List.mem_map.2 ⟨q,hq,rfl⟩)
 have hqL:∀ q ∈ L,q.2.l.length ≤ 1000000:=fun q hq' => hq (q.1,q.2.l) (List.mem_map.2 ⟨q,hq',rfl⟩)
 have eD:(ddL L).map (yEq eps) = L.map fun q => yEq eps (q.1,q.2.l):=by unfold ddL; rw [List.map_map]; rfl
 rw [eD]
 clear hid hq hl eD
 have lb:=yaH hc
 have lm:=hm.lt
 refine yIs hc ?_
 obtain ⟨w2,h2,M2,I2⟩:=ybW.start (T:=87) hm Tryz.underlying87
 have s2:=M2.size
 refine ⟨_,w2,h2,yaF.of0 M2,?_⟩
 generalize hr:w.heap.size = r at I2 ⊢
 refine yAU (fun mm a n c w' => ∃ (left:DL) (out:List MkV),ybW pP 187 hkd DidV.v w' r mb L left ∧ Row w' r 143 5 MkV.cs a n c out ∧ (∀ q ∈ out,Row w' r 196 3 yjZ q.s.a q.s.n q.s.c q.x.last) ∧ (out.map (·.x) ++ left.map fun q => yEq eps (q.1,q.2.l)).Perm (L.map fun q => yEq eps (q.1,q.2.l)) ∧ (∀ q ∈ left,q ∈ L) ∧ (left.map (·.1)).Nodup ∧ r < w'.heap.size ∧ Mod [] w w' ∧ w'.heap[b]? = w.heap[b]? ∧ mm = left.length) L.length
  ⟨L,[],I2,Row.nil ..,by simp,by simp,fun p hp => hp,hm.nodup,by
   obtain ⟨es,clock,since,seen,c0,h1,_⟩:=I2
   exact (Array.getElem?_eq_some_iff.1 h1).1,M2,M2.block b lb (by simp),rfl⟩ ?_
 rintro mm a n c w3 ⟨left,out,I3,hR,hO,hP,hsub,hnd,lr,N3,hb3,rfl⟩
 have hlen:out.length + left.length = L.length:=by have:=hP.length_eq; simpa using this
 have s3:=N3.size
 have lk:=yaG hR
 have lbr:∀ k ∈ yaN a,k ≠ b:=fun k hk e => by have:=(lk k hk).1; omega
 rcases I3.step (ty:=0) yh1 with ⟨hl0,hs⟩ | ⟨p,hp,w4',hs,M4',I4,hen⟩
 ·subst hl0
  refine .inl ⟨_,hs,yaF.of0 (Mod.refl _),?_⟩
  refine (yEn (s:=⟨a,n,c⟩) hR (by omega)).mono ?_
  rintro _ w5 ⟨rfl,ll',hp1,hp2,hR',M'⟩
  refine ⟨rfl,yaF.of M' fun k hk _ hk' => by simp at hk; exact lbr k hk' hk,?_⟩
  intro w6 A6 _
  refine ⟨⟨a,n,c⟩,ll',rfl,hR'.keep0 A6.mod,fun q hq => ?_,(hp1.map _).trans (by simpa using hP),hp2,(N3.go0 M' fun i hi => by have:=(lk i hi).1; omega).go0 A6.mod (by simp)⟩
  have hq':=hO q (hp1.mem_iff.1 hq)
  exact (yaA hq' M' (ya3 hR hq' (by decide))).keep0 A6.mod
 ·have hpL:=hsub p hp
  have s4:=M4'.size
  have nrow:∀ {α:Type} {T sz:Nat} {enc:α → List Value} {a:Option Addr} {n c:Nat} {l:List α},Row w3 r T sz enc a n c l → r ∉ yaN a:=fun hR hi => by
   obtain ⟨_,_,cur,hcr⟩:=yaP hR r hi
   obtain ⟨es,clock,since,seen,c0,h1,_⟩:=I3
   rw [h1] at hcr; cases hcr
  have nr:=nrow hR
  have nmb:mb ∉ yaN a:=fun hi => by have:=(lk mb hi).1; omega
  have hR4:Row w4' r 143 5 MkV.cs a n c out:=yaA hR M4' (by simpa using nr)
  have hO4:∀ q ∈ out,Row w4' r 196 3 yjZ q.s.a q.s.n q.s.c q.x.last:=fun q hq => yaA (hO q hq) M4' (by simpa using nrow (hO q hq))
  have N4:Mod [] w w4':=N3.go0 M4' (by simp; omega)
  refine .inr ⟨_,_,w4',hs,yaF.of M4' (by simp; omega),_,_,_,_,_,_,w4',hen w4' (Mod.refl _),yaF.of0 (Mod.refl _),?_⟩
  intro b31 f31
  obtain ⟨h1,h2'⟩:=hidL p hpL
  obtain ⟨z,hz⟩:∃ z:Nat,p.1.1 - 1 = (z:Int):=⟨(p.1.1 - 1).toNat,by omega⟩
  have ez:IntKind.wrap .i64 (p.1.1 - 1) = (z:Int):=by rw [yaI (by omega) (by omega),hz]
  rw [ez]
  obtain ⟨x,hx⟩:∃ x,eps[z]? = some x:=⟨_,List.getElem?_eq_getElem (by omega)⟩
  have ex:eps.getD (p.1.1 - 1).toNat 0 = x:=by rw [hz,Int.toNat_natCast,List.getD_eq_getElem?_getD,hx]; rfl
  refine ((hE.keep0 N4).sl yb4).ixW hx fun q32 g32 => ?_
  intro w33 A33
  have l33:=A33.lt b31 (by simp)
  have s33:=A33.mod.size
  refine yaK (x:=x) (by simpa [add_zero] using g32 w33 A33.mod 0 _ rfl) ?_
  have N33:=N4.go0 A33.mod (by simp)
  refine (yh4 (((hD p hpL).keep0 N33).sl yg9) (hqL p hpL)).mono ?_
  rintro _ w35 ⟨_,rfl,s',rfl,hRs,M35⟩
  have s35:=M35.size
  refine ⟨_,_,_,rfl,yaF.of0 M35,rfl,yaK (x:=x) (by simpa [add_zero] using g32 w35 (A33.mod.go0 M35 (by simp)) 0 _ rfl) rfl,rfl,rfl,rfl,?_⟩
  have hR35:=(hR4.keep0 A33.mod).keep0 M35
  have K35:Mod [] w4' w35:=A33.mod.go0 M35 (by simp)
  have N35:=N4.go0 K35 (by simp)
  have hy:yEq eps (p.1,p.2.l) = ⟨p.1.1,x,p.1.2,p.2.l⟩:=by unfold yEq; rw [← ex]
  refine yw5 (y:=⟨⟨p.1.1,x,p.1.2,p.2.l⟩,s'⟩) (f:=⟨a,n,c⟩) hR35 (by omega) (by omega) (fun z hz hz' => ?_) fun a' c' w42 hR42 M42 hk42 => ?_
  ·have:=(yaG hR4 z hz').2
   simp at hz
   rcases hz with rfl | rfl
   ·exact lbr _ hz' rfl
   ·omega
  ·have s42:=M42.size
   have hpm:=yeT hp hnd
   have hll:=hpm.length_eq
   rw [List.length_cons] at hll
   have hsl:(yeJ left p.1).Sublist left:=List.filter_sublist
   have N42:Mod [] w w42:=N35.go0 M42 fun i hi => by have:=(lk i hi).1; omega
   refine yAT (yeJ left p.1).length (by omega) ⟨yeJ left p.1,out ++ [⟨⟨p.1.1,x,p.1.2,p.2.l⟩,s'⟩],(I4.keep K35 (by simp) (by simp)).keep M42 nr nmb,hR42,fun q hq => ?_,?_,fun q hq => hsub q (hsl.subset hq),hnd.sublist (hsl.map _),by omega,N42,N42.block b lb (by simp),rfl⟩
   ·have kp:∀ {q:MkV},Row w35 r 196 3 yjZ q.s.a q.s.n q.s.c q.x.last → Row w42 r 196 3 yjZ q.s.a q.s.n q.s.c q.x.last:=fun hh => yaA hh M42 (ya3 hR35 hh (by decide))
    rcases List.mem_append.1 hq with hq | hq
    ·exact kp ((hO4 q hq).keep0 K35)
    ·simp at hq; subst hq
     exact kp (hRs.rebase (by omega))
   ·refine List.Perm.trans ?_ hP
    rw [List.map_append,List.append_assoc]
    refine List.Perm.append_left _ ?_
    rw [List.map_cons,List.map_nil,List.singleton_append,← hy]
    exact (hpm.map (fun q:yjI × DidV => yEq eps (q.1,q.2.l))).symm
end Go.Proofs.YteldhjiiocmicaaGreat
namespace Go.Proofs.YteldhjiiocmicaaGreat
open Go Go.RowKit
set_option linter.all false
section
set_option maxRecDepth 100000
variable {R:VWP} {w w0:World} {m:Nat} {i0 i1 i2 i3 i4 i5 i6 i7 i8 i9 j0 j1 j2 j3 j4 j5 j6 j7 j8 j9 k0 k1 k2 k3 k4 k5 k6 k7 k8 k9 l0 l1 l2 l3 l4 l5 l6 l7 l8 l9:Int} {s0 s1 s2 s3 s4 s5 s6 s7 s8 s9 t0 t1 t2 t3 t4 t5 t6 t7 t8 t9:BA} {n0 n1 n2 n3 n4 n5 n6 n7 n8 n9 o0 o1 o2 o3 o4 o5 o6 o7 o8 o9 p0 p1 p2 p3 p4 p5 p6 p7 p8 p9:Nat} {q0 q1 q2 q3 q4 q5 q6 q7 q8 q9 r0 r1 r2 r3 r4 r5 r6 r7 r8 r9:OA} {B0 B1 B2 B3 B4 B5 B6 B7 B8 B9:Bool} {M0 M1 M2 M3:Option Nat} {V0 V1 V2 V3 V4 V5:Value} {A0 A1 A2:Addr}
def yrA:LA:=⟨[0,0,1,0,1,1],[1,5,10,11,12],[],1,[0]⟩
def yrB:LA:=⟨[0,0,1,1,0,0,1,1,0,0,1,0,1,1],[1,5,7,10,11,12,17,18],[(7,1,0)],2,[0]⟩
def yrC:List LA:=[yrA,yrB]
abbrev yzN:=dnF pP yrC (code Tryz.f71)
abbrev yMW:=yaR pP yrC (code Tryz.f71)
abbrev yzO (p:List Nat) (K:List Kh) (R:VWP):=yaR pP yrC (code Tryz.f71) p K (ybE pP Tryz.f71 [0] R)
def ykD (a6:OA) (b0 a8:Nat) (a1:OA) (a3 a2:Nat) (a4:Int) (bm0:Nat) (a0:Option Nat):(Option Addr) × Nat × Nat × Int → List Value × List TB:=fun (a7,b1,a9,a5) => ([.slice a6 b0 a8,.slice a7 b1 a9,.slice a1 a3 a2,.int .i64 a4,.int .i64 a5],[⟨bm0,86,[(.map a0)],true⟩])
def yiA (b0:OA) (b4 b2:Nat) (a3:OA) (a5 a4:Nat) (a6 a7 a8:Int) (bm0 bm1:Nat) (a1:BA) (a2:Int):(Option Addr) × Nat × Nat × Int × (Option Nat) → List Value × List TB:=fun (b1,b5,b3,a9,a0) => ([.slice b0 b4 b2,.slice b1 b5 b3,(.pointer (some ⟨bm1,0,none⟩)),.slice a3 a5 a4,.int .i64 a6,.int .i64 a7,.int .i64 a8,.int .i64 a9],[⟨bm0,86,[(.map a0)],true⟩,⟨bm1,226,[.string a1,.int .i64 a2],false⟩])
abbrev yEr (a5:OA) (a7 a6:Nat) (a1:OA) (a3 a2:Nat) (a4:Int) (bm0:Nat) (a0:Option Nat) (I:Nat → Option Addr → Nat → Nat → Int → World → Prop) (m:Nat):Kh:=KG (ykD a5 a7 a6 a1 a3 a2 a4 bm0 a0) (U4 I) m
theorem yA0 {I:Nat → Option Addr → Nat → Nat → Int → World → Prop} (m':Nat) (h1:m' < m) (h2:I m' q2 n5 n6 i1 w):KS (yEr q0 n0 n1 q1 n2 n3 i0 n4 M0 I m) (ykD q0 n0 n1 q1 n2 n3 i0 n4 M0 (q2,n5,n6,i1)) w:=⟨m',h1,_,rfl,rfl,h2⟩
theorem yA1 (I:Nat → Option Addr → Nat → Nat → Int → World → Prop) (m0:Nat) (h0:I m0 q2 n5 n6 i1 w0)
 (hr:∀ m a6 a8 a7 a1 w,I m a6 a8 a7 a1 w →
 w.heap[n4]? = some (.cells #[(.map M0)] 86) →
 brB (decide (a1 < i0)) (
 ixA q1 n2 a1 2 fun b8 =>
 ya7 w b8 fun c0 => ya1 .i64 w (Addr.add b8 1) fun b9 =>
 ∀ b4,w.heap.size ≤ b4 →
 ∀ b7,Adv [] [b4] w b7 → b7.heap[n4]? = some (.cells #[(.map M0)] 86) →
 yaO yrB (yzN 391 [0,0,1,1,0,0,1,1,0,0,1,0,1,1]) (yzO [1,1,0,1,0,0,1,1,0,0,1,1,0] [(yEr q0 n0 n1 q1 n2 n3 i0 n4 M0 I m)] R) (yiA q0 n0 n1 q1 n2 n3 i0 a1 b9 n4 b4 c0 b9 (a6,a8,a7,0,M0)) b7)
 (
 R (.slice a6 a8 a7) w)) :
 yaO yrA (yzN 396 [0,0,1,0,1,1]) (yzO [1,1,0,1,0] [] R) (ykD q0 n0 n1 q1 n2 n3 i0 n4 M0 (q2,n5,n6,i1)) w0 :=
 lrule (ykD q0 n0 n1 q1 n2 n3 i0 n4 M0) (U4 I) h0 (by rintro m ⟨a6,a8,a7,a1⟩ w h; exact ⟨by kernel_rfl,by kernel_rfl,fun js => Eq.mpr (by kernel_rfl) (hr m a6 a8 a7 a1 w h)⟩)
abbrev yw6 (a8:OA) (b0 a9:Nat) (a2:OA) (a4 a3:Nat) (a5 a6 a7:Int) (bm0 bm1:Nat) (a0:BA) (a1:Int) (I:Nat → Option Addr → Nat → Nat → Int → Option Nat → World → Prop) (m:Nat):Kh:=KG (yiA a8 b0 a9 a2 a4 a3 a5 a6 a7 bm0 bm1 a0 a1) (U5 I) m
theorem ypJ {I:Nat → Option Addr → Nat → Nat → Int → Option Nat → World → Prop} (m':Nat) (h1:m' < m) (h2:I m' q2 n6 n7 i4 M0 w):KS (yw6 q0 n0 n1 q1 n2 n3 i0 i1 i2 n4 n5 s0 i3 I m) (yiA q0 n0 n1 q1 n2 n3 i0 i1 i2 n4 n5 s0 i3 (q2,n6,n7,i4,M0)) w:=⟨m',h1,_,rfl,rfl,h2⟩
theorem yA2 {K1:Kh} (I:Nat → Option Addr → Nat → Nat → Int → Option Nat → World → Prop) (m0:Nat) (h0:I m0 q2 n6 n7 i4 M0 w0)
 (hr:∀ (m:Nat) (b3:OA) (b6 b4:Nat) (a9:Int) (a2:Option Nat) (w:World),I m b3 b6 b4 a9 a2 w →
 w.heap[n4]? = some (.cells #[(.map a2)] 86) →
 brB (decide (a9 < i2)) (
 Calls pP 133 #[.slice q0 n0 n1,.string s0] w fun e b7 => ∃ c2,e = .returned (.bool c2) ∧ yaV [n4] [(n5,226)] [n5] w b7 ∧ ∃ m26:Option Nat,b7.heap[n4]? = some (.cells #[(.map m26)] 86) ∧
 brB c2 (
 al b7 (.cells #[.string s0,.int .i64 a9] 33) fun c6 c3 =>
 ybC pP (Builtin.append_ #[28,28] 28 #[.slice b3 b6 b4,(.slice (some ⟨c6,0,none⟩) 1 1)]) c3 fun c5 c8 c7 c4 => yaF [n4,n5] c3 c4 ∧
 KS (yw6 q0 n0 n1 q1 n2 n3 i0 i1 i2 n4 n5 s0 i3 I m) (yiA q0 n0 n1 q1 n2 n3 i0 i1 i2 n4 n5 s0 i3 (c5,c8,c7,(IntKind.wrap .i64 (a9 + 1)),m26)) c4)
 (
 KS (yw6 q0 n0 n1 q1 n2 n3 i0 i1 i2 n4 n5 s0 i3 I m) (yiA q0 n0 n1 q1 n2 n3 i0 i1 i2 n4 n5 s0 i3 (b3,b6,b4,(IntKind.wrap .i64 (a9 + 1)),m26)) b7))
 (
 KS K1 (ykD q0 n0 n1 q1 n2 n3 i0 n4 a2 (b3,b6,b4,(IntKind.wrap .i64 (i1 + 1)))) w)) :
 yaO yrB (yzN 391 [0,0,1,1,0,0,1,1,0,0,1,0,1,1]) (yzO [1,1,0,1,0,0,1,1,0,0,1,1,0] [K1] R) (yiA q0 n0 n1 q1 n2 n3 i0 i1 i2 n4 n5 s0 i3 (q2,n6,n7,i4,M0)) w0 :=
 lrule (yiA q0 n0 n1 q1 n2 n3 i0 i1 i2 n4 n5 s0 i3) (U5 I) h0 (by rintro m ⟨b3,b6,b4,a9,a2⟩ w h; exact ⟨by kernel_rfl,by kernel_rfl,fun js => Eq.mpr (by kernel_rfl) (hr m b3 b6 b4 a9 a2 w h)⟩)
theorem yIw {b0:Nat} {a2 a1:Nat} (hb:w.heap[b0]? = some (.cells #[(.map M0)] 86)) (h :
 ∀ w7,Adv [] [] w w7 → w7.heap[b0]? = some (.cells #[(.map M0)] 86) →
 Calls pP 55 #[(.pointer (some ⟨b0,0,none⟩))] w7 fun e w8 => ∃ a9 a3 a4,e = .returned (.slice a9 a3 a4) ∧ ∃ m12:Option Nat,w8.heap[b0]? = some (.cells #[(.map m12)] 86) ∧
 yaO yrA (yzN 396 [0,0,1,0,1,1]) (yzO [1,1,0,1,0] [] R) (ykD q0 a2 a1 a9 a3 a4 (a3:Int) b0 m12 (none,0,0,0)) w8) :
 CR pP 71 #[(.pointer (some ⟨b0,0,none⟩)),.slice q0 a2 a1] w R :=
 yaJ Tryz.wide_mixed (an:=yrC) Tryz.func71 rfl rfl (by kernel_rfl) rfl hb (Eq.mpr (by kernel_rfl) h)
def yrD:LA:=⟨[0,0,1,0,1,1],[3,10,11,12],[],1,[]⟩
def yrE:List LA:=[yrD]
abbrev yGV:=dnF pP yrE (code Tryz.f72)
abbrev yMX:=yaR pP yrE (code Tryz.f72)
abbrev yGW (p:List Nat) (K:List Kh) (R:VWP):=yaR pP yrE (code Tryz.f72) p K (ybE pP Tryz.f72 [0] R)
def ykE (a7:OA) (a9 a8:Nat) (b0:Int) (bm0:Nat) (a5 a6:Int) (a2:OA) (a0:Option Nat) (a3:OA) (a1:Option Nat) (a4:OA):(Option Addr) × Nat × Nat × Int → List Value × List TB:=fun (b2,b4,b3,b1) => ([.slice b2 b4 b3,.slice a7 a9 a8,.int .i64 b0,.int .i64 b1],[⟨bm0,58,[.int .i64 a5,.int .i64 a6,.pointer a2,(.map a0),.pointer a3,(.map a1),.pointer a4],false⟩])
abbrev yEs (a7:OA) (a9 a8:Nat) (b0:Int) (bm0:Nat) (a5 a6:Int) (a2:OA) (a0:Option Nat) (a3:OA) (a1:Option Nat) (a4:OA) (I:Nat → Option Addr → Nat → Nat → Int → World → Prop) (m:Nat):Kh:=KG (ykE a7 a9 a8 b0 bm0 a5 a6 a2 a0 a3 a1 a4) (U4 I) m
theorem yA3 {I:Nat → Option Addr → Nat → Nat → Int → World → Prop} (m':Nat) (h1:m' < m) (h2:I m' q4 n3 n4 i3 w):KS (yEs q0 n0 n1 i0 n2 i1 i2 q1 M0 q2 M1 q3 I m) (ykE q0 n0 n1 i0 n2 i1 i2 q1 M0 q2 M1 q3 (q4,n3,n4,i3)) w:=⟨m',h1,_,rfl,rfl,h2⟩
theorem yA4 (I:Nat → Option Addr → Nat → Nat → Int → World → Prop) (m0:Nat) (h0:I m0 q4 n3 n4 i3 w0)
 (hr:∀ m b2 b4 b3 a7 w,I m b2 b4 b3 a7 w →
 brB (decide (a7 < i0)) (
 ixA q0 n0 a7 2 fun c1 =>
 ya7 w c1 fun c9 => ya1 .i64 w (Addr.add c1 1) fun d0 =>
 ∀ b7,w.heap.size ≤ b7 →
 ∀ c2,Adv [] [b7] w c2 →
 al c2 (.cells #[.string c9] 9) fun c6 c3 =>
 ybC pP (Builtin.append_ #[37,37] 37 #[.slice b2 b4 b3,(.slice (some ⟨c6,0,none⟩) 1 1)]) c3 fun c5 c8 c7 c4 => yaF [n2,b7] c3 c4 ∧
 KS (yEs q0 n0 n1 i0 n2 i1 i2 q1 M0 q2 M1 q3 I m) (ykE q0 n0 n1 i0 n2 i1 i2 q1 M0 q2 M1 q3 (c5,c8,c7,(IntKind.wrap .i64 (a7 + 1)))) c4)
 (
 ∀ c0,Adv [] [] w c0 → c0.heap[n2]? = some (.cells #[.int .i64 i1,.int .i64 i2,.pointer q1,(.map M0),.pointer q2,(.map M1),.pointer q3] 58) →
 R (.slice b2 b4 b3) c0)) :
 yaO yrD (yGV 396 [0,0,1,0,1,1]) (yGW [1,1,0,1,0] [] R) (ykE q0 n0 n1 i0 n2 i1 i2 q1 M0 q2 M1 q3 (q4,n3,n4,i3)) w0 :=
 lrule (ykE q0 n0 n1 i0 n2 i1 i2 q1 M0 q2 M1 q3) (U4 I) h0 (by rintro m ⟨b2,b4,b3,a7⟩ w h; exact ⟨by kernel_rfl,by kernel_rfl,fun js => Eq.mpr (by kernel_rfl) (hr m b2 b4 b3 a7 w h)⟩)
theorem yIx {b0:Nat} (hb:w.heap[b0]? = some (.cells #[.int .i64 i0,.int .i64 i1,.pointer q0,(.map M0),.pointer q1,(.map M1),.pointer q2] 58)) (h :
 Calls pP 55 #[.pointer q0] w fun e w5 => ∃ a6 n7 c8,e = .returned (.slice a6 n7 c8) ∧ yaF [b0] w w5 ∧
 yaO yrD (yGV 396 [0,0,1,0,1,1]) (yGW [1,1,0,1,0] [] R) (ykE a6 n7 c8 (n7:Int) b0 i0 i1 q0 M0 q1 M1 q2 (none,0,0,0)) w5) :
 CR pP 72 #[(.pointer (some ⟨b0,0,none⟩))] w R :=
 yaJ Tryz.wide_mixed (an:=yrE) Tryz.func72 rfl rfl (by kernel_rfl) rfl hb (Eq.mpr (by kernel_rfl) h)
def yd3:LA:=⟨[0,0,1,0,1,1],[0,2,3,46,47,48],[(0,0,0),(2,1,0),(3,2,0)],3,[0]⟩
def yrF:LA:=⟨[0,0,1,0,1,1,1],[0,2,3,72,73,74],[(0,0,0),(2,1,0),(3,2,0)],3,[0]⟩
def yrG:List LA:=[yd3,yrF,⟨9 :: [0,1],[],[(6,0,0)],24,[0,1,2,3,4,5,6,7,8,9,10,11,13,14,15,16,18,19,20,21,23,24,25,26,12,17,22,27,28,29,30]⟩]
abbrev yg1:=dnF pP yrG (code Tryz.f33)
abbrev yGX:=yaR pP yrG (code Tryz.f33)
abbrev yjD (p:List Nat) (K:List Kh) (R:VWP):=yaR pP yrG (code Tryz.f33) p K (ybE pP Tryz.f33 [0] R)
def ydY (c4:OA) (c6 c5:Nat) (c7:Int) (bm0 bm1 bm2:Nat) (c2 c3:Int) (a0:OA) (b2 a5:Nat) (a2:OA) (b4 a7:Nat) (a3:OA) (b5 a8:Nat) (a4:OA) (b6 a9:Nat):Int × Int × Int × (Option Addr) × (Option Nat) × (Option Addr) × (Option Nat) × (Option Addr) × (Option Addr) × Nat × Nat → List Value × List TB:=fun (c8,c0,c1,b7,b0,b8,b1,b9,a1,b3,a6) => ([(.pointer (some ⟨bm0,0,none⟩)),(.pointer (some ⟨bm1,0,none⟩)),(.pointer (some ⟨bm2,0,none⟩)),.slice c4 c6 c5,.int .i64 c7,.int .i64 c8],[⟨bm0,58,[.int .i64 c0,.int .i64 c1,.pointer b7,(.map b0),.pointer b8,(.map b1),.pointer b9],true⟩,⟨bm1,73,[.int .i64 0,.int .i64 0,.slice none 0 0,.slice none 0 0,.slice none 0 0,.slice none 0 0,.slice none 0 0,.slice none 0 0],false⟩,⟨bm2,73,[.int .i64 c2,.int .i64 c3,.slice a0 b2 a5,.slice a1 b3 a6,.slice a2 b4 a7,.slice a3 b5 a8,.slice none 0 0,.slice a4 b6 a9],false⟩])
def ykF (c7:OA) (c9 c8:Nat) (d0:Int) (bm0 bm1 bm2:Nat) (c5 c6:Int) (a0:OA) (b4 a6:Nat) (a1:OA) (b5 a7:Nat) (a2:OA) (b6 a8:Nat) (a3:OA) (b7 a9:Nat) (a5:OA) (b9 b1:Nat):Int × Int × Int × (Option Addr) × (Option Nat) × (Option Addr) × (Option Nat) × (Option Addr) × (Option Addr) × Nat × Nat → List Value × List TB:=fun (d1,c3,c4,c0,b2,c1,b3,c2,a4,b8,b0) => ([(.pointer (some ⟨bm0,0,none⟩)),(.pointer (some ⟨bm1,0,none⟩)),(.pointer (some ⟨bm2,0,none⟩)),.slice c7 c9 c8,.int .i64 d0,.int .i64 d1],[⟨bm0,58,[.int .i64 c3,.int .i64 c4,.pointer c0,(.map b2),.pointer c1,(.map b3),.pointer c2],true⟩,⟨bm1,73,[.int .i64 0,.int .i64 0,.slice none 0 0,.slice none 0 0,.slice none 0 0,.slice none 0 0,.slice none 0 0,.slice none 0 0],false⟩,⟨bm2,73,[.int .i64 c5,.int .i64 c6,.slice a0 b4 a6,.slice a1 b5 a7,.slice a2 b6 a8,.slice a3 b7 a9,.slice a4 b8 b0,.slice a5 b9 b1],false⟩])
abbrev yEt (b4:OA) (b6 b5:Nat) (b7:Int) (bm0 bm1 bm2:Nat) (b2 b3:Int) (a0:OA) (a8 a4:Nat) (a1:OA) (a9 a5:Nat) (a2:OA) (b0 a6:Nat) (a3:OA) (b1 a7:Nat) (I:Nat → Int → Int → Int → Option Addr → Option Nat → Option Addr → Option Nat → Option Addr → Option Addr → Nat → Nat → World → Prop) (m:Nat):Kh:=KG (ydY b4 b6 b5 b7 bm0 bm1 bm2 b2 b3 a0 a8 a4 a1 a9 a5 a2 b0 a6 a3 b1 a7) (U11 I) m
theorem yA5 {I:Nat → Int → Int → Int → Option Addr → Option Nat → Option Addr → Option Nat → Option Addr → Option Addr → Nat → Nat → World → Prop} (m':Nat) (h1:m' < m) (h2:I m' i3 i4 i5 q5 M0 q6 M1 q7 q8 o3 o4 w):KS (yEt q0 n0 n1 i0 n2 n3 n4 i1 i2 q1 n5 n6 q2 n7 n8 q3 n9 o0 q4 o1 o2 I m) (ydY q0 n0 n1 i0 n2 n3 n4 i1 i2 q1 n5 n6 q2 n7 n8 q3 n9 o0 q4 o1 o2 (i3,i4,i5,q5,M0,q6,M1,q7,q8,o3,o4)) w:=⟨m',h1,_,rfl,rfl,h2⟩
theorem yA6 (I:Nat → Int → Int → Int → Option Addr → Option Nat → Option Addr → Option Nat → Option Addr → Option Addr → Nat → Nat → World → Prop) (m0:Nat) (h0:I m0 i3 i4 i5 q5 M0 q6 M1 q7 q8 o3 o4 w0)
 (hr:∀ (m:Nat) (c4 c0 c1:Int) (b7:OA) (a3:Option Nat) (b8:OA) (a4:Option Nat) (b9 a0:OA) (a2 a1:Nat) (w:World),I m c4 c0 c1 b7 a3 b8 a4 b9 a0 a2 a1 w →
 w.heap[n2]? = some (.cells #[.int .i64 c0,.int .i64 c1,.pointer b7,(.map a3),.pointer b8,(.map a4),.pointer b9] 58) →
 brB (decide (c4 < i0)) (
 ixA q0 n0 c4 2 fun g5 =>
 ya7 w g5 fun e3 => ya1 .i64 w (Addr.add g5 1) fun e5 =>
 ∀ d9,w.heap.size ≤ d9 →
 ∀ e0,Adv [] [d9] w e0 → e0.heap[n2]? = some (.cells #[.int .i64 c0,.int .i64 c1,.pointer b7,(.map a3),.pointer b8,(.map a4),.pointer b9] 58) →
 ∃ g4,(∀ w',Mod [] e0 w' → (Instr.lookup 51 (.map a3) (.agg #[.string e3,.int .i64 e5]) false).run pP w' = .ok (.pointer g4) w') ∧
 Calls pP 73 #[.pointer g4] e0 fun e f5 => ∃ g1 g3 g2,e = .returned (.slice g1 g3 g2) ∧ yaV [n2] [(n3,73),(n4,73),(d9,33)] [n3,n4,d9] e0 f5 ∧ ∃ f9 g0 f2,∃ m61:Option Nat,∃ f3,∃ m63:Option Nat,∃ f4,f5.heap[n2]? = some (.cells #[.int .i64 f9,.int .i64 g0,.pointer f2,(.map m61),.pointer f3,(.map m63),.pointer f4] 58) ∧ (((.agg #[.string e3,.int .i64 e5]):Value) = (.agg #[.string e3,.int .i64 e5])) ∧ (((.slice a0 a2 a1):Value) = (.slice a0 a2 a1)) ∧
 al f5 (.cells #[.string e3,.int .i64 e5,.slice g1 g3 g2] 157) fun h2 g7 =>
 ybC pP (Builtin.append_ #[68,68] 68 #[.slice a0 a2 a1,(.slice (some ⟨h2,0,none⟩) 1 1)]) g7 fun h1 h4 h3 g8 => yaF [n2,n3,n4,d9] g7 g8 ∧
 ∀ f6,Adv [n4] [] g8 f6 → f6.heap[n2]? = some (.cells #[.int .i64 f9,.int .i64 g0,.pointer f2,(.map m61),.pointer f3,(.map m63),.pointer f4] 58) →
 KS (yEt q0 n0 n1 i0 n2 n3 n4 i1 i2 q1 n5 n6 q2 n7 n8 q3 n9 o0 q4 o1 o2 I m) (ydY q0 n0 n1 i0 n2 n3 n4 i1 i2 q1 n5 n6 q2 n7 n8 q3 n9 o0 q4 o1 o2 ((IntKind.wrap .i64 (c4 + 1)),f9,g0,f2,m61,f3,m63,f4,h1,h4,h3)) f6)
 (
 Calls pP 75 #[(.map a4)] w fun e e4 => ∃ g6,e = .returned g6 ∧ yaV [n2] [(n3,73),(n4,73)] [n3,n4] w e4 ∧ ∃ h7 h8 h5,∃ m97:Option Nat,∃ h6,∃ m99:Option Nat,∃ g9,e4.heap[n2]? = some (.cells #[.int .i64 h7,.int .i64 h8,.pointer h5,(.map m97),.pointer h6,(.map m99),.pointer g9] 58) ∧
 Calls pP 74 #[g6] e4 fun e e2 => ∃ e7 e1 e8,e = .returned (.slice e7 e1 e8) ∧ yaV [n2] [(n3,73),(n4,73)] [n3,n4] e4 e2 ∧ ∃ f7 f8 e9,∃ m108:Option Nat,∃ f0,∃ m110:Option Nat,∃ f1,e2.heap[n2]? = some (.cells #[.int .i64 f7,.int .i64 f8,.pointer e9,(.map m108),.pointer f0,(.map m110),.pointer f1] 58) ∧
 yaO yrF (yg1 395 [0,0,1,0,1,1,1]) (yjD [1,1,1,0,1,0] [] R) (ykF e7 e1 e8 (e1:Int) n2 n3 n4 i1 i2 q1 n5 n6 a0 a2 a1 q2 n7 n8 q3 n9 o0 q4 o1 o2 (0,f7,f8,e9,m108,f0,m110,f1,none,0,0)) e2)) :
 yaO yd3 (yg1 396 [0,0,1,0,1,1]) (yjD [1,1,0,1,0] [] R) (ydY q0 n0 n1 i0 n2 n3 n4 i1 i2 q1 n5 n6 q2 n7 n8 q3 n9 o0 q4 o1 o2 (i3,i4,i5,q5,M0,q6,M1,q7,q8,o3,o4)) w0 :=
 lrule (ydY q0 n0 n1 i0 n2 n3 n4 i1 i2 q1 n5 n6 q2 n7 n8 q3 n9 o0 q4 o1 o2) (U11 I) h0 (by rintro m ⟨c4,c0,c1,b7,a3,b8,a4,b9,a0,a2,a1⟩ w h; exact ⟨by kernel_rfl,by kernel_rfl,fun js => Eq.mpr (by kernel_rfl) (hr m c4 c0 c1 b7 a3 b8 a4 b9 a0 a2 a1 w h)⟩)
abbrev yEu (b7:OA) (b9 b8:Nat) (c0:Int) (bm0 bm1 bm2:Nat) (b5 b6:Int) (a0:OA) (b0 a5:Nat) (a1:OA) (b1 a6:Nat) (a2:OA) (b2 a7:Nat) (a3:OA) (b3 a8:Nat) (a4:OA) (b4 a9:Nat) (I:Nat → Int → Int → Int → Option Addr → Option Nat → Option Addr → Option Nat → Option Addr → Option Addr → Nat → Nat → World → Prop) (m:Nat):Kh:=KG (ykF b7 b9 b8 c0 bm0 bm1 bm2 b5 b6 a0 b0 a5 a1 b1 a6 a2 b2 a7 a3 b3 a8 a4 b4 a9) (U11 I) m
theorem yA7 {I:Nat → Int → Int → Int → Option Addr → Option Nat → Option Addr → Option Nat → Option Addr → Option Addr → Nat → Nat → World → Prop} (m':Nat) (h1:m' < m) (h2:I m' i3 i4 i5 q6 M0 q7 M1 q8 q9 o5 o6 w):KS (yEu q0 n0 n1 i0 n2 n3 n4 i1 i2 q1 n5 n6 q2 n7 n8 q3 n9 o0 q4 o1 o2 q5 o3 o4 I m) (ykF q0 n0 n1 i0 n2 n3 n4 i1 i2 q1 n5 n6 q2 n7 n8 q3 n9 o0 q4 o1 o2 q5 o3 o4 (i3,i4,i5,q6,M0,q7,M1,q8,q9,o5,o6)) w:=⟨m',h1,_,rfl,rfl,h2⟩
theorem yA8 (I:Nat → Int → Int → Int → Option Addr → Option Nat → Option Addr → Option Nat → Option Addr → Option Addr → Nat → Nat → World → Prop) (m0:Nat) (h0:I m0 i3 i4 i5 q6 M0 q7 M1 q8 q9 o5 o6 w0)
 (hr:∀ (m:Nat) (c7 c3 c4:Int) (c0:OA) (b4:Option Nat) (c1:OA) (a3:Option Nat) (c2 a0:OA) (a2 a1:Nat) (w:World),I m c7 c3 c4 c0 b4 c1 a3 c2 a0 a2 a1 w →
 w.heap[n2]? = some (.cells #[.int .i64 c3,.int .i64 c4,.pointer c0,(.map b4),.pointer c1,(.map a3),.pointer c2] 58) →
 brB (decide (c7 < i0)) (
 ixA q0 n0 c7 1 fun h2 =>
 ya7 w h2 fun g0 =>
 ∃ e3,(∀ w',Mod [] w w' → (Instr.lookup 54 (.map a3) (.string g0) false).run pP w' = .ok (.pointer e3) w') ∧
 Calls pP 76 #[.pointer e3] w fun e e7 => ∃ g4 g1,e = .returned (.tuple #[.int .i64 g4,.bool g1]) ∧ yaV [n2] [(n3,73),(n4,73)] [n3,n4] w e7 ∧ ∃ g5 g6 f7,∃ m134:Option Nat,∃ f8,∃ m136:Option Nat,∃ f9,e7.heap[n2]? = some (.cells #[.int .i64 g5,.int .i64 g6,.pointer f7,(.map m134),.pointer f8,(.map m136),.pointer f9] 58) ∧
 ∀ e2,Adv [] [] e7 e2 → e2.heap[n2]? = some (.cells #[.int .i64 g5,.int .i64 g6,.pointer f7,(.map m134),.pointer f8,(.map m136),.pointer f9] 58) →
 Calls pP 77 #[.pointer e3] e2 fun e e8 => ∃ f4 f6 f5,e = .returned (.slice f4 f6 f5) ∧ yaV [n2] [(n3,73),(n4,73)] [n3,n4] e2 e8 ∧ ∃ f1 f2 e4,∃ m146:Option Nat,∃ e5,∃ m148:Option Nat,∃ e6,e8.heap[n2]? = some (.cells #[.int .i64 f1,.int .i64 f2,.pointer e4,(.map m146),.pointer e5,(.map m148),.pointer e6] 58) ∧ (((.slice a0 a2 a1):Value) = (.slice a0 a2 a1)) ∧
 al e8 (.cells #[.string g0,.int .i64 g4,.bool g1,.slice f4 f6 f5] 166) fun g8 g2 =>
 ybC pP (Builtin.append_ #[70,70] 70 #[.slice a0 a2 a1,(.slice (some ⟨g8,0,none⟩) 1 1)]) g2 fun g7 h1 g9 g3 => yaF [n2,n3,n4] g2 g3 ∧
 ∀ e9,Adv [n4] [] g3 e9 → e9.heap[n2]? = some (.cells #[.int .i64 f1,.int .i64 f2,.pointer e4,(.map m146),.pointer e5,(.map m148),.pointer e6] 58) →
 KS (yEu q0 n0 n1 i0 n2 n3 n4 i1 i2 q1 n5 n6 q2 n7 n8 q3 n9 o0 q4 o1 o2 q5 o3 o4 I m) (ykF q0 n0 n1 i0 n2 n3 n4 i1 i2 q1 n5 n6 q2 n7 n8 q3 n9 o0 q4 o1 o2 q5 o3 o4 ((IntKind.wrap .i64 (c7 + 1)),f1,f2,e4,m146,e5,m148,e6,g7,h1,g9)) e9)
 (
 ∀ f0,Adv [n3] [] w f0 → f0.heap[n2]? = some (.cells #[.int .i64 c3,.int .i64 c4,.pointer c0,(.map b4),.pointer c1,(.map a3),.pointer c2] 58) →
 R (.agg (Z4 i1 i2 q1 n5 n6 q2 n7 n8 q3 n9 o0 q4 o1 o2 a0 a2 a1 q5 o3 o4)) f0)) :
 yaO yrF (yg1 395 [0,0,1,0,1,1,1]) (yjD [1,1,1,0,1,0] [] R) (ykF q0 n0 n1 i0 n2 n3 n4 i1 i2 q1 n5 n6 q2 n7 n8 q3 n9 o0 q4 o1 o2 q5 o3 o4 (i3,i4,i5,q6,M0,q7,M1,q8,q9,o5,o6)) w0 :=
 lrule (ykF q0 n0 n1 i0 n2 n3 n4 i1 i2 q1 n5 n6 q2 n7 n8 q3 n9 o0 q4 o1 o2 q5 o3 o4) (U11 I) h0 (by rintro m ⟨c7,c3,c4,c0,b4,c1,a3,c2,a0,a2,a1⟩ w h; exact ⟨by kernel_rfl,by kernel_rfl,fun js => Eq.mpr (by kernel_rfl) (hr m c7 c3 c4 c0 b4 c1 a3 c2 a0 a2 a1 w h)⟩)
theorem yIy {b0:Nat} (hb:w.heap[b0]? = some (.cells #[.int .i64 i0,.int .i64 i1,.pointer q0,(.map M0),.pointer q1,(.map M1),.pointer q2] 58)) (h :
 ∀ b2,w.heap.size ≤ b2 →
 ((
 ∀ w3,Adv [] [b2] w w3 →
 Calls pP 55 #[.pointer q0] w3 fun e w4 => ∃ a5 n6 c7,e = .returned (.slice a5 n6 c7) ∧ yaF [b0,b2] w3 w4 ∧ (((.pointer q2):Value) = (.pointer q2)) ∧ (((.pointer q1):Value) = (.pointer q1)) ∧ (((.pointer q1):Value) = (.pointer q1)) ∧ (((.int .i64 i1):Value) = (.int .i64 i1)) ∧ (((.int .i64 i0):Value) = (.int .i64 i0)) ∧
 ((
 Calls pP 68 #[.pointer q1] w4 fun e w8 => ∃ a9 c1 c0,e = .returned (.slice a9 c1 c0) ∧ yaF [b0,b2] w4 w8 ∧ (((.pointer q2):Value) = (.pointer q2)) ∧ (((.pointer q1):Value) = (.pointer q1)) ∧ (((.int .i64 i1):Value) = (.int .i64 i1)) ∧ (((.int .i64 i0):Value) = (.int .i64 i0)) ∧
 ((
 Calls pP 69 #[.pointer q1] w8 fun e c2 => ∃ e5 e7 e6,e = .returned (.slice e5 e7 e6) ∧ yaF [b0,b2] w8 c2 ∧ (((.pointer q2):Value) = (.pointer q2)) ∧ (((.int .i64 i1):Value) = (.int .i64 i1)) ∧ (((.int .i64 i0):Value) = (.int .i64 i0)) ∧
 ((
 Calls pP 70 #[.pointer q2] c2 fun e c3 => ∃ f1 v4 h4,e = .returned (.slice f1 v4 h4) ∧ yaF [b0,b2] c2 c3 ∧ (((.int .i64 i1):Value) = (.int .i64 i1)) ∧ (((.int .i64 i0):Value) = (.int .i64 i0)) ∧
 ((
 ∀ a6,c3.heap.size ≤ a6 →
 ∀ e8,Adv [] [a6] c3 e8 → e8.heap[b0]? = some (.cells #[.int .i64 i0,.int .i64 i1,.pointer q0,(.map M0),.pointer q1,(.map M1),.pointer q2] 58) →
 Calls pP 72 #[(.pointer (some ⟨b0,0,none⟩))] e8 fun e e9 => ∃ ai ao ak,e = .returned (.slice ai ao ak) ∧ yaV [b0] [(b2,73),(a6,73)] [b2,a6] e8 e9 ∧ ∃ bu bv ap,∃ m29:Option Nat,∃ br,∃ m31:Option Nat,∃ bt,e9.heap[b0]? = some (.cells #[.int .i64 bu,.int .i64 bv,.pointer ap,(.map m29),.pointer br,(.map m31),.pointer bt] 58) ∧ (((.pointer ap):Value) = (.pointer q0)) ∧
 Calls pP 71 #[.pointer q0,.slice ai ao ak] e9 fun e z7 => ∃ aj x2 am,e = .returned (.slice aj x2 am) ∧ yaV [b0] [(b2,73),(a6,73)] [b2,a6] e9 z7 ∧ ∃ av aw aq,∃ m40:Option Nat,∃ ar,∃ m42:Option Nat,∃ au,z7.heap[b0]? = some (.cells #[.int .i64 av,.int .i64 aw,.pointer aq,(.map m40),.pointer ar,(.map m42),.pointer au] 58) ∧
 yaO yd3 (yg1 396 [0,0,1,0,1,1]) (yjD [1,1,0,1,0] [] R) (ydY aj x2 am (x2:Int) b0 b2 a6 i0 i1 a5 n6 c7 a9 c1 c0 e5 e7 e6 f1 v4 h4 (0,av,aw,aq,m40,ar,m42,au,none,0,0)) z7) ∧
 (
 ∀ a4,c3.heap.size ≤ a4 →
 ∀ a7,Adv [] [a4] c3 a7 → a7.heap[b0]? = some (.cells #[.int .i64 i0,.int .i64 i1,.pointer q0,(.map M0),.pointer q1,(.map M1),.pointer q2] 58) →
 Calls pP 72 #[(.pointer (some ⟨b0,0,none⟩))] a7 fun e a8 => ∃ f0 v3 h1,e = .returned (.slice f0 v3 h1) ∧ yaV [b0] [(b2,73),(a4,73)] [b2,a4] a7 a8 ∧ ∃ bh bi x3,∃ m167:Option Nat,∃ ax,∃ m169:Option Nat,∃ ay,a8.heap[b0]? = some (.cells #[.int .i64 bh,.int .i64 bi,.pointer x3,(.map m167),.pointer ax,(.map m169),.pointer ay] 58) ∧ (((.pointer x3):Value) = (.pointer q0)) ∧
 Calls pP 71 #[.pointer q0,.slice f0 v3 h1] a8 fun e d0 => ∃ f2 c4 h2,e = .returned (.slice f2 c4 h2) ∧ yaV [b0] [(b2,73),(a4,73)] [b2,a4] a8 d0 ∧ ∃ z8 z9 x4,∃ m178:Option Nat,∃ x5,∃ m180:Option Nat,∃ x6,d0.heap[b0]? = some (.cells #[.int .i64 z8,.int .i64 z9,.pointer x4,(.map m178),.pointer x5,(.map m180),.pointer x6] 58) ∧
 yaO yd3 (yg1 396 [0,0,1,0,1,1]) (yjD [1,1,0,1,0] [] R) (ydY f2 c4 h2 (c4:Int) b0 b2 a4 i0 i1 a5 n6 c7 a9 c1 c0 e5 e7 e6 f1 v4 h4 (0,z8,z9,x4,m178,x5,m180,x6,none,0,0)) d0))) ∧
 (
 ∀ a3,c2.heap.size ≤ a3 →
 ∀ d1,Adv [] [a3] c2 d1 →
 Calls pP 70 #[.pointer q2] d1 fun e z3 => ∃ f3 v5 h3,e = .returned (.slice f3 v5 h3) ∧ yaF [b0,b2,a3] d1 z3 ∧ (((.int .i64 i1):Value) = (.int .i64 i1)) ∧ (((.int .i64 i0):Value) = (.int .i64 i0)) ∧
 ∀ b1,Adv [a3] [] z3 b1 → b1.heap[b0]? = some (.cells #[.int .i64 i0,.int .i64 i1,.pointer q0,(.map M0),.pointer q1,(.map M1),.pointer q2] 58) →
 Calls pP 72 #[(.pointer (some ⟨b0,0,none⟩))] b1 fun e b3 => ∃ f4 v6 h5,e = .returned (.slice f4 v6 h5) ∧ yaV [b0] [(b2,73),(a3,73)] [b2,a3] b1 b3 ∧ ∃ bj bk x7,∃ m196:Option Nat,∃ az,∃ m198:Option Nat,∃ ba,b3.heap[b0]? = some (.cells #[.int .i64 bj,.int .i64 bk,.pointer x7,(.map m196),.pointer az,(.map m198),.pointer ba] 58) ∧ (((.pointer x7):Value) = (.pointer q0)) ∧
 Calls pP 71 #[.pointer q0,.slice f4 v6 h5] b3 fun e d2 => ∃ f5 c5 h6,e = .returned (.slice f5 c5 h6) ∧ yaV [b0] [(b2,73),(a3,73)] [b2,a3] b3 d2 ∧ ∃ aa ab x8,∃ m207:Option Nat,∃ x9,∃ m209:Option Nat,∃ y0,d2.heap[b0]? = some (.cells #[.int .i64 aa,.int .i64 ab,.pointer x8,(.map m207),.pointer x9,(.map m209),.pointer y0] 58) ∧
 yaO yd3 (yg1 396 [0,0,1,0,1,1]) (yjD [1,1,0,1,0] [] R) (ydY f5 c5 h6 (c5:Int) b0 b2 a3 i0 i1 a5 n6 c7 a9 c1 c0 e5 e7 e6 f3 v5 h3 (0,aa,ab,x8,m207,x9,m209,y0,none,0,0)) d2))) ∧
 (
 ∀ a2,w8.heap.size ≤ a2 →
 ∀ d3,Adv [] [a2] w8 d3 →
 Calls pP 69 #[.pointer q1] d3 fun e d4 => ∃ f6 v7 h7,e = .returned (.slice f6 v7 h7) ∧ yaF [b0,b2,a2] d3 d4 ∧ (((.pointer q2):Value) = (.pointer q2)) ∧ (((.int .i64 i1):Value) = (.int .i64 i1)) ∧ (((.int .i64 i0):Value) = (.int .i64 i0)) ∧
 Calls pP 70 #[.pointer q2] d4 fun e z4 => ∃ f7 v8 h8,e = .returned (.slice f7 v8 h8) ∧ yaF [b0,b2,a2] d4 z4 ∧ (((.int .i64 i1):Value) = (.int .i64 i1)) ∧ (((.int .i64 i0):Value) = (.int .i64 i0)) ∧
 ∀ b4,Adv [a2] [] z4 b4 → b4.heap[b0]? = some (.cells #[.int .i64 i0,.int .i64 i1,.pointer q0,(.map M0),.pointer q1,(.map M1),.pointer q2] 58) →
 Calls pP 72 #[(.pointer (some ⟨b0,0,none⟩))] b4 fun e b5 => ∃ f8 v9 h9,e = .returned (.slice f8 v9 h9) ∧ yaV [b0] [(b2,73),(a2,73)] [b2,a2] b4 b5 ∧ ∃ bl bm y1,∃ m229:Option Nat,∃ bb,∃ m231:Option Nat,∃ bc,b5.heap[b0]? = some (.cells #[.int .i64 bl,.int .i64 bm,.pointer y1,(.map m229),.pointer bb,(.map m231),.pointer bc] 58) ∧ (((.pointer y1):Value) = (.pointer q0)) ∧
 Calls pP 71 #[.pointer q0,.slice f8 v9 h9] b5 fun e d5 => ∃ f9 c6 u0,e = .returned (.slice f9 c6 u0) ∧ yaV [b0] [(b2,73),(a2,73)] [b2,a2] b5 d5 ∧ ∃ ac ad y2,∃ m240:Option Nat,∃ y3,∃ m242:Option Nat,∃ y4,d5.heap[b0]? = some (.cells #[.int .i64 ac,.int .i64 ad,.pointer y2,(.map m240),.pointer y3,(.map m242),.pointer y4] 58) ∧
 yaO yd3 (yg1 396 [0,0,1,0,1,1]) (yjD [1,1,0,1,0] [] R) (ydY f9 c6 u0 (c6:Int) b0 b2 a2 i0 i1 a5 n6 c7 a9 c1 c0 f6 v7 h7 f7 v8 h8 (0,ac,ad,y2,m240,y3,m242,y4,none,0,0)) d5))) ∧
 (
 ∀ a1,w4.heap.size ≤ a1 →
 ∀ d6,Adv [] [a1] w4 d6 →
 Calls pP 68 #[.pointer q1] d6 fun e d7 => ∃ g0 w0 u1,e = .returned (.slice g0 w0 u1) ∧ yaF [b0,b2,a1] d6 d7 ∧ (((.pointer q2):Value) = (.pointer q2)) ∧ (((.pointer q1):Value) = (.pointer q1)) ∧ (((.int .i64 i1):Value) = (.int .i64 i1)) ∧ (((.int .i64 i0):Value) = (.int .i64 i0)) ∧
 Calls pP 69 #[.pointer q1] d7 fun e d8 => ∃ g1 w1 u2,e = .returned (.slice g1 w1 u2) ∧ yaF [b0,b2,a1] d7 d8 ∧ (((.pointer q2):Value) = (.pointer q2)) ∧ (((.int .i64 i1):Value) = (.int .i64 i1)) ∧ (((.int .i64 i0):Value) = (.int .i64 i0)) ∧
 Calls pP 70 #[.pointer q2] d8 fun e z5 => ∃ g2 w2 u3,e = .returned (.slice g2 w2 u3) ∧ yaF [b0,b2,a1] d8 z5 ∧ (((.int .i64 i1):Value) = (.int .i64 i1)) ∧ (((.int .i64 i0):Value) = (.int .i64 i0)) ∧
 ∀ b6,Adv [a1] [] z5 b6 → b6.heap[b0]? = some (.cells #[.int .i64 i0,.int .i64 i1,.pointer q0,(.map M0),.pointer q1,(.map M1),.pointer q2] 58) →
 Calls pP 72 #[(.pointer (some ⟨b0,0,none⟩))] b6 fun e b7 => ∃ g3 w5 u4,e = .returned (.slice g3 w5 u4) ∧ yaV [b0] [(b2,73),(a1,73)] [b2,a1] b6 b7 ∧ ∃ bn bo y5,∃ m266:Option Nat,∃ bd,∃ m268:Option Nat,∃ be,b7.heap[b0]? = some (.cells #[.int .i64 bn,.int .i64 bo,.pointer y5,(.map m266),.pointer bd,(.map m268),.pointer be] 58) ∧ (((.pointer y5):Value) = (.pointer q0)) ∧
 Calls pP 71 #[.pointer q0,.slice g3 w5 u4] b7 fun e d9 => ∃ g4 c8 u5,e = .returned (.slice g4 c8 u5) ∧ yaV [b0] [(b2,73),(a1,73)] [b2,a1] b7 d9 ∧ ∃ ae af y6,∃ m277:Option Nat,∃ y7,∃ m279:Option Nat,∃ y8,d9.heap[b0]? = some (.cells #[.int .i64 ae,.int .i64 af,.pointer y6,(.map m277),.pointer y7,(.map m279),.pointer y8] 58) ∧
 yaO yd3 (yg1 396 [0,0,1,0,1,1]) (yjD [1,1,0,1,0] [] R) (ydY g4 c8 u5 (c8:Int) b0 b2 a1 i0 i1 a5 n6 c7 g0 w0 u1 g1 w1 u2 g2 w2 u3 (0,ae,af,y6,m277,y7,m279,y8,none,0,0)) d9))) ∧
 (
 ∀ a0,w.heap.size ≤ a0 →
 ∀ e0,Adv [] [a0,b2] w e0 →
 Calls pP 55 #[.pointer q0] e0 fun e e1 => ∃ g5 w6 u6,e = .returned (.slice g5 w6 u6) ∧ yaF [b0,b2,a0] e0 e1 ∧ (((.pointer q2):Value) = (.pointer q2)) ∧ (((.pointer q1):Value) = (.pointer q1)) ∧ (((.pointer q1):Value) = (.pointer q1)) ∧ (((.int .i64 i1):Value) = (.int .i64 i1)) ∧ (((.int .i64 i0):Value) = (.int .i64 i0)) ∧
 Calls pP 68 #[.pointer q1] e1 fun e e2 => ∃ g6 w7 u7,e = .returned (.slice g6 w7 u7) ∧ yaF [b0,b2,a0] e1 e2 ∧ (((.pointer q2):Value) = (.pointer q2)) ∧ (((.pointer q1):Value) = (.pointer q1)) ∧ (((.int .i64 i1):Value) = (.int .i64 i1)) ∧ (((.int .i64 i0):Value) = (.int .i64 i0)) ∧
 Calls pP 69 #[.pointer q1] e2 fun e e3 => ∃ g7 w9 u9,e = .returned (.slice g7 w9 u9) ∧ yaF [b0,b2,a0] e2 e3 ∧ (((.pointer q2):Value) = (.pointer q2)) ∧ (((.int .i64 i1):Value) = (.int .i64 i1)) ∧ (((.int .i64 i0):Value) = (.int .i64 i0)) ∧
 Calls pP 70 #[.pointer q2] e3 fun e z6 => ∃ g8 x0 v0,e = .returned (.slice g8 x0 v0) ∧ yaF [b0,b2,a0] e3 z6 ∧ (((.int .i64 i1):Value) = (.int .i64 i1)) ∧ (((.int .i64 i0):Value) = (.int .i64 i0)) ∧
 ∀ b8,Adv [a0] [] z6 b8 → b8.heap[b0]? = some (.cells #[.int .i64 i0,.int .i64 i1,.pointer q0,(.map M0),.pointer q1,(.map M1),.pointer q2] 58) →
 Calls pP 72 #[(.pointer (some ⟨b0,0,none⟩))] b8 fun e b9 => ∃ g9 x1 v1,e = .returned (.slice g9 x1 v1) ∧ yaV [b0] [(b2,73),(a0,73)] [b2,a0] b8 b9 ∧ ∃ bp bq y9,∃ m307:Option Nat,∃ bf,∃ m309:Option Nat,∃ bg,b9.heap[b0]? = some (.cells #[.int .i64 bp,.int .i64 bq,.pointer y9,(.map m307),.pointer bf,(.map m309),.pointer bg] 58) ∧ (((.pointer y9):Value) = (.pointer q0)) ∧
 Calls pP 71 #[.pointer q0,.slice g9 x1 v1] b9 fun e e4 => ∃ h0 c9 v2,e = .returned (.slice h0 c9 v2) ∧ yaV [b0] [(b2,73),(a0,73)] [b2,a0] b9 e4 ∧ ∃ ag ah z0,∃ m318:Option Nat,∃ z1,∃ m320:Option Nat,∃ z2,e4.heap[b0]? = some (.cells #[.int .i64 ag,.int .i64 ah,.pointer z0,(.map m318),.pointer z1,(.map m320),.pointer z2] 58) ∧
 yaO yd3 (yg1 396 [0,0,1,0,1,1]) (yjD [1,1,0,1,0] [] R) (ydY h0 c9 v2 (c9:Int) b0 b2 a0 i0 i1 g5 w6 u6 g6 w7 u7 g7 w9 u9 g8 x0 v0 (0,ag,ah,z0,m318,z1,m320,z2,none,0,0)) e4))) :
 CR pP 33 #[(.pointer (some ⟨b0,0,none⟩))] w R :=
 yaJ Tryz.wide_mixed (an:=yrG) Tryz.func33 rfl rfl (by kernel_rfl) rfl hb (Eq.mpr (by kernel_rfl) h)
end
end Go.Proofs.YteldhjiiocmicaaGreat
namespace Go.Proofs.YteldhjiiocmicaaGreat
open Go Go.RowKit Go.Maps Go.MapKept Go.Sort Go.Shelf
set_option linter.unusedVariables false
set_option linter.unusedSimpArgs false
theorem yg2 {α:Type} {w:World} {B T S sz bytes:Nat} {enc:α → List Value} {f:Sl} {l:List α} {y:α} {bs:List Nat} {z:Value} {F:Option Addr → Nat → Nat → World → Prop} (hinfo:(Tryz.prog.info? T).map (fun i => (i.zero,i.size,i.bytes)) = some (some z,sz,bytes)) (ht:Tryz.prog.underlying S = some (.slice T)) (hz3:z.cells.size = sz) (hsz:0 < sz) (hby:bytes ≤ 1000)
  (hR:Row w B T sz enc f.a f.n f.c l) (hy:(enc y).length = sz) (hone:∀ u ∈ enc y,u.oneCell' = true) (hl:l.length ≤ 1000000) (hB:B ≤ w.heap.size) (hbs:∀ b ∈ bs,b ∉ yaN f.a)
  (hF:∀ a' c' w',Row w' B T sz enc a' (f.n + 1) c' (l ++ [y]) → Mod (yaN f.a) w w' → (∀ k ∈ yaN a',k ∈ yaN f.a ∨ w.heap.size ≤ k) → F a' (f.n + 1) c' w') :
  al w (.cells (enc y).toArray T) fun b w1 => ybC pP (Builtin.append_ #[S,S] S #[.slice f.a f.n f.c,.slice (some ⟨b,0,none⟩) 1 1]) w1 fun a n c w2 => yaF bs w1 w2 ∧ F a n c w2:=by
 refine yd6 fun b w1 c1 M1 f1 => ?_
 have s1:=M1.size
 obtain ⟨i0,hi0,hz0,hz1,hz2⟩:=info_parts hinfo
 have hm:(l.length + 1) * bytes ≤ 1000001 * 1000:=Nat.mul_le_mul (by omega) hby
 refine ydF (x:=y) (hR.keep0 M1) ht hi0 hz0 hz1 hz2 hz3 hsz c1 hy hone (by omega) (by unfold maxLen; omega) (by omega) fun a' c' w8 hR8 hM8 hk8 => ?_
 have M8:=hM8 _ (ycN f.a)
 refine ⟨yaF.of M8 fun b hb _ => hbs b hb,hF a' c' w8 hR8 ?_ fun k hk => ?_⟩
 ·exact (M1.trans M8).less fun k hk _ => by simpa using hk
 ·rcases hk8 k hk with h | h
  ·exact .inl h
  ·exact .inr (by omega)
structure SgV where
 x:SegS
 s:Sl
def SgV.cs (q:SgV):List Value:=[.int .i64 q.x.base,.int .i64 q.x.next,.slice q.s.a q.s.n q.s.c]
theorem SgV.cs_len (q:SgV):q.cs.length = 3:=rfl
theorem SgV.cs_one (q:SgV):∀ u ∈ q.cs,u.oneCell' = true:=by simp [SgV.cs,Value.oneCell']
theorem yIz:(Tryz.prog.info? 243).map (fun i => (i.zero,i.size,i.bytes)) = some (some (.agg #[.int .i64 0,.int .i64 0,.slice none 0 0]),3,40):=by kernel_rfl
structure SegsAt (w:World) (B:Nat) (s:Sl) (L:List SegS) (qs:List SgV):Prop where
 row:Row w B 243 3 SgV.cs s.a s.n s.c qs
 found:∀ q ∈ qs,Row w B 76 5 yjH q.s.a q.s.n q.s.c q.x.l
 eq:qs.map (·.x) = L
theorem SegsAt.keep0 {w w':World} {B:Nat} {s:Sl} {L:List SegS} {qs:List SgV} (h:SegsAt w B s L qs) (M:Mod [] w w'):SegsAt w' B s L qs:=⟨h.row.keep0 M,fun q hq => (h.found q hq).keep0 M,h.eq⟩
theorem SegsAt.rebase {w:World} {B B':Nat} {s:Sl} {L:List SegS} {qs:List SgV} (h:SegsAt w B s L qs) (hb:B' ≤ B):SegsAt w B' s L qs:=⟨h.row.rebase hb,fun q hq => (h.found q hq).rebase hb,h.eq⟩
theorem yA9 {w:World} {b:Nat} {room:Int} {L:List SegS} {F:List Nat} (h:yc6 w b room L F) (hl:L.length ≤ 1000000) (hf:∀ x ∈ L,x.l.length ≤ 1000000) :
  Calls pP 73 #[.pointer (some ⟨b,0,none⟩)] w fun e w' => ∃ v,e = .returned v ∧ ∃ (s':Sl) (qs:List SgV),v = .slice s'.a s'.n s'.c ∧ SegsAt w' w.heap.size s' L qs ∧ Mod [] w w':=by
 obtain ⟨sl,qs,hc,hR,hS,hP,rfl,rfl⟩:=h
 have lb:=yaH hc
 have hl:qs.length ≤ 1000000:=by simpa using hl
 have hn:=hR.1
 refine yIu hc ?_
 refine yAY (fun mm a n c x w' => ∃ (k:Nat) (out:List SgV),x = k ∧ k ≤ qs.length ∧ SegsAt w' w.heap.size ⟨a,n,c⟩ ((qs.take k).map (·.s)) out ∧ Mod [] w w' ∧ mm = qs.length - k) qs.length
  ⟨0,[],rfl,by omega,⟨Row.nil ..,by simp,rfl⟩,Mod.refl _,rfl⟩ ?_
 rintro mm a n c x w1 ⟨k,out,rfl,hk,hO,M1,rfl⟩
 have s1:=M1.size
 have hol:out.length = k:=by have:=congrArg List.length hO.eq; simp at this; omega
 refine yaC (fun hlt => ?_) fun hge => ?_
 ·obtain ⟨q,hq⟩:∃ q,qs[k]? = some q:=⟨_,List.getElem?_eq_getElem (by omega)⟩
  have hqm:=List.mem_of_getElem? hq
  refine ((hR.keep0 M1).sl yd8).ix hq fun q3 g3 => ydA (by simpa [add_zero,ygF] using g3 0 _ rfl) ?_
  refine (yfN ((hS q hqm).keep0 M1)).mono ?_
  rintro _ w2 ⟨rfl,M2⟩
  refine ⟨_,_,rfl,yaF.of0 M2,?_⟩
  have N2:=M1.go0 M2 (by simp)
  refine (ytD ((hS q hqm).keep0 N2) (hf q.s (List.mem_map.2 ⟨q,hqm,rfl⟩))).mono ?_
  rintro _ w3 ⟨_,rfl,s',rfl,hF',M3⟩
  refine ⟨_,_,_,rfl,yaF.of0 M3,?_⟩
  have s2:=M2.size
  have s3:=M3.size
  have hO3:=(hO.keep0 M2).keep0 M3
  have lk:=yaG hO3.row
  refine yg2 (T:=243) (S:=154) (enc:=SgV.cs) (y:=(⟨q.s,s'⟩:SgV)) (f:=⟨a,n,c⟩) yIz Tryz.underlying154 rfl (by decide) (by decide) hO3.row (SgV.cs_len _) (SgV.cs_one _) (by omega) (by omega) (fun z hz hz' => ?_) fun a' c' w4 hR4 M4 hk4 => ?_
  ·have:=(yaG hO.row z hz').1
   simp at hz; omega
  ·have kp:∀ {q:SgV},Row w3 w.heap.size 76 5 yjH q.s.a q.s.n q.s.c q.x.l → Row w4 w.heap.size 76 5 yjH q.s.a q.s.n q.s.c q.x.l:=fun hh => yaA hh M4 (ya3 hO3.row hh (by decide))
   refine yAX (qs.length - (k + 1)) (by omega) ⟨k + 1,out ++ [⟨q.s,s'⟩],by rw [yaI (by omega) (by omega)]; omega,by omega,⟨hR4,fun y hy => ?_,?_⟩,(N2.go0 M3 (by simp)).go0 M4 fun i hi => (lk i hi).1,rfl⟩
   ·rcases List.mem_append.1 hy with hy | hy
    ·exact kp (hO3.found y hy)
    ·simp at hy; subst hy
     exact kp (hF'.rebase (by omega))
   ·rw [ybO hq,List.map_append,List.map_append,hO.eq]; rfl
 ·have hk:k = qs.length:=by omega
  subst hk
  intro w2 A2 _
  rw [List.take_length] at hO
  exact ⟨⟨a,n,c⟩,out,rfl,hO.keep0 A2.mod,M1.go0 A2.mod (by simp)⟩
theorem yEv {w:World} {b:Nat} {gen:Int} {robin:Bool} {G:GL} {F:List Nat} (h:ycP w b gen robin G F) :
  Calls pP 76 #[.pointer (some ⟨b,0,none⟩)] w fun e w' => e = .returned (.tuple #[.int .i64 gen,.bool robin]) ∧ Mod [] w w':=by
 obtain ⟨m,L,hc,_⟩:=h
 refine ya0 (yIp hc ?_)
 intro w1 A1 _
 exact ⟨rfl,A1.mod⟩
end Go.Proofs.YteldhjiiocmicaaGreat
namespace Go.Proofs.YteldhjiiocmicaaGreat
open Go Go.RowKit Go.Maps Go.MapKept Go.Sort Go.Shelf
set_option linter.unusedVariables false
set_option linter.unusedSimpArgs false
def ptN (t:ByteArray) (n:Nat):PPart:=⟨t,(n:Int)⟩
def yrH (names:List ByteArray) (t:PTop) (k:Nat):List PPart:=if inS names t.t = true then (List.range k).map (ptN t.t) else []
def yuT (names:List ByteArray) (l:List PTop):List PPart:=l.flatMap fun t => yrH names t t.n.toNat
theorem yzP (names:List ByteArray) (t:PTop) (k:Nat):(yrH names t k).length ≤ k:=by
 unfold yrH; split <;> simp
theorem yzQ {names:List ByteArray} {l:List PTop} (h:∀ t ∈ l,t.n ≤ 1000):(yuT names l).length ≤ l.length * 1000:=by
 induction l with
 | nil => simp [yuT]
 | cons t r ih =>
  have h1:=yzP names t t.n.toNat
  have h2:=ih fun t ht => h t (by simp [ht])
  have h3:=h t (by simp)
  unfold yuT at *
  rw [List.flatMap_cons,List.length_append,List.length_cons]
  omega
theorem ynN {w:World} {b:Nat} {L:TL} {F:List Nat} {na:Option Addr} {nn nc:Nat} {names:List ByteArray} (h:ydO w b L F) (hL:L.length ≤ 100) (hn:∀ t ∈ ycR L,0 ≤ t.n ∧ t.n ≤ 1000) (hll:(ycR L).length ≤ 100) (hN:ybF w 1 yc8 na nn names) (hNl:names.length ≤ 1000000) :
  Calls pP 71 #[.pointer (some ⟨b,0,none⟩),.slice na nn nc] w fun e w' => ∃ v,e = .returned v ∧ ∃ s:Sl,v = .slice s.a s.n s.c ∧ Row w' w.heap.size 33 2 yiH s.a s.n s.c (yuT names (ycR L)) ∧ Mod [] w w':=by
 have hA:=h
 obtain ⟨mb,hc,hm,rfl⟩:=h
 have lb:=yaH hc
 refine yIw hc ?_
 intro w7 A7 hc7
 have s7:=A7.mod.size
 refine (yfS (hA.keep0 A7.mod) (by omega)).mono ?_
 rintro _ w8 ⟨⟨sta,stn,stc⟩,rfl,hT,M8⟩
 have s8:=M8.size
 have N8:=A7.mod.go0 M8 (by simp)
 refine ⟨sta,stn,stc,rfl,_,M8.keep0 hc7,?_⟩
 generalize hl:ycR L = l at hT hn hll ⊢
 have hTn:stn = l.length:=hT.1
 refine yA1 (fun mm a n c x w' => ∃ k:Nat,x = k ∧ k ≤ l.length ∧ Row w' w8.heap.size 33 2 yiH a n c (yuT names (l.take k)) ∧ Mod [] w8 w' ∧ mm = l.length - k) l.length
  ⟨0,rfl,by omega,Row.nil ..,Mod.refl _,rfl⟩ ?_
 rintro mm a n c x w1 ⟨k,rfl,hk,hR,M1,rfl⟩
 intro hcw
 have s1:=M1.size
 refine yaC (fun hlt => ?_) fun hge => ?_
 ·obtain ⟨t,ht⟩:∃ t,l[k]? = some t:=⟨_,List.getElem?_eq_getElem (by omega)⟩
  obtain ⟨ht0,ht1⟩:=hn t (List.mem_of_getElem? ht)
  have hlen:(yuT names (l.take k)).length ≤ 100000:=by
   have:=yzQ (names:=names) (l:=l.take k) fun t ht => (hn t (List.mem_of_mem_take ht)).2
   rw [List.length_take] at this
   have:min k l.length * 1000 ≤ 100 * 1000:=Nat.mul_le_mul_right _ (by omega)
   omega
  refine ((hT.keep0 M1).sl ylM).ix ht fun q17 g17 => yaL (x:=t.t) (by simpa [add_zero] using g17 0 _ rfl) (yaK (x:=t.n) (g17 1 _ rfl) ?_)
  intro b20 f20 w39 A39 hc39
  have s39:=A39.mod.size
  have l20:=A39.lt b20 (by simp)
  have hR39:=hR.keep0 A39.mod
  have N39:=M1.go0 A39.mod (by simp)
  have lk39:=yaG hR
  refine yA2 (fun mm a n c x mo w' => ∃ j:Nat,x = j ∧ j ≤ t.n.toNat ∧ mo = some mb ∧ Row w' w8.heap.size 33 2 yiH a n c (yuT names (l.take k) ++ yrH names t j) ∧ b20 ∉ yaN a ∧ b20 < w'.heap.size ∧ Mod [] w8 w' ∧ mm = t.n.toNat - j) t.n.toNat
   ⟨0,rfl,by omega,rfl,by
    have:yrH names t 0 = []:=by unfold yrH; split <;> rfl
    rw [this,List.append_nil]; exact hR39,fun hz => by have:=(lk39 b20 hz).2; omega,l20,N39,rfl⟩ ?_
  rintro mm a' n' c' x mo w2 ⟨j,rfl,hj,rfl,hR2,nb2,lb2,M2,rfl⟩
  intro hc2
  have s2:=M2.size
  refine yaC (fun hlt2 => ?_) fun hge2 => ?_
  ·refine (yDL (hN.keep0 (N8.go0 M2 (by simp))) hNl t.t).mono ?_
   rintro _ w24 ⟨rfl,M24⟩
   have s24:=M24.size
   have N24:=M2.go0 M24 (by simp)
   have hR24:=hR2.keep0 M24
   refine ⟨_,rfl,yaF.of0 M24,_,M24.keep0 hc2,?_⟩
   have hj2:(yrH names t j).length ≤ 1000:=by have:=yzP names t j; omega
   refine yaE (fun g => ?_) fun g => ?_
   ·have lk:=yaG hR24
    refine yg2 (T:=33) (S:=28) (enc:=yiH) (y:=ptN t.t j) (f:=⟨a',n',c'⟩) yJu Tryz.underlying28 rfl (by decide) (by decide) hR24 rfl (yp5 _) (by rw [List.length_append]; omega) (by omega) (fun z hz hz' => ?_) fun a3 c3 w4 hR4 M4 hk4 => ?_
    ·simp at hz
     rcases hz with rfl | rfl
     ·have h8:=(lk _ hz').1
      have:=N8.size; omega
     ·exact nb2 hz'
    ·refine ypJ (t.n.toNat - (j + 1)) (by omega) ⟨j + 1,by rw [yaI (by omega) (by omega)]; omega,by omega,rfl,?_,fun hz => ?_,by have:=M4.size; omega,N24.go0 M4 fun z hz => (lk z hz).1,rfl⟩
     ·have e:yrH names t (j + 1) = yrH names t j ++ [ptN t.t j]:=by
       unfold yrH; rw [if_pos g,if_pos g,List.range_succ,List.map_append]; rfl
      rw [e,← List.append_assoc]
      exact hR4
     ·rcases hk4 b20 hz with h1 | h1
      ·exact nb2 h1
      ·omega
   ·refine ypJ (t.n.toNat - (j + 1)) (by omega) ⟨j + 1,by rw [yaI (by omega) (by omega)]; omega,by omega,rfl,?_,nb2,by omega,N24,rfl⟩
    have e:yrH names t (j + 1) = yrH names t j:=by
     unfold yrH; rw [if_neg (by rw [g]; simp),if_neg (by rw [g]; simp)]
    rw [e]; exact hR24
  ·have hjn:j = t.n.toNat:=by omega
   subst hjn
   refine yA0 (l.length - (k + 1)) (by omega) ⟨k + 1,by rw [yaI (by omega) (by omega)]; omega,by omega,?_,M2,rfl⟩
   have e:yuT names (l.take (k + 1)) = yuT names (l.take k) ++ yrH names t t.n.toNat:=by
    unfold yuT; rw [ybO ht,List.flatMap_append]; simp
   rw [e]; exact hR2
 ·have hk:k = l.length:=by omega
  subst hk
  rw [List.take_length] at hR
  exact ⟨⟨a,n,c⟩,rfl,hR.rebase (by omega),N8.go0 M1 (by simp)⟩
theorem yEw {w:World} {b pc:Nat} {room now:Int} {m1:Option Nat} {p2:Option Addr} {m3:Option Nat} {p4:Option Addr} {cat:TL} {Fc:List Nat} (hc:w.heap[b]? = some (.cells #[.int .i64 room,.int .i64 now,.pointer (some ⟨pc,0,none⟩),.map m1,.pointer p2,.map m3,.pointer p4] 58)) (hT:ydO w pc cat Fc) (hL:cat.length ≤ 100) (hll:(ycR cat).length ≤ 100) :
  Calls pP 72 #[.pointer (some ⟨b,0,none⟩)] w fun e w' => ∃ v,e = .returned v ∧ ∃ s:Sl,v = .slice s.a s.n s.c ∧ Row w' w.heap.size 9 1 yc8 s.a s.n s.c ((ycR cat).map (·.t)) ∧ Mod [] w w':=by
 have lb:=yaH hc
 refine yIx hc ?_
 refine (yfS hT (by omega)).mono ?_
 clear hT
 rintro _ w5 ⟨⟨sta,stn,stc⟩,rfl,hT,M5⟩
 have s5:=M5.size
 refine ⟨sta,stn,stc,rfl,yaF.of0 M5,?_⟩
 generalize hl:ycR cat = l at hT hll ⊢
 have hTn:stn = l.length:=hT.1
 refine yA4 (fun mm a n c x w' => ∃ k:Nat,x = k ∧ k ≤ l.length ∧ Row w' w5.heap.size 9 1 yc8 a n c ((l.take k).map (·.t)) ∧ Mod [] w5 w' ∧ mm = l.length - k) l.length
  ⟨0,rfl,by omega,Row.nil ..,Mod.refl _,rfl⟩ ?_
 rintro mm a n c x w1 ⟨k,rfl,hk,hR,M1,rfl⟩
 have s1:=M1.size
 refine yaC (fun hlt => ?_) fun hge => ?_
 ·obtain ⟨t,ht⟩:∃ t,l[k]? = some t:=⟨_,List.getElem?_eq_getElem (by omega)⟩
  refine ((hT.keep0 M1).sl ylM).ix ht fun q13 g13 => yaL (x:=t.t) (by simpa [add_zero] using g13 0 _ rfl) (yaK (x:=t.n) (g13 1 _ rfl) ?_)
  intro b16 f16 w24 A24
  have s24:=A24.mod.size
  have hR24:=hR.keep0 A24.mod
  have lk:=yaG hR
  refine yg2 (T:=9) (S:=37) (enc:=yc8) (y:=t.t) (f:=⟨a,n,c⟩) yJ1 Tryz.underlying37 rfl (by decide) (by decide) hR24 rfl (yxW _) (by simp; omega) (by omega) (fun z hz hz' => ?_) fun a3 c3 w4 hR4 M4 hk4 => ?_
  ·have:=lk z hz'
   simp at hz
   rcases hz with rfl | rfl <;> omega
  ·refine yA3 (l.length - (k + 1)) (by omega) ⟨k + 1,by rw [yaI (by omega) (by omega)]; omega,by omega,?_,(M1.go0 A24.mod (by simp)).go0 M4 fun z hz => (lk z hz).1,rfl⟩
   rw [ybO ht,List.map_append]
   exact hR4
 ·have hk:k = l.length:=by omega
  subst hk
  rw [List.take_length] at hR
  intro w2 A2 _
  exact ⟨⟨a,n,c⟩,rfl,(hR.keep0 A2.mod).rebase (by omega),(M5.go0 M1 (by simp)).go0 A2.mod (by simp)⟩
theorem yIA {w:World} {b:Nat} {V:BrV} (h:yc3 w b V) (hL:V.cat.length ≤ 100) (hll:(ycR V.cat).length ≤ 100) :
  Calls pP 72 #[.pointer (some ⟨b,0,none⟩)] w fun e w' => ∃ v,e = .returned v ∧ ∃ s:Sl,v = .slice s.a s.n s.c ∧ Row w' w.heap.size 9 1 yc8 s.a s.n s.c ((ycR V.cat).map (·.t)) ∧ Mod [] w w' :=
 yEw (h.cell nofun) (h.cat nofun) hL hll
end Go.Proofs.YteldhjiiocmicaaGreat
namespace Go.Proofs
open Go.Shelf
shelf_lay_g SlLaysZ.n7 Ggz 7 at Tryz 75 as Tryz.keysBL
end Go.Proofs
namespace Go.Proofs.YteldhjiiocmicaaGreat
open Go Go.RowKit Go.Maps Go.MapKept Go.Sort Go.Shelf Go.WideElems Go.WideShapes
set_option linter.unusedVariables false
set_option linter.unusedSimpArgs false
theorem yFO (mb:Option Nat) (w:World):Calls pP 75 #[.map mb] w fun e w' =>
  e = .returned (.func (.func 134) #[] #[.pointer (some ⟨w.heap.size,0,none⟩)]) ∧ w' = w.alloc (.cells #[.map mb] 54) :=
 (callsIn_wide (n:=5)).1 (AnyZ.keys_in Tryz.keysBL Fence.wide 5 trivial rfl mb w)
theorem yBa {β:Type} {ev:β → Value} {w:World} {b Bm:Nat} {L:List (ByteArray × β)} (h:yaS pP 9 hks ev w b L) (hl:L.length ≤ 1000000) (hB:Bm < w.heap.size) (hm:w.cell? ⟨Bm,0,none⟩ = some (.map (some b))) :
  Calls pP 74 #[.func (.func 134) #[] #[.pointer (some ⟨Bm,0,none⟩)]] w fun e w' => ∃ v,e = .returned v ∧
   ∃ s':Sl,v = .slice s'.a s'.n s'.c ∧ Row w' w.heap.size 9 1 yc8 s'.a s'.n s'.c (ycW (L.map (·.1))) ∧ Mod [] w w':=by
 obtain ⟨D,hown,hperm,hsz⟩:=h.ownsS Tryz.underlying9 (by unfold maxLen; omega)
 have hseq:SeqGives Fence.wide 2 pP 134 #[.pointer (some ⟨Bm,0,none⟩)] encStr (fun ss => ss.Perm (strKeys D)) (Maps.size D) w :=
  AnyZ.keys_gives (ρ:=Tryz.keysBL_ren) { Tryz.keysBL with } Fence.wide _ trivial rfl (by omega) Bm b _ D w hB hm hown
 have cS:=AnyZ.sorted_in Tryz.sortedSL Fence.wide 5 trivial trivial trivial trivial rfl (by omega) (ytX _) (enters_of Tryz.func115 (by kernel_rfl) rfl) 134 #[.pointer (some ⟨Bm,0,none⟩)] trivial (enters_of Tryz.func134 (by kernel_rfl) rfl) _ _ (by rw [hsz]; unfold maxLen; omega) (by rw [hsz]; omega) _ hseq
 refine ((callsIn_wide (n:=5)).1 cS).mono ?_
 rintro e w' ⟨v,ss,rfl,hS,hrow,hnil,hb⟩
 have hss:(yeQ ss).map fb = ycW (L.map (·.1)):=by
  rw [ycW,List.map_map]
  exact congrArg (List.map fb) (yj0 (hS.trans hperm))
 have hrow:w'.ownsRow w.heap.size 9 1 v (yeQ ss).length ((yeQ ss).map encStr):=by
  rw [show (yeQ ss).length = ss.length by simp [yeQ]]
  exact hrow
 obtain ⟨a,c,rfl,hR⟩:=yh5 hrow
 rw [hss] at hR
 exact ⟨_,rfl,⟨a,_,c⟩,rfl,hR,Mod.of_below hb⟩
structure PLogd where
 p:PPart
 segs:List SegS
 deriving DecidableEq
structure LgV where
 x:PLogd
 s:Sl
def LgV.cs (q:LgV):List Value:=[.string q.x.p.t,.int .i64 q.x.p.n,.slice q.s.a q.s.n q.s.c]
theorem LgV.cs_len (q:LgV):q.cs.length = 3:=rfl
theorem LgV.cs_one (q:LgV):∀ u ∈ q.cs,u.oneCell' = true:=by simp [LgV.cs,Value.oneCell']
theorem yFP:(Tryz.prog.info? 157).map (fun i => (i.zero,i.size,i.bytes)) = some (some (.agg #[.string ByteArray.empty,.int .i64 0,.slice none 0 0]),3,48):=by kernel_rfl
structure PGrpd where
 name:ByteArray
 gen:Int
 robin:Bool
 seats:List PSeat
 deriving DecidableEq
structure GdV where
 x:PGrpd
 s:Sl
def GdV.cs (q:GdV):List Value:=[.string q.x.name,.int .i64 q.x.gen,.bool q.x.robin,.slice q.s.a q.s.n q.s.c]
theorem GdV.cs_len (q:GdV):q.cs.length = 4:=rfl
theorem GdV.cs_one (q:GdV):∀ u ∈ q.cs,u.oneCell' = true:=by simp [GdV.cs,Value.oneCell']
theorem yFQ:(Tryz.prog.info? 166).map (fun i => (i.zero,i.size,i.bytes)) = some (some (.agg #[.string ByteArray.empty,.int .i64 0,.bool false,.slice none 0 0]),4,56):=by kernel_rfl
structure LogdAt (w:World) (B:Nat) (s:Sl) (l:List PLogd) (lv:List LgV):Prop where
 row:Row w B 157 3 LgV.cs s.a s.n s.c lv
 segs:∀ q ∈ lv,∃ qs,SegsAt w B q.s q.x.segs qs
 eq:lv.map (·.x) = l
structure GrpdAt (w:World) (B:Nat) (s:Sl) (l:List PGrpd) (gv:List GdV):Prop where
 row:Row w B 166 4 GdV.cs s.a s.n s.c gv
 seats:∀ q ∈ gv,∃ qs:List SeatV,SeatsAt w B q.s.a q.s.n q.s.c qs ∧ qs.map (·.x) = q.x.seats
 eq:gv.map (·.x) = l
theorem SegsAt.keepB {w w':World} {B:Nat} {s:Sl} {L:List SegS} {qs:List SgV} {S:List Nat} (h:SegsAt w B s L qs) (M:Mod S w w') (hS:∀ k ∈ S,k < B):SegsAt w' B s L qs :=
 ⟨yaA h.row M fun k hk hk' => by have:=(yaG h.row k hk').1; have:=hS k hk; omega,fun q hq => yaA (h.found q hq) M fun k hk hk' => by have:=(yaG (h.found q hq) k hk').1; have:=hS k hk; omega,h.eq⟩
theorem SegsAt.keepL {w w':World} {B:Nat} {s sl:Sl} {L:List SegS} {qs:List SgV} {lv:List LgV} (h:SegsAt w B s L qs) (hr:Row w B 157 3 LgV.cs sl.a sl.n sl.c lv) (M:Mod (yaN sl.a) w w'):SegsAt w' B s L qs :=
 ⟨yaA h.row M (ya3 hr h.row (by decide)),fun q hq => yaA (h.found q hq) M (ya3 hr (h.found q hq) (by decide)),h.eq⟩
theorem SeatsAt.keepB {w w':World} {B:Nat} {a:Option Addr} {n c:Nat} {qs:List SeatV} {S:List Nat} (h:SeatsAt w B a n c qs) (M:Mod S w w') (hS:∀ k ∈ S,k < B):SeatsAt w' B a n c qs :=
 ⟨yaA h.row M fun k hk hk' => by have:=(yaG h.row k hk').1; have:=hS k hk; omega,fun q hq => yaA (h.ts q hq) M fun k hk hk' => by have:=(yaG (h.ts q hq) k hk').1; have:=hS k hk; omega⟩
theorem SeatsAt.keepG {w w':World} {B:Nat} {a:Option Addr} {n c:Nat} {qs:List SeatV} {sg:Sl} {gv:List GdV} (h:SeatsAt w B a n c qs) (hr:Row w B 166 4 GdV.cs sg.a sg.n sg.c gv) (M:Mod (yaN sg.a) w w'):SeatsAt w' B a n c qs :=
 ⟨yaA h.row M (ya3 hr h.row (by decide)),fun q hq => yaA (h.ts q hq) M (ya3 hr (h.ts q hq) (by decide))⟩
theorem SeatsAt.rebase {w:World} {B B':Nat} {a:Option Addr} {n c:Nat} {qs:List SeatV} (h:SeatsAt w B a n c qs) (hb:B' ≤ B):SeatsAt w B' a n c qs:=⟨h.row.rebase hb,fun q hq => (h.ts q hq).rebase hb⟩
theorem LogdAt.keepB {w w':World} {B:Nat} {s:Sl} {l:List PLogd} {lv:List LgV} {S:List Nat} (h:LogdAt w B s l lv) (M:Mod S w w') (hS:∀ k ∈ S,k < B):LogdAt w' B s l lv :=
 ⟨yaA h.row M fun k hk hk' => by have:=(yaG h.row k hk').1; have:=hS k hk; omega,fun q hq => by
  obtain ⟨qs,hqs⟩:=h.segs q hq
  exact ⟨qs,hqs.keepB M hS⟩,h.eq⟩
theorem LogdAt.keep0 {w w':World} {B:Nat} {s:Sl} {l:List PLogd} {lv:List LgV} (h:LogdAt w B s l lv) (M:Mod [] w w'):LogdAt w' B s l lv:=h.keepB M (by simp)
theorem LogdAt.rebase {w:World} {B B':Nat} {s:Sl} {l:List PLogd} {lv:List LgV} (h:LogdAt w B s l lv) (hb:B' ≤ B):LogdAt w B' s l lv:=⟨h.row.rebase hb,fun q hq => by
 obtain ⟨qs,hqs⟩:=h.segs q hq
 exact ⟨qs,hqs.rebase hb⟩,h.eq⟩
theorem GrpdAt.keepB {w w':World} {B:Nat} {s:Sl} {l:List PGrpd} {gv:List GdV} {S:List Nat} (h:GrpdAt w B s l gv) (M:Mod S w w') (hS:∀ k ∈ S,k < B):GrpdAt w' B s l gv :=
 ⟨yaA h.row M fun k hk hk' => by have:=(yaG h.row k hk').1; have:=hS k hk; omega,fun q hq => by
  obtain ⟨qs,hqs,e⟩:=h.seats q hq
  exact ⟨qs,hqs.keepB M hS,e⟩,h.eq⟩
theorem GrpdAt.keep0 {w w':World} {B:Nat} {s:Sl} {l:List PGrpd} {gv:List GdV} (h:GrpdAt w B s l gv) (M:Mod [] w w'):GrpdAt w' B s l gv:=h.keepB M (by simp)
theorem GrpdAt.rebase {w:World} {B B':Nat} {s:Sl} {l:List PGrpd} {gv:List GdV} (h:GrpdAt w B s l gv) (hb:B' ≤ B):GrpdAt w B' s l gv:=⟨h.row.rebase hb,fun q hq => by
 obtain ⟨qs,hqs,e⟩:=h.seats q hq
 exact ⟨qs,hqs.rebase hb,e⟩,h.eq⟩
structure St4 (w:World) (B:Nat) (st se sm so:Sl) (tl:List PTop) (eps:List Int) (mv:List MkV) (ml:List PMark):Prop where
 t:Row w B 226 2 ynU st.a st.n st.c tl
 e:Row w B 3 1 ycO se.a se.n se.c eps
 m:Row w B 143 5 MkV.cs sm.a sm.n sm.c mv
 d:∀ q ∈ mv,Row w B 196 3 yjZ q.s.a q.s.n q.s.c q.x.last
 o:Row w B 130 4 yfX so.a so.n so.c ml
def ysF (st se sm so:Sl) (mv:List MkV):List Nat:=yaN st.a ++ (yaN se.a ++ (yaN sm.a ++ (yaN so.a ++ mv.flatMap fun q => yaN q.s.a)))
theorem yeI {st se sm so:Sl} {mv:List MkV} {k:Nat}:k ∈ ysF st se sm so mv ↔ k ∈ yaN st.a ∨ k ∈ yaN se.a ∨ k ∈ yaN sm.a ∨ k ∈ yaN so.a ∨ ∃ q ∈ mv,k ∈ yaN q.s.a:=by
 simp [ysF,List.mem_append,List.mem_flatMap]
theorem St4.keep {w w':World} {B:Nat} {st se sm so:Sl} {tl:List PTop} {eps:List Int} {mv:List MkV} {ml:List PMark} {S:List Nat} (h:St4 w B st se sm so tl eps mv ml) (M:Mod S w w') (hS:∀ k ∈ S,k ∉ ysF st se sm so mv):St4 w' B st se sm so tl eps mv ml :=
 ⟨yaA h.t M fun k hk hk' => hS k hk (yeI.2 (.inl hk')),yaA h.e M fun k hk hk' => hS k hk (yeI.2 (.inr (.inl hk'))),yaA h.m M fun k hk hk' => hS k hk (yeI.2 (.inr (.inr (.inl hk')))),fun q hq => yaA (h.d q hq) M fun k hk hk' => hS k hk (yeI.2 (.inr (.inr (.inr (.inr ⟨q,hq,hk'⟩))))),yaA h.o M fun k hk hk' => hS k hk (yeI.2 (.inr (.inr (.inr (.inl hk')))))⟩
theorem St4.lt {w:World} {B:Nat} {st se sm so:Sl} {tl:List PTop} {eps:List Int} {mv:List MkV} {ml:List PMark} (h:St4 w B st se sm so tl eps mv ml):∀ k ∈ ysF st se sm so mv,B ≤ k ∧ k < w.heap.size:=fun k hk => by
 rcases yeI.1 hk with hk | hk | hk | hk | ⟨q,hq,hk⟩
 ·exact yaG h.t k hk
 ·exact yaG h.e k hk
 ·exact yaG h.m k hk
 ·exact yaG h.o k hk
 ·exact yaG (h.d q hq) k hk
theorem St4.rebase {w:World} {B B':Nat} {st se sm so:Sl} {tl:List PTop} {eps:List Int} {mv:List MkV} {ml:List PMark} (h:St4 w B st se sm so tl eps mv ml) (hb:B' ≤ B):St4 w B' st se sm so tl eps mv ml:=⟨h.t.rebase hb,h.e.rebase hb,h.m.rebase hb,fun q hq => (h.d q hq).rebase hb,h.o.rebase hb⟩
structure PSt where
 room:Int
 now:Int
 topics:List PTop
 logs:List PLogd
 eps:List Int
 makers:List PMaker
 groups:List PGrpd
 marks:List PMark
 deriving DecidableEq
structure StS where
 st:Sl
 sl:Sl
 se:Sl
 sm:Sl
 sg:Sl
 so:Sl
def stV (x:PSt) (q:StS):Value:=.agg #[.int .i64 x.room,.int .i64 x.now,.slice q.st.a q.st.n q.st.c,.slice q.sl.a q.sl.n q.sl.c,.slice q.se.a q.se.n q.se.c,.slice q.sm.a q.sm.n q.sm.c,.slice q.sg.a q.sg.n q.sg.c,.slice q.so.a q.so.n q.so.c]
structure StAt (w:World) (B:Nat) (x:PSt) (q:StS) (lv:List LgV) (mv:List MkV) (gv:List GdV):Prop where
 four:St4 w B q.st q.se q.sm q.so x.topics x.eps mv x.marks
 mks:mv.map (·.x) = x.makers
 logs:LogdAt w B q.sl x.logs lv
 grps:GrpdAt w B q.sg x.groups gv
def yzR (L:TL):List ByteArray:=(ycR L).map (·.t)
def yg3 (L:TL):List PPart:=yuT (yzR L) (ycR L)
def yEx (LP:List (PPart × List SegS)) (p:PPart):PLogd:=⟨p,(lkp LP p).getD []⟩
def yEy (GP:List (ByteArray × PGrp)) (k:ByteArray):PGrpd:=match lkp GP k with
 | some x => ⟨k,x.gen,x.robin,ydK x.G⟩
 | none => ⟨k,0,false,[]⟩
structure Told (s:PBr) (x:PSt):Prop where
 room:x.room = s.room
 now:x.now = s.now
 topics:x.topics = ycR s.cat
 logs:x.logs = (yg3 s.cat).map (yEx s.logs)
 eps:x.eps = s.eps
 makers:x.makers.Perm (s.dd.map (yEq s.eps))
 mks:x.makers.Pairwise fun a b => ltOf yc4 ⟨b,ya8⟩ ⟨a,ya8⟩ = false
 groups:x.groups = (ycW (s.groups.map (·.1))).map (yEy s.groups)
 marks:x.marks.Perm (s.marks.map yjC)
 ofs:x.marks.Pairwise fun a b => ltOf ydX b a = false
theorem yc3.lkLogK {w:World} {b:Nat} {V:BrV} (h:yc3 w b V) {p:PPart} {v:LogV} (hp:lkp V.LP p = some v) :
  ∀ w',Mod [] w w' → (Instr.lookup 51 (.map (some V.ml)) (hkp p) false).run pP w' = .ok (.pointer (some ⟨v.p,0,none⟩)) w':=by
 obtain ⟨l,hl⟩:=(h.logs nofun).keyedP _ (yaQ hp)
 have:=(h.logs nofun).lkP (k:=p) (T:=51) yAh yjV Tryz.underlying51 yzD hl
 rw [hp] at this
 exact this
theorem yc3.lkGrpK {w:World} {b:Nat} {V:BrV} (h:yc3 w b V) {g:ByteArray} {v:GrpV} (hg:lkp V.GP g = some v) :
  ∀ w',Mod [] w w' → (Instr.lookup 54 (.map (some V.mg)) (hks g) false).run pP w' = .ok (.pointer (some ⟨v.p,0,none⟩)) w':=by
 obtain ⟨l,hl⟩:=(h.gs nofun).keyedP _ (yaQ hg)
 have:=(h.gs nofun).lkP (k:=g) (T:=54) ydT ybH Tryz.underlying54 yzE hl
 rw [hg] at this
 exact this
def yEz (w:World) (s:PBr) (v:Value) (w':World):Prop:=∃ (x:PSt) (q:StS) (lv:List LgV) (mv:List MkV) (gv:List GdV),v = stV x q ∧ StAt w' w.heap.size x q lv mv gv ∧ Told s x ∧ Mod [] w w'
theorem yFR {V:BrV} {p:PPart} {x:LogV} (h:lkp V.LP p = some x):yEx V.st.logs p = ⟨p,x.L⟩:=by rw [yEx,ypH,h]; rfl
theorem yFS {V:BrV} {k:ByteArray} {x:GrpV} (h:lkp V.GP k = some x):yEy V.st.groups k = ⟨k,x.gen,x.robin,ydK x.G⟩:=by rw [yEy,ynH,h]; rfl
set_option maxHeartbeats 2000000 in
theorem yFT {w W0:World} {b b2 b20 N:Nat} {V:BrV} {st se sm so:Sl} {mv:List MkV} {ml:List PMark} {pa:Option Addr} {pn pc:Nat} (h:yc3 W0 b V) (g:BrGood V.st N) (hk:∀ p ∈ yg3 V.cat,∃ x,lkp V.LP p = some x) (hpl:(yg3 V.cat).length ≤ 100000) (M0:Mod [] w W0) (hf:∀ k ∈ V.foot b,k < w.heap.size) (f2:w.heap.size ≤ b2) (l2:b2 < W0.heap.size) (f20:w.heap.size ≤ b20) (l20:b20 < W0.heap.size)
  (h4:St4 W0 w.heap.size st se sm so (ycR V.cat) V.eps mv ml) (n2:b2 ∉ ysF st se sm so mv) (n20:b20 ∉ ysF st se sm so mv) (hP:Row W0 w.heap.size 33 2 yiH pa pn pc (yg3 V.cat)) (np:b20 ∉ yaN pa)
  (hmk:(mv.map (·.x)).Perm (V.dd.map (yEq V.eps))) (hms:mv.Pairwise fun a b => ltOf yc4 b a = false) (hof:ml.Perm (V.marks.map yjC)) (hos:ml.Pairwise fun a b => ltOf ydX b a = false) :
  yaO yd3 (yg1 396 [0,0,1,0,1,1]) (yGX [1,1,0,1,0] [] (ybE pP Tryz.f33 [0] (yEz w V.st))) (ydY pa pn pc (pn:Int) b b2 b20 V.room V.now st.a st.n st.c se.a se.n se.c sm.a sm.n sm.c so.a so.n so.c (0,V.room,V.now,some ⟨V.pc,0,none⟩,some V.ml,some ⟨V.pm,0,none⟩,some V.mg,some ⟨V.po,0,none⟩,none,0,0)) W0:=by
 generalize hR:yEz w V.st = R
 obtain ⟨P,eP⟩:∃ P,P = yg3 V.cat:=⟨_,rfl⟩
 rw [← eP] at hk hpl hP
 have hpn:pn = P.length:=hP.1
 have hN:=g.nN
 have nb20:b20 ∉ V.foot b:=fun hz => by have:=hf _ hz; omega
 have nb2:b2 ∉ V.foot b:=fun hz => by have:=hf _ hz; omega
 have hgG:∀ k x,lkp V.GP k = some x → x.G.length ≤ 8 ∧ ∀ y ∈ x.G,y.2.topics.length ≤ 8:=fun k x hx => g.gg (k,x.x) (List.mem_map.2 ⟨_,yaQ hx,rfl⟩)
 refine yA6 (fun mm x m0 m1 p2 m3 p4 m5 p6 a n c w' => ∃ (k:Nat) (lv:List LgV),x = k ∧ k ≤ P.length ∧ m0 = V.room ∧ m1 = V.now ∧ p2 = some ⟨V.pc,0,none⟩ ∧ m3 = some V.ml ∧ p4 = some ⟨V.pm,0,none⟩ ∧ m5 = some V.mg ∧ p6 = some ⟨V.po,0,none⟩ ∧ LogdAt w' W0.heap.size ⟨a,n,c⟩ ((P.take k).map (yEx V.st.logs)) lv ∧ Mod [b20] W0 w' ∧ mm = P.length - k) P.length
  ⟨0,[],rfl,by omega,rfl,rfl,rfl,rfl,rfl,rfl,rfl,⟨Row.nil ..,by simp,rfl⟩,(Mod.refl _).less (by simp),rfl⟩ ?_
 rintro mm x m0 m1 p2 m3 p4 m5 p6 a n c w1 ⟨k,lv,rfl,hkl,rfl,rfl,rfl,rfl,rfl,rfl,rfl,hL,M1,rfl⟩ hcw
 have s1:=M1.size
 have h1:=h.keep M1 (by simpa using nb20)
 have hlv:lv.length = k:=by have:=congrArg List.length hL.eq; simp at this; omega
 refine yaC (fun hlt => ?_) fun hge => ?_
 ·obtain ⟨p,hp⟩:∃ p,P[k]? = some p:=⟨_,List.getElem?_eq_getElem (by omega)⟩
  obtain ⟨x,hx⟩:=hk p (List.mem_of_getElem? hp)
  obtain ⟨k1,k2,k3⟩:=g.log hx
  refine ((yaA hP M1 (by simpa using np)).sl ylK).ix hp fun q g1 => yaL (x:=p.t) (by simpa [add_zero] using g1 0 _ rfl) (yaK (x:=p.n) (g1 1 _ rfl) ?_)
  intro b51 f51 w52 A52 hc52
  have h52:=h1.keep0 A52.mod
  have l51:=A52.lt b51 (by simp)
  refine ⟨_,h52.lkLogK hx,?_⟩
  refine (yA9 (h52.logAt hx) (by omega) fun y hy => by have:=(k1.segs y hy).len; have:=k1.r2; omega).mono ?_
  rintro _ w54 ⟨_,rfl,s',qs,rfl,hS,M54⟩
  refine ⟨_,_,_,rfl,yaF.of0 M54,_,_,_,_,_,_,_,M54.keep0 hc52,rfl,rfl,?_⟩
  have s52:=A52.mod.size
  have s54:=M54.size
  have hL54:=(hL.keep0 A52.mod).keep0 M54
  have lk:=yaG hL54.row
  have lk1:=yaG hL.row
  refine yg2 (T:=157) (S:=68) (enc:=LgV.cs) (y:=(⟨⟨p,x.L⟩,s'⟩:LgV)) (f:=⟨a,n,c⟩) yFP Tryz.underlying68 rfl (by decide) (by decide) hL54.row (LgV.cs_len _) (LgV.cs_one _) (by omega) (by omega) (fun z hz hz' => ?_) fun a4 c4 w4 hR4 M4 hk4 => ?_
  ·have h1:=(lk1 z hz').1
   have h2:=(lk1 z hz').2
   have h3:=h.lt b (yaD.2 (.inl rfl))
   simp at hz; omega
  intro w71 A71 _
  have M54':Mod [b20] W0 w54:=((M1.trans A52.mod).trans M54).less fun z hz _ => by simpa using hz
  refine yA5 (P.length - (k + 1)) (by omega) ⟨k + 1,lv ++ [⟨⟨p,x.L⟩,s'⟩],by rw [yaI (by omega) (by omega)]; omega,by omega,rfl,rfl,rfl,rfl,rfl,rfl,rfl,LogdAt.keepB ⟨hR4,fun q hq => ?_,?_⟩ A71.mod (by simp; omega),((M54'.trans M4).trans A71.mod).less fun z hz hl => ?_,rfl⟩
  ·rcases List.mem_append.1 hq with hq | hq
   ·obtain ⟨qs',hqs⟩:=hL54.segs q hq
    exact ⟨qs',hqs.keepL hL54.row M4⟩
   ·simp at hq; subst hq
    exact ⟨qs,(hS.rebase (by omega)).keepL hL54.row M4⟩
  ·rw [ybO hp,List.map_append,List.map_append,hL.eq]; simp only [List.map_cons,List.map_nil,yFR hx]
  ·simp only [List.mem_append] at hz
   rcases hz with (hz | hz) | hz
   ·exact hz
   ·have:=(lk z hz).1; omega
   ·exact hz
 have hkk:k = P.length:=by omega
 subst hkk
 rw [List.take_length] at hL
 refine (yFO (some V.mg) w1).mono ?_
 rintro _ w92 ⟨rfl,rfl⟩
 have M92:Mod [] w1 (w1.alloc (.cells #[.map (some V.mg)] 54)):=Mod.of_below ((Below.refl _ _).alloc (Nat.le_refl _) _)
 have hcn:=(MapKept.heap_alloc w1 (.cells #[.map (some V.mg)] 54)).1
 have z92:=yaH hcn
 generalize (w1.alloc (.cells #[.map (some V.mg)] 54)) = w92 at M92 hcn z92
 have h92:=h1.keep0 M92
 have hcg:V.GP.length ≤ 8:=by have:=g.cg; simpa [BrV.st] using this
 refine ⟨_,rfl,yaF.of0 M92,_,_,_,_,_,_,_,M92.keep0 hcw,?_⟩
 refine (yBa (h92.gs nofun) (by omega) z92 (by rw [yaM hcn]; rfl)).mono ?_
 rintro _ w101 ⟨_,rfl,sn,rfl,hN1,M101⟩
 have s101:=M101.size
 have h101:=h92.keep0 M101
 refine ⟨_,_,_,rfl,yaF.of0 M101,_,_,_,_,_,_,_,M101.keep0 (M92.keep0 hcw),?_⟩
 obtain ⟨K,eK⟩:∃ K,K = ycW (V.GP.map (·.1)):=⟨_,rfl⟩
 have hKm:∀ y ∈ K,∃ x,lkp V.GP y = some x:=fun y hy => by
  rw [eK] at hy
  have:=(ybX _).mem_iff.1 hy
  obtain ⟨q,hq,rfl⟩:=List.mem_map.1 this
  exact ⟨_,yc0 (h.gs nofun).nodup hq⟩
 have hKl:K.length ≤ 8:=by rw [eK,(ybX _).length_eq]; simpa using hcg
 rw [← eK] at hN1
 have hsn:sn.n = K.length:=hN1.1
 have M101':Mod [b20] W0 w101:=((M1.trans M92).trans M101).less fun z hz _ => by simpa using hz
 have hL101:=(hL.keep0 M92).keep0 M101
 clear hL
 refine yA8 (fun mm x m0 m1 p2 m3 p4 m5 p6 a n c w' => ∃ (k:Nat) (gv:List GdV),x = k ∧ k ≤ K.length ∧ m0 = V.room ∧ m1 = V.now ∧ p2 = some ⟨V.pc,0,none⟩ ∧ m3 = some V.ml ∧ p4 = some ⟨V.pm,0,none⟩ ∧ m5 = some V.mg ∧ p6 = some ⟨V.po,0,none⟩ ∧ GrpdAt w' w101.heap.size ⟨a,n,c⟩ ((K.take k).map (yEy V.st.groups)) gv ∧ Mod [b20] w101 w' ∧ mm = K.length - k) K.length
  ⟨0,[],rfl,by omega,rfl,rfl,rfl,rfl,rfl,rfl,rfl,⟨Row.nil ..,by simp,rfl⟩,(Mod.refl _).less (by simp),rfl⟩ ?_
 rintro mm x m0 m1 p2 m3 p4 m5 p6 a' n' c' w3 ⟨k,gv,rfl,hkl,rfl,rfl,rfl,rfl,rfl,rfl,rfl,hG,M3,rfl⟩ hcw3
 have s3:=M3.size
 have h3:=h101.keep M3 (by simpa using nb20)
 have hgv:gv.length = k:=by have:=congrArg List.length hG.eq; simp at this; omega
 have n20b:b20 ∉ yaN sn.a:=fun hz => by have:=(yaG hN1 _ hz).1; omega
 refine yaC (fun hlt => ?_) fun hge => ?_
 ·obtain ⟨y,hy⟩:∃ y,K[k]? = some y:=⟨_,List.getElem?_eq_getElem (by omega)⟩
  obtain ⟨x,hx⟩:=hKm y (List.mem_of_getElem? hy)
  obtain ⟨k1,k2⟩:=hgG y x hx
  refine ((yaA hN1 M3 (by simpa using n20b)).sl ydB).ix hy fun q g1 => yaL (x:=y) (by simpa [add_zero] using g1 0 _ rfl) ?_
  refine ⟨_,h3.lkGrpK hx,?_⟩
  refine (yEv (h3.grpAt hx)).mono ?_
  rintro _ w128 ⟨rfl,M128⟩
  refine ⟨_,_,rfl,yaF.of0 M128,_,_,_,_,_,_,_,M128.keep0 hcw3,?_⟩
  intro w138 A138 hc138
  have h138:=(h3.keep0 M128).keep0 A138.mod
  refine (yuB (h138.grpAt hx) (by omega) fun q hq => by have:=k2 q hq; omega).mono ?_
  rintro _ w139 ⟨_,rfl,s',qs,rfl,hS,eS,M139⟩
  refine ⟨_,_,_,rfl,yaF.of0 M139,_,_,_,_,_,_,_,M139.keep0 hc138,rfl,?_⟩
  have s128:=M128.size
  have s138:=A138.mod.size
  have s139:=M139.size
  have M139':Mod [] w3 w139:=(M128.go0 A138.mod (by simp)).go0 M139 (by simp)
  have hG139:=hG.keep0 M139'
  have lk:=yaG hG139.row
  have lk1:=yaG hG.row
  refine yg2 (T:=166) (S:=70) (enc:=GdV.cs) (y:=(⟨⟨y,x.gen,x.robin,ydK x.G⟩,s'⟩:GdV)) (f:=⟨a',n',c'⟩) yFQ Tryz.underlying70 rfl (by decide) (by decide) hG139.row (GdV.cs_len _) (GdV.cs_one _) (by omega) (by omega) (fun z hz hz' => ?_) fun a4 c4 w4 hR4 M4 hk4 => ?_
  ·have h1:=(lk1 z hz').1
   have h3:=h.lt b (yaD.2 (.inl rfl))
   simp at hz; omega
  intro w156 A156 _
  have M139b:Mod [b20] w101 w139:=(M3.trans M139').less fun z hz _ => by simpa using hz
  refine yA7 (K.length - (k + 1)) (by omega) ⟨k + 1,gv ++ [⟨⟨y,x.gen,x.robin,ydK x.G⟩,s'⟩],by rw [yaI (by omega) (by omega)]; omega,by omega,rfl,rfl,rfl,rfl,rfl,rfl,rfl,GrpdAt.keepB ⟨hR4,fun q hq => ?_,?_⟩ A156.mod (by simp; omega),((M139b.trans M4).trans A156.mod).less fun z hz hl => ?_,rfl⟩
  ·rcases List.mem_append.1 hq with hq | hq
   ·obtain ⟨qs',hqs,e⟩:=hG139.seats q hq
    exact ⟨qs',hqs.keepG hG139.row M4,e⟩
   ·simp at hq; subst hq
    exact ⟨qs,(hS.rebase (by omega)).keepG hG139.row M4,eS⟩
  ·rw [ybO hy,List.map_append,List.map_append,hG.eq]; simp only [List.map_cons,List.map_nil,yFS hx]
  ·simp only [List.mem_append] at hz
   rcases hz with (hz | hz) | hz
   ·exact hz
   ·have:=(lk z hz).1; omega
   ·exact hz
 have hkk:k = K.length:=by omega
 subst hkk
 rw [List.take_length] at hG
 intro w157 A157 _
 subst hR
 have M157:Mod [b20,b2] W0 w157:=((M101'.trans M3).trans A157.mod).less fun z hz _ => by simp at hz ⊢; omega
 have nS:∀ k ∈ [b20,b2],k ∉ ysF st se sm so mv:=by
  intro k hk; simp at hk
  rcases hk with rfl | rfl
  ·exact n20
  ·exact n2
 refine ⟨⟨V.room,V.now,ycR V.cat,P.map (yEx V.st.logs),V.eps,mv.map (·.x),K.map (yEy V.st.groups),ml⟩,⟨st,⟨a,n,c⟩,se,sm,⟨a',n',c'⟩,so⟩,lv,mv,gv,rfl,⟨(h4.keep M157 nS),rfl,?_,?_⟩,⟨rfl,rfl,rfl,by rw [eP]; rfl,rfl,hmk,List.pairwise_map.2 (hms.imp fun hh => hh),?_,hof,hos⟩,(M0.trans M157).less fun z hz hl => ?_⟩
 ·exact ((hL101.keepB M3 (by simp; omega)).keepB A157.mod (by simp; omega)).rebase M0.size
 ·exact (hG.keepB A157.mod (by simp; omega)).rebase (by have:=M0.size; omega)
 ·rw [eK]; simp [BrV.st]; rfl
 ·simp at hz; omega
end Go.Proofs.YteldhjiiocmicaaGreat
namespace Go.Proofs.YteldhjiiocmicaaGreat
open Go Go.RowKit
set_option linter.all false
section
set_option maxRecDepth 100000
variable {R:VWP} {w w0:World} {m:Nat} {i0 i1 i2 i3 i4 i5 i6 i7 i8 i9 j0 j1 j2 j3 j4 j5 j6 j7 j8 j9 k0 k1 k2 k3 k4 k5 k6 k7 k8 k9 l0 l1 l2 l3 l4 l5 l6 l7 l8 l9:Int} {s0 s1 s2 s3 s4 s5 s6 s7 s8 s9 t0 t1 t2 t3 t4 t5 t6 t7 t8 t9:BA} {n0 n1 n2 n3 n4 n5 n6 n7 n8 n9 o0 o1 o2 o3 o4 o5 o6 o7 o8 o9 p0 p1 p2 p3 p4 p5 p6 p7 p8 p9:Nat} {q0 q1 q2 q3 q4 q5 q6 q7 q8 q9 r0 r1 r2 r3 r4 r5 r6 r7 r8 r9:OA} {B0 B1 B2 B3 B4 B5 B6 B7 B8 B9:Bool} {M0 M1 M2 M3:Option Nat} {V0 V1 V2 V3 V4 V5:Value} {A0 A1 A2:Addr}
def yrI:LA:=⟨[0,0,1,0,1,1],[0,13,14,15],[],0,[]⟩
def yrJ:List LA:=[yrI]
abbrev yGY:=dnF pP yrJ (code Tryz.f127)
abbrev yMY:=yaR pP yrJ (code Tryz.f127)
abbrev yGZ (p:List Nat) (K:List Kh) (R:VWP):=yaR pP yrJ (code Tryz.f127) p K (ybE pP Tryz.f127 [] R)
def yiB (a5:OA) (a7 a6:Nat) (a0:OA) (a2 a1:Nat) (a3:Int):Int → List Value × List TB:=fun a4 => ([.slice a5 a7 a6,.slice a0 a2 a1,.int .i64 a3,.int .i64 a4],[])
abbrev yw7 (a4:OA) (a6 a5:Nat) (a0:OA) (a2 a1:Nat) (a3:Int) (I:Nat → Int → World → Prop) (m:Nat):Kh:=KG (yiB a4 a6 a5 a0 a2 a1 a3) (U1 I) m
theorem ypK {I:Nat → Int → World → Prop} (m':Nat) (h1:m' < m) (h2:I m' i1 w):KS (yw7 q0 n0 n1 q1 n2 n3 i0 I m) (yiB q0 n0 n1 q1 n2 n3 i0 i1) w:=⟨m',h1,_,rfl,rfl,h2⟩
theorem yBb {a6:OA} {a1:OA} (I:Nat → Int → World → Prop) (m0:Nat) (h0:I m0 i1 w0)
 (hr:∀ m a0 w,I m a0 w →
 brB (decide (a0 < i0)) (
 ixA a1 n2 a0 3 fun q6 =>
 ya1 .i64 w q6 fun x7 => ya1 .i64 w (Addr.add q6 1) fun x8 => ya1 .i64 w (Addr.add q6 2) fun x9 =>
 ∀ a7,w.heap.size ≤ a7 →
 ∀ b3,Adv [] [a7] w b3 →
 Calls pP 97 #[.int .i64 x7] b3 fun e a9 => ∃ b5,e = .returned (.bool b5) ∧ yaF [a7] b3 a9 ∧
 brB (!b5) (
 R (.bool false) a9)
 (
 brB (decide (x8 < 1)) (
 R (.bool false) a9)
 (
 Calls pP 97 #[.int .i64 x8] a9 fun e b1 => ∃ b6,e = .returned (.bool b6) ∧ yaF [a7] a9 b1 ∧
 brB (!b6) (
 R (.bool false) b1)
 (
 Calls pP 97 #[.int .i64 x9] b1 fun e b0 => ∃ b7,e = .returned (.bool b7) ∧ yaF [a7] b1 b0 ∧
 brB (!b7) (
 R (.bool false) b0)
 (
 brB (decide (a0 > 0)) (
 slV a6 n1 0 a0 n1 3 fun b9 c1 c0 =>
 Calls pP 90 #[.slice b9 c1 c0] b0 fun e b4 => ∃ b8,e = .returned (.int .i64 b8) ∧ yaF [a7] b0 b4 ∧ (((.int .i64 x7):Value) = (.int .i64 x7)) ∧
 brB (x7 != b8) (
 R (.bool false) b4)
 (
 KS (yw7 a6 n0 n1 a1 n2 n3 i0 I m) (yiB a6 n0 n1 a1 n2 n3 i0 (IntKind.wrap .i64 (a0 + 1))) b4))
 (
 KS (yw7 a6 n0 n1 a1 n2 n3 i0 I m) (yiB a6 n0 n1 a1 n2 n3 i0 (IntKind.wrap .i64 (a0 + 1))) b0))))))
 (
 R (.bool true) w)) :
 yaO yrI (yGY 396 [0,0,1,0,1,1]) (yGZ [1,1,0,1,0] [] R) (yiB a6 n0 n1 a1 n2 n3 i0 i1) w0 :=
 lrule (yiB a6 n0 n1 a1 n2 n3 i0) (U1 I) h0 (by rintro m a0 w h; exact ⟨by kernel_rfl,by kernel_rfl,fun js => Eq.mpr (by kernel_rfl) (hr m a0 w h)⟩)
theorem yIB (h :
 brB ((n0:Int) == 0) (
 R (.bool false) w)
 (
 brB (decide ((n0:Int) > 5)) (
 R (.bool false) w)
 (
 yaO yrI (yGY 396 [0,0,1,0,1,1]) (yGZ [1,1,0,1,0] [] R) (yiB q0 n0 n1 q0 n0 n1 (n0:Int) 0) w))) :
 CR pP 127 #[.slice q0 n0 n1] w R :=
 yaB Tryz.wide_mixed (an:=yrJ) Tryz.func127 rfl rfl (by kernel_rfl) rfl (Eq.mpr (by kernel_rfl) h)
def yrK:LA:=⟨[0,0,1,0,1,1,1,1],[1,6,22,23,24],[],0,[]⟩
def yrL:List LA:=[yrK]
abbrev yG0:=dnF pP yrL (code Tryz.f61)
abbrev yMZ:=yaR pP yrL (code Tryz.f61)
abbrev yG1 (p:List Nat) (K:List Kh) (R:VWP):=yaR pP yrL (code Tryz.f61) p K (ybE pP Tryz.f61 [] R)
def yiC (a5:OA) (a7 a6:Nat) (a8 a0:OA) (a2 a1:Nat) (a3:Int):Int → List Value × List TB:=fun a4 => ([.slice a5 a7 a6,.pointer a8,.slice a0 a2 a1,.int .i64 a3,.int .i64 a4],[])
abbrev yw8 (a4:OA) (a6 a5:Nat) (a7 a0:OA) (a2 a1:Nat) (a3:Int) (I:Nat → Int → World → Prop) (m:Nat):Kh:=KG (yiC a4 a6 a5 a7 a0 a2 a1 a3) (U1 I) m
theorem yBc {I:Nat → Int → World → Prop} (m':Nat) (h1:m' < m) (h2:I m' i1 w):KS (yw8 q0 n0 n1 q1 q2 n2 n3 i0 I m) (yiC q0 n0 n1 q1 q2 n2 n3 i0 i1) w:=⟨m',h1,_,rfl,rfl,h2⟩
theorem yBd (I:Nat → Int → World → Prop) (m0:Nat) (h0:I m0 i1 w0)
 (hr:∀ m a1 w,I m a1 w →
 brB (decide (a1 < i0)) (
 ixA q2 n2 a1 5 fun b9 =>
 ya1 .i64 w b9 fun a3 => ya1 .i64 w (Addr.add b9 1) fun d0 => ya7 w (Addr.add b9 2) fun b1 => ya1 .i64 w (Addr.add b9 3) fun b4 => ya2 w (Addr.add b9 4) fun b6 b8 b7 =>
 ∀ a2,w.heap.size ≤ a2 →
 brB (decide (a1 > 0)) (
 ixA q0 n0 (IntKind.wrap .i64 (a1 - 1)) 5 fun c0 =>
 ∀ a8,Adv [] [a2] w a8 →
 ya1 .i64 a8 c0 fun f8 => ya1 .i64 a8 (Addr.add c0 1) fun f9 => ya7 a8 (Addr.add c0 2) fun f7 => ya1 .i64 a8 (Addr.add c0 3) fun g0 => ya2 a8 (Addr.add c0 4) fun e6 f0 e9 =>
 Calls pP 126 #[(.agg (Z11 f8 f9 f7 g0 e6 f0 e9)),(.agg (Z11 a3 d0 b1 b4 b6 b8 b7))] a8 fun e c1 => ∃ e5,e = .returned (.int .i64 e5) ∧ yaF [a2] a8 c1 ∧
 brB (decide (e5 ≥ 0)) (
 R (.tuple #[.pointer none,.int .i64 1]) c1)
 (
 Calls pP 84 #[.pointer q1,.int .i64 a3] c1 fun e b2 => ∃ d9,e = .returned (.bool d9) ∧ yaF [a2] c1 b2 ∧
 brB (!d9) (
 R (.tuple #[.pointer none,.int .i64 1]) b2)
 (
 yb7 q1 fun f3 =>
 ya2 b2 f3 fun e7 f1 g3 =>
 ixA e7 f1 (IntKind.wrap .i64 (a3 - 1)) 1 fun f4 =>
 ya1 .i64 b2 f4 fun g1 =>
 brB (d0 != g1) (
 R (.tuple #[.pointer none,.int .i64 1]) b2)
 (
 Calls pP 127 #[.slice b6 b8 b7] b2 fun e c7 => ∃ e0,e = .returned (.bool e0) ∧ yaF [a2] b2 c7 ∧
 brB (!e0) (
 R (.tuple #[.pointer none,.int .i64 1]) c7)
 (
 yb7 q1 fun d7 =>
 ∀ c2,Adv [] [] c7 c2 →
 yd4 c2 (Addr.add d7 1) fun m62 =>
 Calls pP 98 #[.slice b6 b8 b7] c2 fun e c3 => ∃ d1 d5 d3,e = .returned (.slice d1 d5 d3) ∧ yaF [a2] c2 c3 ∧ (((.agg #[.string b1,.int .i64 b4]):Value) = (.agg #[.string b1,.int .i64 b4])) ∧ (((.int .i64 a3):Value) = (.int .i64 a3)) ∧ (yd4 c3 (Addr.add d7 1) fun m67 => ((.map m67):Value) = (.map m62)) ∧
 ydM pP (Instr.mapUpdate 87 (.map m62) (.agg (Z10 a3 b1 b4)) (.slice d1 d5 d3)) c3 fun e3 => yaF [a2] c3 e3 ∧
 KS (yw8 q0 n0 n1 q1 q2 n2 n3 i0 I m) (yiC q0 n0 n1 q1 q2 n2 n3 i0 (IntKind.wrap .i64 (a1 + 1))) e3)))))
 (
 ∀ c8,Adv [] [a2] w c8 →
 Calls pP 84 #[.pointer q1,.int .i64 a3] c8 fun e b3 => ∃ e1,e = .returned (.bool e1) ∧ yaF [a2] c8 b3 ∧
 brB (!e1) (
 R (.tuple #[.pointer none,.int .i64 1]) b3)
 (
 yb7 q1 fun f5 =>
 ya2 b3 f5 fun e8 f2 g4 =>
 ixA e8 f2 (IntKind.wrap .i64 (a3 - 1)) 1 fun f6 =>
 ya1 .i64 b3 f6 fun g2 =>
 brB (d0 != g2) (
 R (.tuple #[.pointer none,.int .i64 1]) b3)
 (
 Calls pP 127 #[.slice b6 b8 b7] b3 fun e c9 => ∃ e2,e = .returned (.bool e2) ∧ yaF [a2] b3 c9 ∧
 brB (!e2) (
 R (.tuple #[.pointer none,.int .i64 1]) c9)
 (
 yb7 q1 fun d8 =>
 ∀ c4,Adv [] [] c9 c4 →
 yd4 c4 (Addr.add d8 1) fun m82 =>
 Calls pP 98 #[.slice b6 b8 b7] c4 fun e c5 => ∃ d2 d6 d4,e = .returned (.slice d2 d6 d4) ∧ yaF [a2] c4 c5 ∧ (((.agg #[.string b1,.int .i64 b4]):Value) = (.agg #[.string b1,.int .i64 b4])) ∧ (((.int .i64 a3):Value) = (.int .i64 a3)) ∧ (yd4 c5 (Addr.add d8 1) fun m87 => ((.map m87):Value) = (.map m82)) ∧
 ydM pP (Instr.mapUpdate 87 (.map m82) (.agg (Z10 a3 b1 b4)) (.slice d2 d6 d4)) c5 fun e4 => yaF [a2] c5 e4 ∧
 KS (yw8 q0 n0 n1 q1 q2 n2 n3 i0 I m) (yiC q0 n0 n1 q1 q2 n2 n3 i0 (IntKind.wrap .i64 (a1 + 1))) e4)))))
 (
 R (.tuple #[.pointer q1,.int .i64 0]) w)) :
 yaO yrK (yG0 394 [0,0,1,0,1,1,1,1]) (yG1 [1,1,1,1,0,1,0] [] R) (yiC q0 n0 n1 q1 q2 n2 n3 i0 i1) w0 :=
 lrule (yiC q0 n0 n1 q1 q2 n2 n3 i0) (U1 I) h0 (by rintro m a1 w h; exact ⟨by kernel_rfl,by kernel_rfl,fun js => Eq.mpr (by kernel_rfl) (hr m a1 w h)⟩)
theorem yIC {a0 a2:Nat} {a3 a5:Nat} (h :
 brB (decide ((a0:Int) > 32)) (
 R (.tuple #[.pointer none,.int .i64 2]) w)
 (
 Calls pP 123 #[.slice q0 a0 a2,(.func (.func 124) #[] #[])] w fun e w3 => ∃ t4,e = .returned (.bool t4) ∧
 brB t4 (
 R (.tuple #[.pointer none,.int .i64 1]) w3)
 (
 Calls pP 14 #[] w3 fun e w7 => ∃ p8,e = .returned (.pointer p8) ∧
 Calls pP 125 #[.slice q0 a0 a2] w7 fun e b0 => ∃ a6 a8 a7,e = .returned (.slice a6 a8 a7) ∧
 yb7 p8 fun a9 =>
 st b0 a9 [.slice a6 a8 a7] fun b1 =>
 yaO yrK (yG0 394 [0,0,1,0,1,1,1,1]) (yG1 [1,1,1,1,0,1,0] [] R) (yiC q1 a3 a5 p8 q1 a3 a5 (a3:Int) 0) b1))) :
 CR pP 61 #[.slice q0 a0 a2,.slice q1 a3 a5] w R :=
 yaB Tryz.wide_mixed (an:=yrL) Tryz.func61 rfl rfl (by kernel_rfl) rfl (Eq.mpr (by kernel_rfl) h)
theorem yID (h :
 Calls pP 97 #[.int .i64 i0] w fun e w3 => ∃ t4,e = .returned (.bool t4) ∧
 R (.bool (!t4)) w3) :
 CR pP 124 #[.int .i64 i0] w R :=
 yaB Tryz.wide_mixed (an:=[]) Tryz.func124 rfl rfl (by kernel_rfl) rfl (Eq.mpr (by kernel_rfl) h)
def yrM:LA:=⟨[0,0,1,0,1,1],[0,4,8,9,10],[],0,[]⟩
def yrN:List LA:=[yrM]
abbrev yG2:=dnF pP yrN (code Tryz.f65)
abbrev yM0:=yaR pP yrN (code Tryz.f65)
abbrev yG3 (p:List Nat) (K:List Kh) (R:VWP):=yaR pP yrN (code Tryz.f65) p K (ybE pP Tryz.f65 [] R)
def yiD (a1:OA) (a5 a3:Nat) (a7 a2:OA) (a6 a4:Nat) (a8:Int):Int → List Value × List TB:=fun a0 => ([.slice a1 a5 a3,.pointer a7,.slice a2 a6 a4,.int .i64 a8,.int .i64 a0],[])
abbrev yw9 (a0:OA) (a4 a2:Nat) (a6 a1:OA) (a5 a3:Nat) (a7:Int) (I:Nat → Int → World → Prop) (m:Nat):Kh:=KG (yiD a0 a4 a2 a6 a1 a5 a3 a7) (U1 I) m
theorem yBe {I:Nat → Int → World → Prop} (m':Nat) (h1:m' < m) (h2:I m' i1 w):KS (yw9 q0 n0 n1 q1 q2 n2 n3 i0 I m) (yiD q0 n0 n1 q1 q2 n2 n3 i0 i1) w:=⟨m',h1,_,rfl,rfl,h2⟩
theorem yBf (I:Nat → Int → World → Prop) (m0:Nat) (h0:I m0 i1 w0)
 (hr:∀ m a0 w,I m a0 w →
 brB (decide (a0 < i0)) (
 ixA q2 n2 a0 4 fun b1 =>
 ya7 w b1 fun b3 => ya7 w (Addr.add b1 1) fun b4 => ya1 .i64 w (Addr.add b1 2) fun b7 => ya1 .i64 w (Addr.add b1 3) fun b8 =>
 ∀ a8,w.heap.size ≤ a8 →
 ∀ c0,Adv [] [a8] w c0 →
 Calls pP 118 #[(.agg (Z6 b3 b4 b7 b8))] c0 fun e a2 => ∃ c2,e = .returned (.bool c2) ∧ yaF [a8] c0 a2 ∧
 brB (!c2) (
 R (.tuple #[.pointer none,.int .i64 1]) a2)
 (
 brB (decide (a0 > 0)) (
 ixA q0 n0 (IntKind.wrap .i64 (a0 - 1)) 4 fun b2 =>
 ya7 a2 b2 fun c8 => ya7 a2 (Addr.add b2 1) fun c9 => ya1 .i64 a2 (Addr.add b2 2) fun d0 => ya1 .i64 a2 (Addr.add b2 3) fun d1 =>
 Calls pP 129 #[(.agg (Z6 c8 c9 d0 d1)),(.agg (Z6 b3 b4 b7 b8))] a2 fun e c1 => ∃ c5,e = .returned (.int .i64 c5) ∧ yaF [a8] a2 c1 ∧
 brB (decide (c5 ≥ 0)) (
 R (.tuple #[.pointer none,.int .i64 1]) c1)
 (
 yb7 q1 fun c6 =>
 ∀ b5,Adv [] [] c1 b5 →
 yd4 b5 c6 fun m29 =>
 ydM pP (Instr.mapUpdate 90 (.map m29) (.agg (Z14 b3 b4 b7)) (.int .i64 b8)) b5 fun c3 => yaF [a8] b5 c3 ∧
 KS (yw9 q0 n0 n1 q1 q2 n2 n3 i0 I m) (yiD q0 n0 n1 q1 q2 n2 n3 i0 (IntKind.wrap .i64 (a0 + 1))) c3))
 (
 yb7 q1 fun c7 =>
 ∀ b6,Adv [] [] a2 b6 →
 yd4 b6 c7 fun m33 =>
 ydM pP (Instr.mapUpdate 90 (.map m33) (.agg (Z14 b3 b4 b7)) (.int .i64 b8)) b6 fun c4 => yaF [a8] b6 c4 ∧
 KS (yw9 q0 n0 n1 q1 q2 n2 n3 i0 I m) (yiD q0 n0 n1 q1 q2 n2 n3 i0 (IntKind.wrap .i64 (a0 + 1))) c4)))
 (
 R (.tuple #[.pointer q1,.int .i64 0]) w)) :
 yaO yrM (yG2 396 [0,0,1,0,1,1]) (yG3 [1,1,0,1,0] [] R) (yiD q0 n0 n1 q1 q2 n2 n3 i0 i1) w0 :=
 lrule (yiD q0 n0 n1 q1 q2 n2 n3 i0) (U1 I) h0 (by rintro m a0 w h; exact ⟨by kernel_rfl,by kernel_rfl,fun js => Eq.mpr (by kernel_rfl) (hr m a0 w h)⟩)
theorem yIE {a0 a2:Nat} (h :
 Calls pP 15 #[] w fun e w3 => ∃ p4,e = .returned (.pointer p4) ∧
 yaO yrM (yG2 396 [0,0,1,0,1,1]) (yG3 [1,1,0,1,0] [] R) (yiD q0 a0 a2 p4 q0 a0 a2 (a0:Int) 0) w3) :
 CR pP 65 #[.slice q0 a0 a2] w R :=
 yaB Tryz.wide_mixed (an:=yrN) Tryz.func65 rfl rfl (by kernel_rfl) rfl (Eq.mpr (by kernel_rfl) h)
def yrO:LA:=⟨[0,0,1,0,1,1,1,1],[2,8,28,29,30],[],0,[]⟩
def yrP:List LA:=[yrO]
abbrev yG4:=dnF pP yrP (code Tryz.f121)
abbrev yM1:=yaR pP yrP (code Tryz.f121)
abbrev yG5 (p:List Nat) (K:List Kh) (R:VWP):=yaR pP yrP (code Tryz.f121) p K (ybE pP Tryz.f121 [] R)
def yiE (a5:OA) (a7 a6:Nat) (a8 a0:OA) (a2 a1:Nat) (a3:Int):Int → List Value × List TB:=fun a4 => ([.slice a5 a7 a6,.pointer a8,.slice a0 a2 a1,.int .i64 a3,.int .i64 a4],[])
abbrev yxA (a4:OA) (a6 a5:Nat) (a7 a0:OA) (a2 a1:Nat) (a3:Int) (I:Nat → Int → World → Prop) (m:Nat):Kh:=KG (yiE a4 a6 a5 a7 a0 a2 a1 a3) (U1 I) m
theorem yBg {I:Nat → Int → World → Prop} (m':Nat) (h1:m' < m) (h2:I m' i1 w):KS (yxA q0 n0 n1 q1 q2 n2 n3 i0 I m) (yiE q0 n0 n1 q1 q2 n2 n3 i0 i1) w:=⟨m',h1,_,rfl,rfl,h2⟩
theorem yBh (I:Nat → Int → World → Prop) (m0:Nat) (h0:I m0 i1 w0)
 (hr:∀ m a0 w,I m a0 w →
 brB (decide (a0 < i0)) (
 ixA q2 n2 a0 4 fun b2 =>
 ya7 w b2 fun a1 => ya2 w (Addr.add b2 1) fun b8 c0 b9 => ya1 .i64 w (Addr.add b2 2) fun c2 => ya1 .i64 w (Addr.add b2 3) fun c3 =>
 ∀ a8,w.heap.size ≤ a8 →
 ∀ c1,Adv [] [a8] w c1 →
 Calls pP 106 #[(.agg (Z3 a1 b8 c0 b9 c2 c3))] c1 fun e b1 => ∃ d5,e = .returned (.bool d5) ∧ yaF [a8] c1 b1 ∧
 brB (!d5) (
 R (.tuple #[.pointer none,.int .i64 1]) b1)
 (
 brB (decide (a0 > 0)) (
 ixA q0 n0 (IntKind.wrap .i64 (a0 - 1)) 4 fun e2 =>
 ya7 b1 e2 fun d2 =>
 brB ((Op.bytesLess a1.toList d2.toList) || (a1.toList == d2.toList)) (
 R (.tuple #[.pointer none,.int .i64 1]) b1)
 (
 yb7 q1 fun d0 =>
 ∀ b3,Adv [] [] b1 b3 →
 yd4 b3 (Addr.add d0 2) fun m40 =>
 Calls pP 107 #[(.agg (Z3 a1 b8 c0 b9 c2 c3))] b3 fun e b4 => ∃ d3 c4 c8 c6 d8 d9,e = .returned (.agg (Z3 d3 c4 c8 c6 d8 d9)) ∧ yaF [a8] b3 b4 ∧ (((.string a1):Value) = (.string a1)) ∧ (yd4 b4 (Addr.add d0 2) fun m48 => ((.map m48):Value) = (.map m40)) ∧
 ydM pP (Instr.mapUpdate 188 (.map m40) (.string a1) (.agg (Z3 d3 c4 c8 c6 d8 d9))) b4 fun d6 => yaF [a8] b4 d6 ∧
 KS (yxA q0 n0 n1 q1 q2 n2 n3 i0 I m) (yiE q0 n0 n1 q1 q2 n2 n3 i0 (IntKind.wrap .i64 (a0 + 1))) d6))
 (
 yb7 q1 fun d1 =>
 ∀ b5,Adv [] [] b1 b5 →
 yd4 b5 (Addr.add d1 2) fun m52 =>
 Calls pP 107 #[(.agg (Z3 a1 b8 c0 b9 c2 c3))] b5 fun e b6 => ∃ d4 c5 c9 c7 e0 e1,e = .returned (.agg (Z3 d4 c5 c9 c7 e0 e1)) ∧ yaF [a8] b5 b6 ∧ (((.string a1):Value) = (.string a1)) ∧ (yd4 b6 (Addr.add d1 2) fun m60 => ((.map m60):Value) = (.map m52)) ∧
 ydM pP (Instr.mapUpdate 188 (.map m52) (.string a1) (.agg (Z3 d4 c5 c9 c7 e0 e1))) b6 fun d7 => yaF [a8] b6 d7 ∧
 KS (yxA q0 n0 n1 q1 q2 n2 n3 i0 I m) (yiE q0 n0 n1 q1 q2 n2 n3 i0 (IntKind.wrap .i64 (a0 + 1))) d7)))
 (
 R (.tuple #[.pointer q1,.int .i64 0]) w)) :
 yaO yrO (yG4 394 [0,0,1,0,1,1,1,1]) (yG5 [1,1,1,1,0,1,0] [] R) (yiE q0 n0 n1 q1 q2 n2 n3 i0 i1) w0 :=
 lrule (yiE q0 n0 n1 q1 q2 n2 n3 i0) (U1 I) h0 (by rintro m a0 w h; exact ⟨by kernel_rfl,by kernel_rfl,fun js => Eq.mpr (by kernel_rfl) (hr m a0 w h)⟩)
theorem yIF {a0 a4:Nat} (h :
 brB (decide ((a0:Int) > 8)) (
 R (.tuple #[.pointer none,.int .i64 2]) w)
 (
 Calls pP 108 #[.int .i64 i0] w fun e w3 => ∃ t4,e = .returned (.bool t4) ∧
 brB (!t4) (
 R (.tuple #[.pointer none,.int .i64 1]) w3)
 (
 Calls pP 50 #[] w3 fun e w7 => ∃ p8,e = .returned (.pointer p8) ∧
 yb7 p8 fun a5 =>
 st w7 a5 [.int .i64 i0] fun a7 =>
 yb7 p8 fun a6 =>
 st a7 (Addr.add a6 1) [.bool B0] fun a8 =>
 yaO yrO (yG4 394 [0,0,1,0,1,1,1,1]) (yG5 [1,1,1,1,0,1,0] [] R) (yiE q0 a0 a4 p8 q0 a0 a4 (a0:Int) 0) a8))) :
 CR pP 121 #[.int .i64 i0,.bool B0,.slice q0 a0 a4] w R :=
 yaB Tryz.wide_mixed (an:=yrP) Tryz.func121 rfl rfl (by kernel_rfl) rfl (Eq.mpr (by kernel_rfl) h)
end
section
set_option maxRecDepth 100000
variable {R:VWP} {w w0:World} {m:Nat} {i0 i1 i2 i3 i4 i5 i6 i7 i8 i9 j0 j1 j2 j3 j4 j5 j6 j7 j8 j9 k0 k1 k2 k3 k4 k5 k6 k7 k8 k9 l0 l1 l2 l3 l4 l5 l6 l7 l8 l9:Int} {s0 s1 s2 s3 s4 s5 s6 s7 s8 s9 t0 t1 t2 t3 t4 t5 t6 t7 t8 t9:BA} {n0 n1 n2 n3 n4 n5 n6 n7 n8 n9 o0 o1 o2 o3 o4 o5 o6 o7 o8 o9 p0 p1 p2 p3 p4 p5 p6 p7 p8 p9:Nat} {q0 q1 q2 q3 q4 q5 q6 q7 q8 q9 r0 r1 r2 r3 r4 r5 r6 r7 r8 r9:OA} {B0 B1 B2 B3 B4 B5 B6 B7 B8 B9:Bool} {M0 M1 M2 M3:Option Nat} {V0 V1 V2 V3 V4 V5:Value} {A0 A1 A2:Addr}
def yrQ:LA:=⟨[0,0,1,0,1,1,1],[0,1,6,22,23,24],[(6,0,0)],1,[]⟩
def yrR:List LA:=[yrQ]
abbrev yG6:=dnF pP yrR (code Tryz.f119)
abbrev yM2:=yaR pP yrR (code Tryz.f119)
abbrev yG7 (p:List Nat) (K:List Kh) (R:VWP):=yaR pP yrR (code Tryz.f119) p K (ybE pP Tryz.f119 [] R)
def yiF (b2:Int) (a9:OA) (b1 b0:Nat) (a4:OA) (a6 a5:Nat) (a7:Int) (bm0:Nat) (a3:Int):Int × (Option Addr) × Nat × Nat → List Value × List TB:=fun (a8,a0,a2,a1) => ([.int .i64 b2,.slice a9 b1 b0,(.pointer (some ⟨bm0,0,none⟩)),.slice a4 a6 a5,.int .i64 a7,.int .i64 a8],[⟨bm0,83,[.int .i64 a3,.slice a0 a2 a1],false⟩])
abbrev yxB (a8:Int) (a5:OA) (a7 a6:Nat) (a1:OA) (a3 a2:Nat) (a4:Int) (bm0:Nat) (a0:Int) (I:Nat → Int → Option Addr → Nat → Nat → World → Prop) (m:Nat):Kh:=KG (yiF a8 a5 a7 a6 a1 a3 a2 a4 bm0 a0) (U4 I) m
theorem ypL {I:Nat → Int → Option Addr → Nat → Nat → World → Prop} (m':Nat) (h1:m' < m) (h2:I m' i3 q2 n5 n6 w):KS (yxB i0 q0 n0 n1 q1 n2 n3 i1 n4 i2 I m) (yiF i0 q0 n0 n1 q1 n2 n3 i1 n4 i2 (i3,q2,n5,n6)) w:=⟨m',h1,_,rfl,rfl,h2⟩
theorem yBi (I:Nat → Int → Option Addr → Nat → Nat → World → Prop) (m0:Nat) (h0:I m0 i3 q2 n5 n6 w0)
 (hr:∀ m a4 a1 a3 a2 w,I m a4 a1 a3 a2 w →
 brB (decide (a4 < i1)) (
 ixA q1 n2 a4 3 fun c0 =>
 ya1 .i64 w c0 fun d5 => ya1 .i64 w (Addr.add c0 1) fun e7 => ya2 w (Addr.add c0 2) fun d6 c4 e1 =>
 ∀ b7,w.heap.size ≤ b7 →
 ∀ c1,Adv [] [b7] w c1 →
 Calls pP 154 #[.int .i64 d5,.int .i64 e7,.slice d6 c4 e1] c1 fun e b1 => ∃ b9 c3,e = .returned (.tuple #[.pointer b9,.int .i64 c3]) ∧ yaF [n4,b7] c1 b1 ∧
 brB (c3 != 0) (
 R (.tuple #[.pointer none,.int .i64 c3]) b1)
 (
 brB (decide ((c4:Int) > i0)) (
 ∀ c5,Adv [] [] b1 c5 →
 R (.tuple #[.pointer none,.int .i64 1]) c5)
 (
 brB (decide (a4 > 0)) (
 ixA q0 n0 (IntKind.wrap .i64 (a4 - 1)) 3 fun e6 =>
 ya1 .i64 b1 (Addr.add e6 1) fun e8 =>
 brB (d5 != e8) (
 ∀ c6,Adv [] [] b1 c6 →
 R (.tuple #[.pointer none,.int .i64 1]) c6)
 (
 ∀ c7,Adv [] [] b1 c7 →
 al c7 (.cells #[.pointer b9] 78) fun d9 c8 =>
 ybC pP (Builtin.append_ #[81,81] 81 #[.slice a1 a3 a2,(.slice (some ⟨d9,0,none⟩) 1 1)]) c8 fun d7 e4 e2 c9 => yaF [n4,b7] c8 c9 ∧
 ∀ d0,Adv [n4] [] c9 d0 →
 KS (yxB i0 q0 n0 n1 q1 n2 n3 i1 n4 i2 I m) (yiF i0 q0 n0 n1 q1 n2 n3 i1 n4 i2 ((IntKind.wrap .i64 (a4 + 1)),d7,e4,e2)) d0))
 (
 ∀ d1,Adv [] [] b1 d1 →
 al d1 (.cells #[.pointer b9] 78) fun e0 d2 =>
 ybC pP (Builtin.append_ #[81,81] 81 #[.slice a1 a3 a2,(.slice (some ⟨e0,0,none⟩) 1 1)]) d2 fun d8 e5 e3 d3 => yaF [n4,b7] d2 d3 ∧
 ∀ d4,Adv [n4] [] d3 d4 →
 KS (yxB i0 q0 n0 n1 q1 n2 n3 i1 n4 i2 I m) (yiF i0 q0 n0 n1 q1 n2 n3 i1 n4 i2 ((IntKind.wrap .i64 (a4 + 1)),d8,e5,e3)) d4))))
 (
 ∀ c2,Adv [] [] w c2 → c2.heap[n4]? = some (.cells #[.int .i64 i2,.slice a1 a3 a2] 83) →
 R (.tuple #[(.pointer (some ⟨n4,0,none⟩)),.int .i64 0]) c2)) :
 yaO yrQ (yG6 395 [0,0,1,0,1,1,1]) (yG7 [1,1,1,0,1,0] [] R) (yiF i0 q0 n0 n1 q1 n2 n3 i1 n4 i2 (i3,q2,n5,n6)) w0 :=
 lrule (yiF i0 q0 n0 n1 q1 n2 n3 i1 n4 i2) (U4 I) h0 (by rintro m ⟨a4,a1,a3,a2⟩ w h; exact ⟨by kernel_rfl,by kernel_rfl,fun js => Eq.mpr (by kernel_rfl) (hr m a4 a1 a3 a2 w h)⟩)
theorem yIG (h :
 Calls pP 34 #[.int .i64 i0] w fun e w3 => ∃ t4,e = .returned (.bool t4) ∧
 brB (!t4) (
 R (.tuple #[.pointer none,.int .i64 1]) w3)
 (
 brB ((n0:Int) == 0) (
 R (.tuple #[.pointer none,.int .i64 1]) w3)
 (
 ∀ b6,w3.heap.size ≤ b6 →
 ∀ a4,Adv [] [b6] w3 a4 →
 yaO yrQ (yG6 395 [0,0,1,0,1,1,1]) (yG7 [1,1,1,0,1,0] [] R) (yiF i0 q0 n0 n1 q0 n0 n1 (n0:Int) b6 i0 (0,none,0,0)) a4))) :
 CR pP 119 #[.int .i64 i0,.slice q0 n0 n1] w R :=
 yaB Tryz.wide_mixed (an:=yrR) Tryz.func119 rfl rfl (by kernel_rfl) rfl (Eq.mpr (by kernel_rfl) h)
def yrS:LA:=⟨[0,0,1,0,1,1,1,1,1],[1,8,9,10,38,39,40],[(8,0,0)],1,[0]⟩
def yrT:List LA:=[yrS]
abbrev yG8:=dnF pP yrT (code Tryz.f154)
abbrev yM3:=yaR pP yrT (code Tryz.f154)
abbrev yG9 (p:List Nat) (K:List Kh) (R:VWP):=yaR pP yrT (code Tryz.f154) p K (ybE pP Tryz.f154 [] R)
def ykG (b6:Int) (a9:OA) (b3 b1:Nat) (b4:Int) (bm0:Nat):Int × (Option Addr) × Nat × Nat × Int × Int × Int × (Option Addr) × Nat × Nat × (Option Addr) × Nat × Nat → List Value × List TB:=fun (b7,a8,b2,b0,b5,a6,a7,a0,a4,a2,a1,a5,a3) => ([.int .i64 b6,(.pointer (some ⟨bm0,0,none⟩)),.int .i64 b7,.slice a8 b2 b0,.slice a9 b3 b1,.int .i64 b4,.int .i64 b5],[⟨bm0,168,[.int .i64 a6,.int .i64 a7,.slice a0 a4 a2,.slice a1 a5 a3],true⟩])
abbrev yEA (a4:Int) (a0:OA) (a2 a1:Nat) (a3:Int) (bm0:Nat) (I:Nat → Int → Option Addr → Nat → Nat → Int → Int → Int → Option Addr → Nat → Nat → Option Addr → Nat → Nat → World → Prop) (m:Nat):Kh:=KG (ykG a4 a0 a2 a1 a3 bm0) (U13 I) m
theorem yBj {I:Nat → Int → Option Addr → Nat → Nat → Int → Int → Int → Option Addr → Nat → Nat → Option Addr → Nat → Nat → World → Prop} (m':Nat) (h1:m' < m) (h2:I m' i2 q1 n3 n4 i3 i4 i5 q2 n5 n6 q3 n7 n8 w):KS (yEA i0 q0 n0 n1 i1 n2 I m) (ykG i0 q0 n0 n1 i1 n2 (i2,q1,n3,n4,i3,i4,i5,q2,n5,n6,q3,n7,n8)) w:=⟨m',h1,_,rfl,rfl,h2⟩
theorem yBk (I:Nat → Int → Option Addr → Nat → Nat → Int → Int → Int → Option Addr → Nat → Nat → Option Addr → Nat → Nat → World → Prop) (m0:Nat) (h0:I m0 i2 q1 n3 n4 i3 i4 i5 q2 n5 n6 q3 n7 n8 w0)
 (hr:∀ m d3 a9 b3 b2 a8 a6 a7 a0 a4 a2 a1 a5 a3 w,I m d3 a9 b3 b2 a8 a6 a7 a0 a4 a2 a1 a5 a3 w →
 w.heap[n2]? = some (.cells (Z2 a6 a7 a0 a4 a2 a1 a5 a3) 168) →
 brB (decide (a8 < i1)) (
 ixA q0 n0 a8 5 fun c5 =>
 ya1 .i64 w c5 fun d1 => yb9 w (Addr.add c5 1) fun e8 => ya7 w (Addr.add c5 2) fun e6 => yb9 w (Addr.add c5 3) fun e9 => ya7 w (Addr.add c5 4) fun e7 =>
 ∀ b1,w.heap.size ≤ b1 →
 brB (decide (d1 ≤ d3)) (
 ∀ d4,Adv [] [b1] w d4 → d4.heap[n2]? = some (.cells (Z2 a6 a7 a0 a4 a2 a1 a5 a3) 168) →
 R (.tuple #[.pointer none,.int .i64 1]) d4)
 (
 brB (decide (d1 ≥ i0)) (
 ∀ d5,Adv [] [b1] w d5 → d5.heap[n2]? = some (.cells (Z2 a6 a7 a0 a4 a2 a1 a5 a3) 168) →
 R (.tuple #[.pointer none,.int .i64 1]) d5)
 (
 ∀ d0,Adv [] [b1] w d0 → d0.heap[n2]? = some (.cells (Z2 a6 a7 a0 a4 a2 a1 a5 a3) 168) →
 Calls pP 139 #[(.pointer (some ⟨n2,0,none⟩)),(.agg (Z9 d1 e8 e6 e9 e7))] d0 fun e d6 => e = .returned (.tuple #[]) ∧ yaV [n2] [(b1,76)] [b1] d0 d6 ∧ ∃ f2 f3 e0 e4 e2 e1 e5 e3,d6.heap[n2]? = some (.cells (Z2 f2 f3 e0 e4 e2 e1 e5 e3) 168) ∧
 al d6 (.cells (Z8 e8 e6 e9 e7) 65) fun f7 f0 =>
 ybC pP (Builtin.append_ #[34,34] 34 #[.slice a9 b3 b2,(.slice (some ⟨f7,0,none⟩) 1 1)]) f0 fun f4 g1 f8 f1 => yaF [n2,b1] f0 f1 ∧
 KS (yEA i0 q0 n0 n1 i1 n2 I m) (ykG i0 q0 n0 n1 i1 n2 (d1,f4,g1,f8,(IntKind.wrap .i64 (a8 + 1)),f2,f3,e0,e4,e2,e1,e5,e3)) f1)))
 (
 Calls pP 138 #[.slice a9 b3 b2] w fun e d7 => ∃ d8,e = .returned (.int .i64 d8) ∧ ∃ g4 g5 f5 g2 f9 f6 g3 g0,d7.heap[n2]? = some (.cells (Z2 g4 g5 f5 g2 f9 f6 g3 g0) 168) ∧
 brB (d8 != 0) (
 R (.tuple #[.pointer none,.int .i64 d8]) d7)
 (
 R (.tuple #[(.pointer (some ⟨n2,0,none⟩)),.int .i64 0]) d7))) :
 yaO yrS (yG8 393 [0,0,1,0,1,1,1,1,1]) (yG9 [1,1,1,1,1,0,1,0] [] R) (ykG i0 q0 n0 n1 i1 n2 (i2,q1,n3,n4,i3,i4,i5,q2,n5,n6,q3,n7,n8)) w0 :=
 lrule (ykG i0 q0 n0 n1 i1 n2) (U13 I) h0 (by rintro m ⟨d3,a9,b3,b2,a8,a6,a7,a0,a4,a2,a1,a5,a3⟩ w h; exact ⟨by kernel_rfl,by kernel_rfl,fun js => Eq.mpr (by kernel_rfl) (hr m d3 a9 b3 b2 a8 a6 a7 a0 a4 a2 a1 a5 a3 w h)⟩)
theorem yIH (h :
 Calls pP 78 #[.int .i64 i0] w fun e w5 => ∃ t6,e = .returned (.bool t6) ∧
 brB (!t6) (
 R (.tuple #[.pointer none,.int .i64 1]) w5)
 (
 Calls pP 78 #[.int .i64 i1] w5 fun e w7 => ∃ t8,e = .returned (.bool t8) ∧
 brB (!t8) (
 R (.tuple #[.pointer none,.int .i64 1]) w7)
 (
 brB (decide (i1 < i0)) (
 R (.tuple #[.pointer none,.int .i64 1]) w7)
 (
 brB (decide ((n0:Int) > 64)) (
 R (.tuple #[.pointer none,.int .i64 1]) w7)
 (
 ∀ a5,w7.heap.size ≤ a5 →
 ∀ a6,Adv [] [a5] w7 a6 → a6.heap[a5]? = some (.cells (Z2 i0 i1 none 0 0 none 0 0) 168) →
 yaO yrS (yG8 393 [0,0,1,0,1,1,1,1,1]) (yG9 [1,1,1,1,1,0,1,0] [] R) (ykG i1 q0 n0 n1 (n0:Int) a5 ((IntKind.wrap .i64 (i0 - 1)),none,0,0,0,i0,i1,none,0,0,none,0,0)) a6))))) :
 CR pP 154 #[.int .i64 i0,.int .i64 i1,.slice q0 n0 n1] w R :=
 yaB Tryz.wide_mixed (an:=yrT) Tryz.func154 rfl rfl (by kernel_rfl) rfl (Eq.mpr (by kernel_rfl) h)
end
end Go.Proofs.YteldhjiiocmicaaGreat
namespace Go.Proofs.YteldhjiiocmicaaGreat
open Go Go.RowKit Go.Maps Go.MapKept
set_option linter.unusedVariables false
set_option linter.unusedSimpArgs false
theorem yxC {w:World} {o:Obj} {F G:Nat → World → Prop} (h:al w o F) (k:∀ b w,F b w → G b w):al w o G:=k _ _ h
theorem ykH {P:Program} {s:Sem Value} {w:World} {F G:Option Addr → Nat → Nat → World → Prop} (h:ybC P s w F) (k:∀ a n c w',F a n c w' → G a n c w'):ybC P s w G:=by
 obtain ⟨a,n,c,w',h1,h2⟩:=h
 exact ⟨a,n,c,w',h1,k _ _ _ _ h2⟩
def ycK (w:World) (P:Prop) (S:World → Nat → List Nat → Prop) (v:Value) (w':World):Prop :=
 ∃ (p:Option Addr) (er:Int),v = .tuple #[.pointer p,.int .i64 er] ∧ Mod [] w w' ∧ (er = 0 ↔ P) ∧ (er = 0 → ∃ b F,p = some ⟨b,0,none⟩ ∧ S w' b F ∧ ∀ k ∈ F,w.heap.size ≤ k)
theorem ycK.bad {w w':World} {P:Prop} {S:World → Nat → List Nat → Prop} {er:Int} (he:er ≠ 0) (M:Mod [] w w') (h:¬ P):ycK w P S (.tuple #[.pointer none,.int .i64 er]) w' :=
 ⟨none,er,rfl,M,⟨fun e => absurd e he,fun e => absurd e h⟩,fun e => absurd e he⟩
theorem ycK.good {w w':World} {P:Prop} {S:World → Nat → List Nat → Prop} {b:Nat} {F:List Nat} (M:Mod [] w w') (h:P) (hS:S w' b F) (hF:∀ k ∈ F,w.heap.size ≤ k):ycK w P S (.tuple #[.pointer (some ⟨b,0,none⟩),.int .i64 0]) w' :=
 ⟨_,0,rfl,M,⟨fun _ => h,fun _ => rfl⟩,fun _ => ⟨b,F,rfl,hS,hF⟩⟩
def yII (s:SegS):Prop:=SegOk 64 s ∧ yoW (s.l.map (·.r)) = 0
set_option maxHeartbeats 1000000 in
theorem yBl {w:World} {a:Option Addr} {n c:Nat} {x:SegS} (h:ybF w 5 yjH a n x.l) :
  Calls pP 154 #[.int .i64 x.base,.int .i64 x.next,.slice a n c] w fun e w' => ∃ v,e = .returned v ∧ ycK w (yII x) (fun w' b F => yb5 w' b x.base x.next x.l F) v w':=by
 have hn:=h.1
 refine yIH ?_
 refine (ymT x.base w).mono ?_
 rintro _ _ ⟨rfl,rfl⟩
 refine ⟨_,rfl,yaE (fun g => ?_) fun g => ?_⟩
 ·have g:¬ ygC x.base:=by simpa using g
  exact ycK.bad (by decide) (Mod.refl _) fun hx => g ⟨hx.1.lo,by have:=hx.1.mid; have:=hx.1.hi; omega⟩
 have g1:ygC x.base:=by simpa using g
 refine (ymT x.next _).mono ?_
 rintro _ w7 ⟨rfl,rfl⟩
 refine ⟨_,rfl,yaE (fun g => ?_) fun g => ?_⟩
 ·have g:¬ ygC x.next:=by simpa using g
  exact ycK.bad (by decide) (Mod.refl _) fun hx => g ⟨by have:=hx.1.lo; have:=hx.1.mid; omega,hx.1.hi⟩
 have g2:ygC x.next:=by simpa using g
 refine yaC (fun g => ycK.bad (by decide) (Mod.refl _) fun hx => by have:=hx.1.mid; omega) fun g3 => ?_
 refine yaC (fun g => ycK.bad (by decide) (Mod.refl _) fun hx => by have:=hx.1.len; omega) fun g4 => ?_
 intro b10 f10 w79 A79 hc79
 have l10:=A79.lt b10 (by simp)
 obtain ⟨g5,g6⟩:=g1
 refine yBk (fun mm x9 a n c x40 m0 m1 _ _ _ _ _ _ w' => ∃ (k:Nat) (F:List Nat),x40 = k ∧ k ≤ x.l.length ∧ m0 = x.base ∧ m1 = x.next ∧ yb5 w' b10 x.base x.next (x.l.take k) F ∧ (∀ z ∈ F,w7.heap.size ≤ z) ∧ Row w' w7.heap.size 65 4 ymJ a n c ((x.l.take k).map (·.r)) ∧
   ((∀ f ∈ x.l.take k,x.base ≤ f.off ∧ f.off < x.next ∧ f.off ≤ x9) ∧ (x.l.take k).Pairwise (fun a b => a.off < b.off) ∧ x.base - 1 ≤ x9 ∧ ((k = 0 ∧ x9 = x.base - 1) ∨ ∃ g,x.l[k - 1]? = some g ∧ 0 < k ∧ x9 = g.off)) ∧ Mod [] w7 w' ∧ mm = x.l.length - k) x.l.length
  ⟨0,[b10],rfl,by omega,rfl,rfl,⟨ya8,ya8,hc79,by simp; exact Row.nil ..,by simp [yoV]; exact Row.nil ..,rfl⟩,by simpa using f10,by simp; exact Row.nil ..,⟨by simp,by simp,by rw [yaI (by omega) (by omega)]; omega,.inl ⟨rfl,by rw [yaI (by omega) (by omega)]⟩⟩,A79.mod,rfl⟩ ?_
 rintro mm x9 a1 n1 c1 x40 m0 m1 a2 n2 c2 a3 n3 c3 w1 ⟨k,F,rfl,hk,rfl,rfl,hS,hF,hR,⟨p1,p2,p3,p4⟩,M1,rfl⟩ hcw
 have s1:=M1.size
 have lk1:=yaG hR
 refine yaC (fun hlt => ?_) fun hge => ?_
 ·obtain ⟨f,hf⟩:∃ f,x.l[k]? = some f:=⟨_,List.getElem?_eq_getElem (by omega)⟩
  have hfm:=List.mem_of_getElem? hf
  have hfl:=(List.getElem?_eq_some_iff.1 hf).1
  have hfe:=(List.getElem?_eq_some_iff.1 hf).2
  refine (h.keep0 M1).ix hf fun q hq => yaK (x:=f.off) (by simpa [add_zero] using hq 0 _ rfl) (ybI (x:=f.r.hk) (hq 1 _ rfl) (yaL (x:=f.r.key) (hq 2 _ rfl) (ybI (x:=f.r.tomb) (hq 3 _ rfl) (yaL (x:=f.r.val) (hq 4 _ rfl) ?_))))
  intro b24 f24
  refine yaC (fun g => ?_) fun g7 => ?_
  ·intro w25 A25 _
   refine ycK.bad (by decide) (M1.go0 A25.mod (by simp)) fun hx => ?_
   have:=(hx.1.off f hfm).1
   rcases p4 with ⟨_,e⟩ | ⟨y,hy,h0,e⟩
   ·omega
   ·have hyl:=(List.getElem?_eq_some_iff.1 hy).1
    have hye:=(List.getElem?_eq_some_iff.1 hy).2
    have:=List.pairwise_iff_getElem.1 hx.1.inc (k - 1) k hyl hfl (by omega)
    rw [hfe,hye] at this
    omega
  refine yaC (fun g => ?_) fun g8 => ?_
  ·intro w26 A26 _
   exact ycK.bad (by decide) (M1.go0 A26.mod (by simp)) fun hx => by have:=(hx.1.off f hfm).2; omega
  intro w37 A37 hc37
  have s37:=A37.mod.size
  have l24:=A37.lt b24 (by simp)
  have hS37:=hS.keep0 A37.mod
  refine (ymS hS37 f (by rw [List.length_take]; omega)).mono ?_
  rintro _ w38 ⟨rfl,F',hS',M38,G38⟩
  have s38:=M38.size
  obtain ⟨sl,si,hc38,hL38,hI38,eF⟩:=id hS'
  have hR38:=yAe (hR.keep0 A37.mod) M38 fun z hz cs T' hz' => by rcases hS37.types z hz cs T' hz' with rfl | rfl | rfl <;> decide
  refine ⟨rfl,yaF.of M38 fun z hz hz' hz2 => ?_,_,_,_,_,_,_,_,_,hc38,?_⟩
  ·simp at hz; subst hz
   have:=hS.lt _ hz2; omega
  have lkr:=yaG hR38
  refine yg2 (T:=65) (S:=34) (enc:=ymJ) (y:=f.r) (f:=⟨a1,n1,c1⟩) yJ0 Tryz.underlying34 rfl (by decide) (by decide) hR38 rfl (yxV _) (by simp; omega) (by omega) (fun z hz hz' => ?_) fun a4 c4 w55 hR55 M55 hk55 => ?_
  ·simp at hz
   rcases hz with rfl | rfl
   ·exact yc5 hR38 hc38 (by decide) hz'
   ·have:=(lk1 _ hz').2; omega
  have nF:∀ z ∈ yaN a1,z ∉ F':=fun z hz hz' => by
   obtain ⟨_,_,cur,hcr⟩:=yaP hR38 z hz
   rcases hS'.types z hz' _ _ hcr with h | h | h <;> revert h <;> decide
  have hS55:=hS'.keep M55 nF
  rw [← ybO hf] at hS55
  have ek:IntKind.wrap .i64 ((k:Int) + 1) = ((k + 1:Nat):Int):=by rw [yaI (by omega) (by omega)]; omega
  refine yBj (x.l.length - (k + 1)) (by omega) ⟨k + 1,F',ek,by omega,rfl,rfl,hS55,fun z hz => ?_,by rw [ybO hf,List.map_append]; exact hR55,⟨fun y hy => ?_,?_,by omega,.inr ⟨f,by simpa using hf,by omega,rfl⟩⟩,((M1.go0 A37.mod (by simp)).go0 M38 fun z hz => hF z hz).go0 M55 fun z hz => (lkr z hz).1,rfl⟩
  ·rcases G38 z hz with h1 | h1
   ·exact hF z h1
   ·omega
  ·rw [ybO hf] at hy
   rcases List.mem_append.1 hy with hy | hy
   ·have:=p1 y hy; omega
   ·simp at hy; subst hy; omega
  ·rw [ybO hf,List.pairwise_append]
   refine ⟨p2,by simp,fun y hy z hz => ?_⟩
   simp at hz; subst hz
   have:=(p1 y hy).2.2; omega
 ·have hk:k = x.l.length:=by omega
  subst hk
  rw [List.take_length] at hS hR p1 p2
  refine (yGi (hR.sl yp7) (by simp; omega)).mono ?_
  rintro _ w69 ⟨rfl,M69⟩
  have N69:=M1.go0 M69 (by simp)
  refine ⟨_,rfl,_,_,_,_,_,_,_,_,M69.keep0 hcw,yaE (fun g => ?_) fun g => ?_⟩
  ·have g:yoW (x.l.map (·.r)) ≠ 0:=by simpa using g
   exact ycK.bad g N69 fun hx => g hx.2
  ·have g:yoW (x.l.map (·.r)) = 0:=by simpa using g
   exact ycK.good N69 ⟨⟨g5,by omega,g2.2,by omega,fun f hf => ⟨(p1 f hf).1,(p1 f hf).2.1⟩,p2⟩,g⟩ (hS.keep0 M69) hF
def yrU (room:Int) (L:List SegS):Prop:=LogOk room L ∧ ∀ s ∈ L,yoW (s.l.map (·.r)) = 0
set_option maxHeartbeats 1000000 in
theorem yBm {w:World} {a:Option Addr} {n c:Nat} {l:List SgV} (h:ybF w 3 SgV.cs a n l) (hl:l.length ≤ 1000000) (hf:∀ q ∈ l,ybF w 5 yjH q.s.a q.s.n q.x.l) (room:Int) :
  Calls pP 119 #[.int .i64 room,.slice a n c] w fun e w' => ∃ v,e = .returned v ∧ ycK w (yrU room (l.map (·.x))) (fun w' b F => yc6 w' b room (l.map (·.x)) F) v w':=by
 have hn:=h.1
 refine yIG ?_
 refine (yCx room w).mono ?_
 rintro _ w0 ⟨rfl,rfl⟩
 refine ⟨_,rfl,yaE (fun g => ?_) fun g => ?_⟩
 ·have g:¬ (1 ≤ room ∧ room ≤ 64):=fun h => by simp [h] at g
  exact ycK.bad (by decide) (Mod.refl _) fun hx => g ⟨hx.1.r1,hx.1.r2⟩
 have g1:1 ≤ room ∧ room ≤ 64:=by simpa using g
 refine yaE (fun g => ?_) fun g => ?_
 ·have g:n = 0:=by have:=eq_of_beq g; omega
  exact ycK.bad (by decide) (Mod.refl _) fun hx => hx.1.ne (by
   have:l.length = 0:=by omega
   simpa using this)
 have g2:n ≠ 0:=fun e => by rw [e] at g; simp at g
 intro b6 f6 w64 A64
 have l6:=A64.lt b6 (by simp)
 have s64:=A64.mod.size
 refine yBi (fun mm x a n c w' => ∃ (k:Nat) (qs:List SegV),x = k ∧ k ≤ l.length ∧ Row w' w64.heap.size 78 1 ygF a n c qs ∧ (∀ q ∈ qs,yb5 w' q.p q.s.base q.s.next q.s.l q.F ∧ ∀ z ∈ q.F,w64.heap.size ≤ z) ∧ qs.Pairwise (fun a b => ydN a.F b.F) ∧ (∀ q ∈ qs,∀ z ∈ q.F,z ∉ yaN a) ∧ qs.map (·.s) = (l.take k).map (·.x) ∧
   ((∀ q ∈ l.take k,yII q.x ∧ (q.x.l.length:Int) ≤ room) ∧ ∀ (i:Nat) (p q:SgV),(l.take k)[i]? = some p → (l.take k)[i + 1]? = some q → q.x.base = p.x.next) ∧ b6 < w'.heap.size ∧ Mod [b6] w64 w' ∧ mm = l.length - k) l.length
  ⟨0,[],rfl,by omega,Row.nil ..,by simp,by simp,by simp,rfl,⟨by simp,by simp⟩,l6,(Mod.refl _).less (by simp),rfl⟩ ?_
 rintro mm x a1 n1 c1 w1 ⟨k,qs,rfl,hk,hR,hS,hP,hna,hm,⟨p1,p2⟩,l61,M1,rfl⟩
 have s1:=M1.size
 have hqs:qs.length = k:=by have:=congrArg List.length hm; simp at this; omega
 have N1:Mod [] w0 w1:=A64.mod.go0 M1 (by simpa using f6)
 have lk1:=yaG hR
 have hS1:=fun q hq => (hS q hq).1.lt
 refine yaC (fun hlt => ?_) fun hge => ?_
 ·obtain ⟨y,hy⟩:∃ y,l[k]? = some y:=⟨_,List.getElem?_eq_getElem (by omega)⟩
  have hym:=List.mem_of_getElem? hy
  refine (h.keep0 N1).ix hy fun q hq => yaK (x:=y.x.base) (by simpa [add_zero] using hq 0 _ rfl) (yaK (x:=y.x.next) (hq 1 _ rfl) (yaU (hq 2 _ rfl) ?_))
  intro b20 f20 w25 A25
  have N25:=N1.go0 A25.mod (by simp)
  have s25:=A25.mod.size
  have l20:=A25.lt b20 (by simp)
  refine (yBl ((hf y hym).keep0 N25)).mono ?_
  rintro _ w26 ⟨_,rfl,p,er,rfl,M26,hE,hG⟩
  have N26:=N25.go0 M26 (by simp)
  have s26:=M26.size
  refine ⟨_,_,rfl,yaF.of0 M26,yaE (fun g => ?_) fun g => ?_⟩
  ·have g:er ≠ 0:=by simpa using g
   refine ycK.bad g N26 fun hx => g (hE.2 ⟨?_,hx.2 _ (List.mem_map.2 ⟨y,hym,rfl⟩)⟩)
   have:=hx.1.segs _ (List.mem_map.2 ⟨y,hym,rfl⟩)
   exact { this with len:=by have:=this.len; omega }
  have g:er = 0:=by simpa using g
  subst g
  have hy1:=hE.1 rfl
  obtain ⟨bs,F,rfl,hSb,hFb⟩:=hG rfl
  have hyn:=(hf y hym).1
  refine yaC (fun g => ?_) fun g3 => ?_
  ·intro w29 A29
   exact ycK.bad (by decide) (N26.go0 A29.mod (by simp)) fun hx => by have:=(hx.1.segs _ (List.mem_map.2 ⟨y,hym,rfl⟩)).len; omega
  have ek:IntKind.wrap .i64 ((k:Int) + 1) = ((k + 1:Nat):Int):=by rw [yaI (by omega) (by omega)]; omega
  have M26':Mod [] w1 w26:=A25.mod.go0 M26 (by simp)
  have go:∀ {w40:World},Adv [] [] w26 w40 → (∀ p,0 < k → l[k - 1]? = some p → y.x.base = p.x.next) →
    al w40 (.cells #[.pointer (some ⟨bs,0,none⟩)] 78) fun b41 w42 => ybC pP (Builtin.append_ #[81,81] 81 #[.slice a1 n1 c1,.slice (some ⟨b41,0,none⟩) 1 1]) w42 fun a n c w43 => yaF [b6,b20] w42 w43 ∧ ∀ w47,Adv [b6] [] w43 w47 →
     ∃ (k':Nat) (qs:List SegV),IntKind.wrap .i64 ((k:Int) + 1) = k' ∧ k' ≤ l.length ∧ Row w47 w64.heap.size 78 1 ygF a n c qs ∧ (∀ q ∈ qs,yb5 w47 q.p q.s.base q.s.next q.s.l q.F ∧ ∀ z ∈ q.F,w64.heap.size ≤ z) ∧ qs.Pairwise (fun a b => ydN a.F b.F) ∧ (∀ q ∈ qs,∀ z ∈ q.F,z ∉ yaN a) ∧ qs.map (·.s) = (l.take k').map (·.x) ∧
   ((∀ q ∈ l.take k',yII q.x ∧ (q.x.l.length:Int) ≤ room) ∧ ∀ (i:Nat) (p q:SgV),(l.take k')[i]? = some p → (l.take k')[i + 1]? = some q → q.x.base = p.x.next) ∧ b6 < w47.heap.size ∧ Mod [b6] w64 w47 ∧ l.length - (k + 1) = l.length - k':=by
   intro w40 A40 hch
   have s40:=A40.mod.size
   have K40:Mod [] w1 w40:=M26'.go0 A40.mod (by simp)
   have hR40:=hR.keep0 K40
   have lkr:=yaG hR40
   refine yyI (y:=⟨bs,y.x,F⟩) (f:=⟨a1,n1,c1⟩) hR40 (by omega) (by omega) (fun z hz hz' => ?_) fun a4 c4 w43 hR43 M43 hk43 => ?_
   ·have h1:=lk1 z hz'
    simp at hz; omega
   intro w47 A47
   have s43:=M43.size
   have s47:=A47.mod.size
   have nb6:b6 ∉ yaN a4:=fun hz => by
    rcases hk43 b6 hz with h1 | h1
    ·have:=(lk1 _ h1).1; omega
    ·omega
   have keepS:∀ {q:SegV},yb5 w40 q.p q.s.base q.s.next q.s.l q.F → (∀ z ∈ q.F,w64.heap.size ≤ z) → (∀ z ∈ q.F,z ∉ yaN a1) → yb5 w47 q.p q.s.base q.s.next q.s.l q.F:=fun hq h1 h2 =>
    (hq.keep M43 fun z hz hz' => h2 z hz' hz).keep A47.mod fun z hz hz' => by simp at hz; subst hz; have:=h1 _ hz'; omega
   have hF1:∀ z ∈ F,w1.heap.size ≤ z:=fun z hz => by have:=hFb z hz; omega
   have hnew:yb5 w40 bs y.x.base y.x.next y.x.l F:=hSb.keep0 A40.mod
   refine ⟨k + 1,qs ++ [⟨bs,y.x,F⟩],ek,by omega,yaA hR43 A47.mod (by simpa using nb6),fun q hq => ?_,?_,fun q hq z hz hz' => ?_,?_,⟨fun q hq => ?_,fun i p q hp hq => ?_⟩,by omega,((M1.trans (K40.trans M43)).trans A47.mod).less fun z hz hl => ?_,rfl⟩
   ·rcases List.mem_append.1 hq with hq | hq
    ·exact ⟨keepS ((hS q hq).1.keep0 K40) (hS q hq).2 (hna q hq),(hS q hq).2⟩
    ·simp at hq; subst hq
     exact ⟨keepS (q:=⟨bs,y.x,F⟩) hnew (fun z hz => by have:=hF1 z hz; omega) fun z hz hz' => by have:=hF1 z hz; have:=(lk1 z hz').2; omega,fun z hz => by have:=hF1 z hz; omega⟩
   ·refine List.pairwise_append.2 ⟨hP,by simp,fun q hq q' hq' z hz hz' => ?_⟩
    simp at hq'; subst hq'
    have:=hS1 q hq z hz; have:=hF1 z hz'; omega
   ·rcases hk43 z hz' with h1 | h1
    ·rcases List.mem_append.1 hq with hq | hq
     ·exact hna q hq z hz h1
     ·simp at hq; subst hq
      have:=hF1 z hz; have:=(lk1 z h1).2; omega
    ·rcases List.mem_append.1 hq with hq | hq
     ·have:=hS1 q hq z hz; omega
     ·simp at hq; subst hq
      have:=hnew.lt z hz; omega
   ·rw [ybO hy,List.map_append,List.map_append,hm]; rfl
   ·rw [ybO hy] at hq
    rcases List.mem_append.1 hq with hq | hq
    ·exact p1 q hq
    ·simp at hq; subst hq
     exact ⟨hy1,by omega⟩
   ·rw [List.getElem?_take] at hp hq
    split at hp <;> split at hq <;> try cases hq
    ·rcases Nat.lt_or_ge (i + 1) k with h1 | h1
     ·exact p2 i p q (by rw [List.getElem?_take,if_pos (by omega)]; exact hp) (by rw [List.getElem?_take,if_pos h1]; exact hq)
     ·have:i + 1 = k:=by omega
      subst this
      rw [hy] at hq; cases hq
      exact hch p (by omega) (by simpa using hp)
    ·cases hp
   ·simp only [List.mem_append,List.nil_append] at hz
    rcases hz with (hz | hz) | hz
    ·exact hz
    ·have:=(lk1 z hz).1; omega
    ·exact hz
  refine yaC (fun g4 => ?_) fun g4 => ?_
  ·have ek2:IntKind.wrap .i64 ((k:Int) - 1) = ((k - 1:Nat):Int):=by rw [yaI (by omega) (by omega)]; omega
   rw [ek2]
   obtain ⟨p,hp⟩:∃ p,l[k - 1]? = some p:=⟨_,List.getElem?_eq_getElem (by omega)⟩
   refine (h.keep0 N26).ix hp fun q hq => yaK (x:=p.x.next) (hq 1 _ rfl) (yaE (fun g5 => ?_) fun g5 => ?_)
   ·have g5:y.x.base ≠ p.x.next:=by simpa using g5
    intro w32 A32
    refine ycK.bad (by decide) (N26.go0 A32.mod (by simp)) fun hx => g5 ?_
    exact hx.1.chain (k - 1) _ _ (by rw [List.getElem?_map,hp]; rfl) (by rw [show k - 1 + 1 = k by omega,List.getElem?_map,hy]; rfl)
   ·have g5:y.x.base = p.x.next:=by simpa using g5
    intro w40 A40
    refine yxC (go A40 fun p' _ hp' => by rw [hp] at hp'; cases hp'; exact g5) fun b w h => ?_
    refine ykH h fun a n c w' h => ⟨h.1,fun w47 A47 => ypL (l.length - (k + 1)) (by omega) (h.2 w47 A47)⟩
  ·intro w55 A55
   refine yxC (go A55 fun p' h0 _ => by omega) fun b w h => ?_
   refine ykH h fun a n c w' h => ⟨h.1,fun w47 A47 => ypL (l.length - (k + 1)) (by omega) (h.2 w47 A47)⟩
 ·have hk:k = l.length:=by omega
  subst hk
  rw [List.take_length] at hm p1 p2
  intro w63 A63 hc63
  have N63:=N1.go0 A63.mod (by simp)
  refine ycK.good (F:=b6 :: (yaN a1 ++ qs.flatMap (·.F))) N63 ⟨⟨fun e => ?_,g1.1,g1.2,fun s hs => ?_,fun i s t hs ht => ?_⟩,fun s hs => ?_⟩ ⟨⟨a1,n1,c1⟩,qs,hc63,(hR.keep0 A63.mod).rebase (Nat.zero_le _),fun q hq => (hS q hq).1.keep0 A63.mod,hP,hm.symm,rfl⟩ fun z hz => ?_
  ·have:l = []:=by simpa using e
   subst this; simp at hn; omega
  ·obtain ⟨q,hq,rfl⟩:=List.mem_map.1 hs
   exact { (p1 q hq).1.1 with len:=(p1 q hq).2 }
  ·rw [List.getElem?_map] at hs ht
   obtain ⟨p,hp,rfl⟩:=Option.map_eq_some_iff.1 hs
   obtain ⟨q,hq,rfl⟩:=Option.map_eq_some_iff.1 ht
   exact p2 i p q hp hq
  ·obtain ⟨q,hq,rfl⟩:=List.mem_map.1 hs
   exact (p1 q hq).1.2
  ·simp only [List.mem_cons,List.mem_append,List.mem_flatMap] at hz
   rcases hz with rfl | hz | ⟨q,hq,hz⟩
   ·exact f6
   ·have:=(lk1 z hz).1; omega
   ·have:=(hS q hq).2 z hz; omega
end Go.Proofs.YteldhjiiocmicaaGreat
namespace Go.Proofs.YteldhjiiocmicaaGreat
open Go Go.RowKit
set_option linter.all false
section
set_option maxRecDepth 100000
variable {R:VWP} {w w0:World} {m:Nat} {i0 i1 i2 i3 i4 i5 i6 i7 i8 i9 j0 j1 j2 j3 j4 j5 j6 j7 j8 j9 k0 k1 k2 k3 k4 k5 k6 k7 k8 k9 l0 l1 l2 l3 l4 l5 l6 l7 l8 l9:Int} {s0 s1 s2 s3 s4 s5 s6 s7 s8 s9 t0 t1 t2 t3 t4 t5 t6 t7 t8 t9:BA} {n0 n1 n2 n3 n4 n5 n6 n7 n8 n9 o0 o1 o2 o3 o4 o5 o6 o7 o8 o9 p0 p1 p2 p3 p4 p5 p6 p7 p8 p9:Nat} {q0 q1 q2 q3 q4 q5 q6 q7 q8 q9 r0 r1 r2 r3 r4 r5 r6 r7 r8 r9:OA} {B0 B1 B2 B3 B4 B5 B6 B7 B8 B9:Bool} {M0 M1 M2 M3:Option Nat} {V0 V1 V2 V3 V4 V5:Value} {A0 A1 A2:Addr}
theorem yIJ (h :
 Calls pP 157 #[.slice q0 n0 n1,(.func (.func 124) #[] #[])] w fun e w3 => ∃ x4,e = .returned (.int .i64 x4) ∧
 R (.bool (decide (x4 ≥ 0))) w3) :
 CR pP 123 #[.slice q0 n0 n1,(.func (.func 124) #[] #[])] w R :=
 yaB Tryz.wide_mixed (an:=[]) Tryz.func123 rfl rfl (by kernel_rfl) rfl (Eq.mpr (by kernel_rfl) h)
def yrV:LA:=⟨[0,0,1,0,1],[0,1,7,8],[],0,[]⟩
def yrW:List LA:=[yrV]
abbrev yHa:=dnF pP yrW (code Tryz.f157)
abbrev yM4:=yaR pP yrW (code Tryz.f157)
abbrev yHb (p:List Nat) (K:List Kh) (R:VWP):=yaR pP yrW (code Tryz.f157) p K (ybE pP Tryz.f157 [] R)
def ykI (a0:OA) (a2 a1:Nat) (a3:Int):Int → List Value × List TB:=fun a4 => ([.slice a0 a2 a1,(.func (.func 124) #[] #[]),.int .i64 a3,.int .i64 a4],[])
abbrev yEB (a0:OA) (a2 a1:Nat) (a3:Int) (I:Nat → Int → World → Prop) (m:Nat):Kh:=KG (ykI a0 a2 a1 a3) (U1 I) m
theorem yBn {I:Nat → Int → World → Prop} (m':Nat) (h1:m' < m) (h2:I m' i1 w):KS (yEB q0 n0 n1 i0 I m) (ykI q0 n0 n1 i0 i1) w:=⟨m',h1,_,rfl,rfl,h2⟩
theorem yBo {a1:OA} (I:Nat → Int → World → Prop) (m0:Nat) (h0:I m0 i1 w0)
 (hr:∀ m a0 w,I m a0 w →
 brB (decide (a0 < i0)) (
 ixA a1 n0 a0 1 fun q5 =>
 ya1 .i64 w q5 fun x6 =>
 Calls pP 124 #[.int .i64 x6] w fun e w7 => ∃ t8,e = .returned (.bool t8) ∧
 brB t8 (
 R (.int .i64 a0) w7)
 (
 KS (yEB a1 n0 n1 i0 I m) (ykI a1 n0 n1 i0 (IntKind.wrap .i64 (a0 + 1))) w7))
 (
 R (.int .i64 (-1)) w)) :
 yaO yrV (yHa 397 [0,0,1,0,1]) (yHb [1,0,1,0] [] R) (ykI a1 n0 n1 i0 i1) w0 :=
 lrule (ykI a1 n0 n1 i0) (U1 I) h0 (by rintro m a0 w h; exact ⟨by kernel_rfl,by kernel_rfl,fun js => Eq.mpr (by kernel_rfl) (hr m a0 w h)⟩)
theorem yIK (h :
 yaO yrV (yHa 397 [0,0,1,0,1]) (yHb [1,0,1,0] [] R) (ykI q0 n0 n1 (n0:Int) 0) w) :
 CR pP 157 #[.slice q0 n0 n1,(.func (.func 124) #[] #[])] w R :=
 yaB Tryz.wide_mixed (an:=yrW) Tryz.func157 rfl rfl (by kernel_rfl) rfl (Eq.mpr (by kernel_rfl) h)
theorem yIL (h :
 Calls pP 128 #[.slice q0 n0 n1,(.func (.func 64) #[] #[(.pointer (some A0))])] w fun e w3 => ∃ x4,e = .returned (.int .i64 x4) ∧
 R (.bool (decide (x4 ≥ 0))) w3) :
 CR pP 63 #[.slice q0 n0 n1,(.func (.func 64) #[] #[(.pointer (some A0))])] w R :=
 yaB Tryz.wide_mixed (an:=[]) Tryz.func63 rfl rfl (by kernel_rfl) rfl (Eq.mpr (by kernel_rfl) h)
def yrX:LA:=⟨[0,0,1,0,1],[0,1,7,8],[],0,[]⟩
def yrY:List LA:=[yrX]
abbrev yHc:=dnF pP yrY (code Tryz.f128)
abbrev yM5:=yaR pP yrY (code Tryz.f128)
abbrev yHd (p:List Nat) (K:List Kh) (R:VWP):=yaR pP yrY (code Tryz.f128) p K (ybE pP Tryz.f128 [] R)
def ykJ (a1:OA) (a3 a2:Nat) (a0:Addr) (a4:Int):Int → List Value × List TB:=fun a5 => ([.slice a1 a3 a2,(.func (.func 64) #[] #[(.pointer (some a0))]),.int .i64 a4,.int .i64 a5],[])
abbrev yEC (a1:OA) (a3 a2:Nat) (a0:Addr) (a4:Int) (I:Nat → Int → World → Prop) (m:Nat):Kh:=KG (ykJ a1 a3 a2 a0 a4) (U1 I) m
theorem yBp {I:Nat → Int → World → Prop} (m':Nat) (h1:m' < m) (h2:I m' i1 w):KS (yEC q0 n0 n1 A0 i0 I m) (ykJ q0 n0 n1 A0 i0 i1) w:=⟨m',h1,_,rfl,rfl,h2⟩
theorem yBq (I:Nat → Int → World → Prop) (m0:Nat) (h0:I m0 i1 w0)
 (hr:∀ m a1 w,I m a1 w →
 brB (decide (a1 < i0)) (
 ixA q0 n0 a1 5 fun a4 =>
 ya1 .i64 w a4 fun b4 => ya1 .i64 w (Addr.add a4 1) fun b5 => ya7 w (Addr.add a4 2) fun b3 => ya1 .i64 w (Addr.add a4 3) fun b6 => ya2 w (Addr.add a4 4) fun b0 b2 b1 =>
 Calls pP 64 #[(.agg (Z11 b4 b5 b3 b6 b0 b2 b1)),(.pointer (some A0))] w fun e a9 => ∃ a8,e = .returned (.bool a8) ∧
 brB a8 (
 R (.int .i64 a1) a9)
 (
 KS (yEC q0 n0 n1 A0 i0 I m) (ykJ q0 n0 n1 A0 i0 (IntKind.wrap .i64 (a1 + 1))) a9))
 (
 R (.int .i64 (-1)) w)) :
 yaO yrX (yHc 397 [0,0,1,0,1]) (yHd [1,0,1,0] [] R) (ykJ q0 n0 n1 A0 i0 i1) w0 :=
 lrule (ykJ q0 n0 n1 A0 i0) (U1 I) h0 (by rintro m a1 w h; exact ⟨by kernel_rfl,by kernel_rfl,fun js => Eq.mpr (by kernel_rfl) (hr m a1 w h)⟩)
theorem yIM (h :
 yaO yrX (yHc 397 [0,0,1,0,1]) (yHd [1,0,1,0] [] R) (ykJ q0 n0 n1 A0 (n0:Int) 0) w) :
 CR pP 128 #[.slice q0 n0 n1,(.func (.func 64) #[] #[(.pointer (some A0))])] w R :=
 yaB Tryz.wide_mixed (an:=yrY) Tryz.func128 rfl rfl (by kernel_rfl) rfl (Eq.mpr (by kernel_rfl) h)
theorem yIN (h :
 Calls pP 130 #[.slice q0 n0 n1,(.func (.func 67) #[] #[(.pointer (some A0))])] w fun e w3 => ∃ x4,e = .returned (.int .i64 x4) ∧
 R (.bool (decide (x4 ≥ 0))) w3) :
 CR pP 66 #[.slice q0 n0 n1,(.func (.func 67) #[] #[(.pointer (some A0))])] w R :=
 yaB Tryz.wide_mixed (an:=[]) Tryz.func66 rfl rfl (by kernel_rfl) rfl (Eq.mpr (by kernel_rfl) h)
def yrZ:LA:=⟨[0,0,1,0,1],[0,1,7,8],[],0,[]⟩
def yr0:List LA:=[yrZ]
abbrev yHe:=dnF pP yr0 (code Tryz.f130)
abbrev yM6:=yaR pP yr0 (code Tryz.f130)
abbrev yHf (p:List Nat) (K:List Kh) (R:VWP):=yaR pP yr0 (code Tryz.f130) p K (ybE pP Tryz.f130 [] R)
def ykK (a1:OA) (a3 a2:Nat) (a0:Addr) (a4:Int):Int → List Value × List TB:=fun a5 => ([.slice a1 a3 a2,(.func (.func 67) #[] #[(.pointer (some a0))]),.int .i64 a4,.int .i64 a5],[])
abbrev yED (a1:OA) (a3 a2:Nat) (a0:Addr) (a4:Int) (I:Nat → Int → World → Prop) (m:Nat):Kh:=KG (ykK a1 a3 a2 a0 a4) (U1 I) m
theorem yBr {I:Nat → Int → World → Prop} (m':Nat) (h1:m' < m) (h2:I m' i1 w):KS (yED q0 n0 n1 A0 i0 I m) (ykK q0 n0 n1 A0 i0 i1) w:=⟨m',h1,_,rfl,rfl,h2⟩
theorem yBs {a2:OA} (I:Nat → Int → World → Prop) (m0:Nat) (h0:I m0 i1 w0)
 (hr:∀ m a1 w,I m a1 w →
 brB (decide (a1 < i0)) (
 ixA a2 n0 a1 4 fun q8 =>
 ya7 w q8 fun s9 => ya7 w (Addr.add q8 1) fun a9 => ya1 .i64 w (Addr.add q8 2) fun b0 => ya1 .i64 w (Addr.add q8 3) fun b1 =>
 Calls pP 67 #[(.agg (Z6 s9 a9 b0 b1)),(.pointer (some A0))] w fun e a8 => ∃ a7,e = .returned (.bool a7) ∧
 brB a7 (
 R (.int .i64 a1) a8)
 (
 KS (yED a2 n0 n1 A0 i0 I m) (ykK a2 n0 n1 A0 i0 (IntKind.wrap .i64 (a1 + 1))) a8))
 (
 R (.int .i64 (-1)) w)) :
 yaO yrZ (yHe 397 [0,0,1,0,1]) (yHf [1,0,1,0] [] R) (ykK a2 n0 n1 A0 i0 i1) w0 :=
 lrule (ykK a2 n0 n1 A0 i0) (U1 I) h0 (by rintro m a1 w h; exact ⟨by kernel_rfl,by kernel_rfl,fun js => Eq.mpr (by kernel_rfl) (hr m a1 w h)⟩)
theorem yIO (h :
 yaO yrZ (yHe 397 [0,0,1,0,1]) (yHf [1,0,1,0] [] R) (ykK q0 n0 n1 A0 (n0:Int) 0) w) :
 CR pP 130 #[.slice q0 n0 n1,(.func (.func 67) #[] #[(.pointer (some A0))])] w R :=
 yaB Tryz.wide_mixed (an:=yr0) Tryz.func130 rfl rfl (by kernel_rfl) rfl (Eq.mpr (by kernel_rfl) h)
end
end Go.Proofs.YteldhjiiocmicaaGreat
namespace Go.Proofs.YteldhjiiocmicaaGreat
open Go Go.RowKit Go.Maps Go.MapKept Go.Sort Go.Shelf
set_option linter.unusedVariables false
set_option linter.unusedSimpArgs false
theorem ye4 {P:Program} {s:Sem Unit} {w:World} {F G:World → Prop} (h:ydM P s w F) (k:∀ w',F w' → G w'):ydM P s w G:=by
 obtain ⟨w',h1,h2⟩:=h
 exact ⟨w',h1,k _ h2⟩
theorem yr1 {k:Nat} (h:0 < k) (hk:k ≤ 1000001):IntKind.wrap .i64 ((k:Int) - 1) = ((k - 1:Nat):Int):=by rw [yaI (by omega) (by omega)]; omega
theorem ye5 {k:Nat} (hk:k ≤ 1000001):IntKind.wrap .i64 ((k:Int) + 1) = ((k + 1:Nat):Int):=by rw [yaI (by omega) (by omega)]; omega
def gL (l:List PSeat):GL:=l.map fun x => (x.name,x)
def yFU (gen:Int) (l:List PSeat):Prop:=l.length ≤ 8 ∧ num gen = true ∧ l.all ycE = true ∧ ybB (l.map (·.name)) = true
set_option maxHeartbeats 1000000 in
theorem yBt {w:World} {a:Option Addr} {n c:Nat} {l:List SeatV} (h:ybF w 4 ydV a n l) (ht:∀ q ∈ l,ybF w 1 yc8 q.ts.a q.ts.n q.x.topics ∧ q.x.topics.length ≤ 1000000) (gen:Int) (robin:Bool) :
  Calls pP 121 #[.int .i64 gen,.bool robin,.slice a n c] w fun e w' => ∃ v,e = .returned v ∧ ycK w (yFU gen (l.map (·.x))) (fun w' b F => ycP w' b gen robin (gL (l.map (·.x))) F) v w':=by
 have hn:=h.1
 refine yIF ?_
 refine yaC (fun g => ycK.bad (by decide) (Mod.refl _) fun hx => by have:=hx.1; simp at this; omega) fun g0 => ?_
 refine (yqI gen w).mono ?_
 rintro _ w3 ⟨rfl,rfl⟩
 refine ⟨_,rfl,yaE (fun g => ycK.bad (by decide) (Mod.refl _) fun hx => ?_) fun g => ?_⟩
 ·have:=hx.2.1; rw [this] at g; cases g
 have g1:num gen = true:=by simpa using g
 refine (ytZ w3).mono ?_
 rintro _ w7 ⟨_,rfl,b,F,rfl,⟨m,L,hc,hm,hT,eL,rfl⟩,hF,M7⟩
 refine ⟨_,rfl,ya6 (yeY hc (by simp [yhH]) (by simp) fun w14 hc14 M14 => ya6 (yeY (o:=1) hc14 (by simp [yhH]) (by simp [ybJ]) fun w16 hc16 M16 => ?_))⟩
 have hc16:w16.heap[b]? = some (.cells #[.int .i64 gen,.bool robin,.map (some m)] 190):=by simpa [ybJ] using hc16
 have fb:=hF b (by simp)
 have fm:=hF m (by simp)
 have hmb:m ≠ b:=by rintro rfl; exact hm.notCells hc
 have M16':Mod [b] w7 w16:=(M14.trans M16).less fun z hz _ => by simpa using hz
 have eL0:L = []:=by simpa [yaT] using eL.symm
 subst eL0
 have N16:Mod [] w3 w16:=M7.go0 M16' (by simpa using fb)
 refine yBh (fun mm x w' => ∃ (k:Nat) (L:SL),x = k ∧ k ≤ l.length ∧ w'.heap[b]? = some (.cells #[.int .i64 gen,.bool robin,.map (some m)] 190) ∧ yaS pP 9 hks SeatV.v w' m L ∧ (∀ q ∈ L,Row w' w3.heap.size 9 1 yc8 q.2.ts.a q.2.ts.n q.2.ts.c q.2.x.topics) ∧ yaT L = gL ((l.take k).map (·.x)) ∧ ((l.take k).map (·.x)).all ycE = true ∧ ybB ((l.take k).map (·.x.name)) = true ∧ Mod [] w3 w' ∧ mm = l.length - k) l.length
  ⟨0,[],rfl,by omega,hc16,hm.keepM M16' (by simpa using hmb),by simp,rfl,by simp,by simp [ybB],N16,rfl⟩ ?_
 rintro mm x w1 ⟨k,L,rfl,hk,hc1,hm1,hT1,eL,hall,hris,M1,rfl⟩
 refine yaC (fun hlt => ?_) fun hge => ?_
 ·obtain ⟨y,hy⟩:∃ y,l[k]? = some y:=⟨_,List.getElem?_eq_getElem (by omega)⟩
  have hym:=List.mem_of_getElem? hy
  have hyx:(l.map (·.x))[k]? = some y.x:=by simp [hy]
  refine (h.keep0 M1).ix hy fun q hq => yaL (x:=y.x.name) (by simpa [add_zero] using hq 0 _ rfl) (yaU (hq 1 _ rfl) (yaK (x:=y.x.tmo) (hq 2 _ rfl) (yaK (x:=y.x.seen) (hq 3 _ rfl) ?_)))
  intro b32 f32 w33 A33
  have l32:=A33.lt b32 (by simp)
  have N33:=M1.go0 A33.mod (by simp)
  refine (yDp y.x ((ht y hym).1.keep0 N33) (ht y hym).2).mono ?_
  rintro _ w34 ⟨rfl,M34⟩
  have N34:=N33.go0 M34 (by simp)
  have K34:Mod [] w1 w34:=A33.mod.go0 M34 (by simp)
  refine ⟨_,rfl,yaF.of0 M34,yaE (fun g => ?_) fun g => ?_⟩
  ·have g:ycE y.x = false:=by simpa using g
   refine ycK.bad (by decide) N34 fun hx => ?_
   have:=List.all_eq_true.1 hx.2.2.1 y.x (List.mem_map.2 ⟨y,hym,rfl⟩)
   rw [g] at this; cases this
  have g:ycE y.x = true:=by simpa using g
  have hsz:y.x.name.size ≤ maxLen:=by
   have:ybQ y.x.name = true:=by simp only [ycE,Bool.and_eq_true] at g; exact g.2.1
   have:=yc2 this
   unfold maxLen; omega
  have em:∀ j,(l.take j).map (·.x.name) = (l.map (·.x.name)).take j:=fun j => List.map_take ..
  have hyn:(l.map (·.x.name))[k]? = some y.x.name:=by simp [hy]
  refine yaC (fun g2 => ?_) fun g2 => ?_
  case' refine_1 =>
   rw [yr1 (by omega) (by omega)]
   obtain ⟨p,hp⟩:∃ p,l[k - 1]? = some p:=⟨_,List.getElem?_eq_getElem (by omega)⟩
   refine (h.keep0 N34).ix hp fun q hq => yaL (x:=p.x.name) (by simpa [add_zero] using hq 0 _ rfl) ?_
   have hrt:=ye1 (l:=l.map (·.x.name)) (k:=k - 1) (x:=p.x.name) (y:=y.x.name) (by simp [hp]) (by rw [show k - 1 + 1 = k by omega]; exact hyn)
   rw [show k - 1 + 2 = k + 1 by omega,show k - 1 + 1 = k by omega,← em,← em,hris,Bool.true_and] at hrt
   rw [yd9]
   refine yaE (fun g3 => ?_) fun g3 => ?_
   ·have g3:yb8 p.x.name y.x.name = false:=by simpa using g3
    refine ycK.bad (by decide) N34 fun hx => ?_
    have:=yhB (k:=k + 1) hx.2.2.2
    rw [List.map_map,show ((fun q:PSeat => q.name) ∘ fun q:SeatV => q.x) = fun q:SeatV => q.x.name from rfl,← em,hrt,g3] at this
    cases this
   have hr':ybB ((l.take (k + 1)).map (·.x.name)) = true:=by rw [hrt]; simpa using g3
  case' refine_2 =>
   have hr':ybB ((l.take (k + 1)).map (·.x.name)) = true:=by
    have:k = 0:=by omega
    subst this
    rw [ybO hy]; simp [ybB]
  all_goals
   refine ya6 ?_
   intro w39 A39
   have N39:=N34.go0 A39.mod (by simp)
   have K39:=K34.go0 A39.mod (by simp)
   refine yb2 (x:=some m) (by rw [show (Addr.add ⟨b,0,none⟩ 2) = ⟨b,2,none⟩ from rfl,yaM (K39.keep0 hc1)]; rfl) ?_
   refine (ywI y.x ((ht y hym).1.keep0 N39) (ht y hym).2).mono ?_
   rintro _ w41 ⟨_,rfl,t',rfl,hR,M41⟩
   have N41:=N39.go0 M41 (by simp)
   have K41:=K39.go0 M41 (by simp)
   have s39:=K39.size
   have s1:=M1.size
   refine ⟨_,_,_,_,_,_,rfl,yaF.of0 M41,rfl,yb2 (x:=some m) (by rw [show (Addr.add ⟨b,0,none⟩ 2) = ⟨b,2,none⟩ from rfl,yaM (K41.keep0 hc1)]; rfl) rfl,?_⟩
   refine (hm1.keepM0 K41).setU (k:=y.x.name) ydT ybH Tryz.underlying188 (v:=(⟨y.x,t'⟩:SeatV)) (ybK hsz) (by have:=hm1.lt; simp; omega) fun w49 hm49 M49 => ?_
   have e1:l.take (k + 1) = l.take k ++ [y]:=ybO hy
   have hnone:lkp L y.x.name = none:=by
    refine yc1.2 fun p hp hpk => ?_
    have hp':(p.1,p.2.x) ∈ gL ((l.take k).map (·.x)):=by rw [← eL]; exact List.mem_map.2 ⟨p,hp,rfl⟩
    obtain ⟨z,hz,e⟩:=List.mem_map.1 hp'
    have hnd:=yj3 hr'
    rw [e1,List.map_append,List.nodup_append] at hnd
    obtain ⟨u,hu,rfl⟩:=List.mem_map.1 hz
    exact hnd.2.2 _ (List.mem_map.2 ⟨u,hu,rfl⟩) y.x.name (by simp) ((congrArg Prod.fst e).trans hpk)
   rw [ycB hnone] at hm49
   rw [ye5 (by omega)]
   refine yBg (l.length - (k + 1)) (by omega) ⟨k + 1,_,rfl,by omega,M49.keep (K41.keep0 hc1) (by simp; exact fun e => hmb e.symm),hm49,fun q hq => ?_,?_,?_,hr',N41.go0 M49 (by simpa using fm),rfl⟩
   ·have kp:∀ {r:SeatV},Row w41 w3.heap.size 9 1 yc8 r.ts.a r.ts.n r.ts.c r.x.topics → Row w49 w3.heap.size 9 1 yc8 r.ts.a r.ts.n r.ts.c r.x.topics:=fun hh => yaA hh M49 fun z hz hz' => by
     simp at hz; subst hz
     obtain ⟨_,_,cur,hcr⟩:=yaP hh _ hz'
     exact (hm1.keepM0 K41).notCells hcr
    rcases List.mem_append.1 hq with hq | hq
    ·exact kp ((hT1 q hq).keep0 K41)
    ·simp at hq; subst hq
     exact kp (r:=⟨y.x,t'⟩) (hR.rebase (by omega))
   ·rw [e1,List.map_append,gL,List.map_append,← gL,← eL]; simp [yaT]
   ·rw [e1,List.map_append,List.all_append,hall]; simp [g]
 ·have hk:k = l.length:=by omega
  subst hk
  rw [List.take_length] at hall hris eL
  refine ycK.good (F:=b :: m :: L.flatMap fun q => yaN q.2.ts.a) M1 ⟨by simp; omega,g1,hall,by rw [List.map_map]; exact hris⟩ ⟨m,L,hc1,hm1,fun q hq => (hT1 q hq).rebase (Nat.zero_le _),eL.symm,rfl⟩ fun z hz => ?_
  simp only [List.mem_cons,List.mem_flatMap] at hz
  rcases hz with rfl | rfl | ⟨q,hq,hz⟩
  ·exact fb
  ·exact fm
  ·exact (yaG (hT1 q hq) z hz).1
def yzS (d:PDid):Bool:=num d.seq && (decide (1 ≤ d.n) && (num d.n && num d.off))
def yxD (l:List PDid):Prop:=1 ≤ l.length ∧ l.length ≤ 5 ∧ (∀ d ∈ l,yzS d = true) ∧ ∀ (i:Nat) (d e:PDid),l[i]? = some d → l[i + 1]? = some e → e.seq = d.seq + d.n
theorem yFV {l:List PDid} {k:Nat} {d:PDid} (hk:0 < k) (hd:l[k - 1]? = some d) (hb:yzS d = true):yHS (l.take k) = d.seq + d.n:=by
 have hl:=(List.getElem?_eq_some_iff.1 hd).1
 unfold yHS
 rw [List.length_take,show min k l.length = k by omega,List.getElem?_take,if_pos (by omega),hd]
 simp only [yzS,num,Bool.and_eq_true,decide_eq_true_eq] at hb
 exact yaI (by omega) (by omega)
set_option maxHeartbeats 1000000 in
theorem yEE {w:World} {a:Option Addr} {n c:Nat} {l:List PDid} (h:ybF w 3 yjZ a n l) (hc:n ≤ c) :
  Calls pP 127 #[.slice a n c] w fun e w' => ∃ v,e = .returned v ∧ ∃ t:Bool,v = .bool t ∧ (t = true ↔ yxD l) ∧ Mod [] w w':=by
 have hn:=h.1
 have bad:∀ {w':World},Mod [] w w' → ¬ yxD l → ∃ t:Bool,Value.bool false = .bool t ∧ (t = true ↔ yxD l) ∧ Mod [] w w':=fun M hx => ⟨false,rfl,⟨fun e => (by cases e),fun e => absurd e hx⟩,M⟩
 refine yIB ?_
 refine yaE (fun g => ?_) fun g => ?_
 ·have g:n = 0:=by have:=eq_of_beq g; omega
  exact bad (Mod.refl _) fun hx => by have:=hx.1; omega
 have g0:n ≠ 0:=fun e => by rw [e] at g; simp at g
 refine yaC (fun g => bad (Mod.refl _) fun hx => by have:=hx.2.1; omega) fun g1 => ?_
 refine yBb (fun mm x w' => ∃ k:Nat,x = k ∧ k ≤ l.length ∧ ((∀ d ∈ l.take k,yzS d = true) ∧ ∀ (i:Nat) (d e:PDid),(l.take k)[i]? = some d → (l.take k)[i + 1]? = some e → e.seq = d.seq + d.n) ∧ Mod [] w w' ∧ mm = l.length - k) l.length
  ⟨0,rfl,by omega,⟨by simp,by simp⟩,Mod.refl _,rfl⟩ ?_
 rintro mm x w1 ⟨k,rfl,hk,⟨p1,p2⟩,M1,rfl⟩
 refine yaC (fun hlt => ?_) fun hge => ?_
 ·obtain ⟨d,hd⟩:∃ d,l[k]? = some d:=⟨_,List.getElem?_eq_getElem (by omega)⟩
  have hdm:=List.mem_of_getElem? hd
  have no:¬ yzS d = true → ¬ yxD l:=fun hx hr => hx (hr.2.2.1 d hdm)
  refine (h.keep0 M1).ix hd fun q hq => yaK (x:=d.seq) (by simpa [add_zero] using hq 0 _ rfl) (yaK (x:=d.n) (hq 1 _ rfl) (yaK (x:=d.off) (hq 2 _ rfl) ?_))
  intro b10 f10 w11 A11
  have N11:=M1.go0 A11.mod (by simp)
  refine (ym0 d.seq w11).mono ?_
  rintro _ _ ⟨rfl,rfl⟩
  refine ⟨_,rfl,yaF.of0 (Mod.refl _),yaE (fun g => bad N11 (no fun hb => ?_)) fun g2 => ?_⟩
  ·simp only [yzS,Bool.and_eq_true] at hb; rw [hb.1] at g; cases g
  refine yaC (fun g => bad N11 (no fun hb => ?_)) fun g3 => ?_
  ·simp only [yzS,Bool.and_eq_true,decide_eq_true_eq] at hb; omega
  refine (ym0 d.n _).mono ?_
  rintro _ _ ⟨rfl,rfl⟩
  refine ⟨_,rfl,yaF.of0 (Mod.refl _),yaE (fun g => bad N11 (no fun hb => ?_)) fun g4 => ?_⟩
  ·simp only [yzS,Bool.and_eq_true] at hb; rw [hb.2.2.1] at g; cases g
  refine (ym0 d.off _).mono ?_
  rintro _ w16 ⟨rfl,rfl⟩
  refine ⟨_,rfl,yaF.of0 (Mod.refl _),yaE (fun g => bad N11 (no fun hb => ?_)) fun g5 => ?_⟩
  ·simp only [yzS,Bool.and_eq_true] at hb; rw [hb.2.2.2] at g; cases g
  have hdb:yzS d = true:=by
   simp only [yzS,Bool.and_eq_true,decide_eq_true_eq]
   exact ⟨by simpa using g2,by omega,by simpa using g4,by simpa using g5⟩
  have q1:∀ y ∈ l.take (k + 1),yzS y = true:=fun y hy => by
   rw [ybO hd] at hy
   rcases List.mem_append.1 hy with hy | hy
   ·exact p1 y hy
   ·simp at hy; subst hy; exact hdb
  rw [ye5 (by omega)]
  refine yaC (fun g6 => ?_) fun g6 => ?_
  ·refine yp6 ((h.keep0 N11)) (by omega) hc fun a' c' hs => ?_
   refine (yGo hs (by rw [List.length_take]; omega)).mono ?_
   rintro _ w21 ⟨rfl,M21⟩
   have N21:=N11.go0 M21 (by simp)
   obtain ⟨p,hp⟩:∃ p,l[k - 1]? = some p:=⟨_,List.getElem?_eq_getElem (by omega)⟩
   have hpb:yzS p = true:=p1 p (List.mem_of_getElem? (i:=k - 1) (by rw [List.getElem?_take,if_pos (by omega)]; exact hp))
   rw [yFV (by omega) hp hpb]
   refine ⟨_,rfl,yaF.of0 M21,rfl,yaE (fun g => bad N21 fun hx => ?_) fun g7 => ?_⟩
   ·have:=hx.2.2.2 (k - 1) p d hp (by rw [show k - 1 + 1 = k by omega]; exact hd)
    simp [this] at g
   have g7:d.seq = p.seq + p.n:=by simpa using g7
   refine ypK (l.length - (k + 1)) (by omega) ⟨k + 1,rfl,by omega,⟨q1,fun i x y hx hy => ?_⟩,N21,rfl⟩
   rw [List.getElem?_take] at hx hy
   split at hx <;> split at hy <;> try cases hy
   ·rcases Nat.lt_or_ge (i + 1) k with h1 | h1
    ·exact p2 i x y (by rw [List.getElem?_take,if_pos (by omega)]; exact hx) (by rw [List.getElem?_take,if_pos h1]; exact hy)
    ·have e:i + 1 = k:=by omega
     rw [e,hd] at hy; cases hy
     rw [show i = k - 1 by omega,hp] at hx; cases hx
     exact g7
   ·cases hx
  ·have hk0:k = 0:=by omega
   subst hk0
   refine ypK (l.length - (0 + 1)) (by omega) ⟨0 + 1,rfl,by omega,⟨q1,fun i x y hx hy => ?_⟩,N11,rfl⟩
   rw [List.getElem?_take,if_neg (by omega)] at hy
   cases hy
 ·have hk:k = l.length:=by omega
  subst hk
  rw [List.take_length] at p1 p2
  exact ⟨true,rfl,⟨fun _ => ⟨by omega,by omega,p1,p2⟩,fun _ => rfl⟩,M1⟩
theorem yEF {w:World} {a:Option Addr} {n c:Nat} {l:List Int} (h:ybF w 1 ycO a n l) (hl:l.length ≤ 1000000) :
  Calls pP 123 #[.slice a n c,.func (.func 124) #[] #[]] w fun e w' => e = .returned (.bool (l.any fun x => !num x)) ∧ Mod [] w w':=by
 have hn:=h.1
 refine ya0 (yIJ ?_)
 refine Calls.mono (R:=fun e w' => ∃ v,e = .returned v ∧ ∃ r:Int,v = .int .i64 r ∧ decide (r ≥ 0) = (l.any fun x => !num x) ∧ Mod [] w w') ?_ ?_
 case refine_2 =>
  rintro _ w' ⟨_,rfl,r,rfl,e,M⟩
  exact ⟨r,rfl,by rw [e],M⟩
 refine yIK ?_
 refine yBo (fun mm x w' => ∃ k:Nat,x = k ∧ k ≤ l.length ∧ (∀ y ∈ l.take k,num y = true) ∧ Mod [] w w' ∧ mm = l.length - k) l.length ⟨0,rfl,by omega,by simp,Mod.refl _,rfl⟩ ?_
 rintro mm x w1 ⟨k,rfl,hk,hb0,M1,rfl⟩
 refine yaC (fun hlt => ?_) fun hge => ?_
 ·obtain ⟨d,hd⟩:∃ d,l[k]? = some d:=⟨_,List.getElem?_eq_getElem (by omega)⟩
  refine (h.keep0 M1).ix hd fun q hq => yaK (x:=d) (by simpa [add_zero] using hq 0 _ rfl) ?_
  refine Calls.mono (R:=fun e w' => e = .returned (.bool (!num d)) ∧ Mod [] w1 w') ?_ ?_
  ·refine ya0 (yID ((ym0 d w1).mono ?_))
   rintro _ _ ⟨rfl,rfl⟩
   exact ⟨_,rfl,rfl,Mod.refl _⟩
  rintro _ w7 ⟨rfl,M7⟩
  have N7:=M1.go0 M7 (by simp)
  refine ⟨_,rfl,yaE (fun g => ?_) fun g => ?_⟩
  ·refine ⟨_,rfl,?_,N7⟩
   rw [decide_eq_true (by omega)]
   exact (List.any_eq_true.2 ⟨d,List.mem_of_getElem? hd,g⟩).symm
  ·refine yBn (l.length - (k + 1)) (by omega) ⟨k + 1,ye5 (by omega),by omega,fun y hy => ?_,N7,rfl⟩
   rw [ybO hd] at hy
   rcases List.mem_append.1 hy with hy | hy
   ·exact hb0 y hy
   ·simp at hy; subst hy; simpa using g
 ·have hk:k = l.length:=by omega
  subst hk
  rw [List.take_length] at hb0
  refine ⟨_,rfl,?_,M1⟩
  rw [decide_eq_false (by omega)]
  exact (List.any_eq_false.2 fun y hy => by simp [hb0 y hy]).symm
theorem Mod.grown (W:World) (q:Nat) (os:Array Obj):Mod [] W (Go.Sort.grow (W.drewN q) os) :=
 ⟨rfl,rfl,rfl,by simp [Go.Sort.grow,World.drewN],fun k hk _ => by
  show (W.heap ++ os)[k]? = _
  rw [Array.getElem?_append_left hk]⟩
end Go.Proofs.YteldhjiiocmicaaGreat
namespace Go.Proofs.YteldhjiiocmicaaGreat
open Go Go.RowKit Go.Maps Go.MapKept Go.Sort Go.Shelf
set_option linter.unusedVariables false
set_option linter.unusedSimpArgs false
theorem yHg {α:Type} {R:α → α → Prop} {l:List α} {k:Nat} {x:α} (hx:l[k]? = some x) (h:(l.take k).Pairwise R) (hl:∀ p ∈ l.take k,R p x):(l.take (k + 1)).Pairwise R:=by
 rw [ybO hx,List.pairwise_append]
 exact ⟨h,by simp,fun a ha b hb => by simp at hb; subst hb; exact hl a ha⟩
theorem yuU {α:Type} {R:α → α → Prop} (tr:∀ {a b c},R a b → R b c → R a c) {l:List α} {k:Nat} {p x:α} (h:(l.take k).Pairwise R) (hk:0 < k) (hp:l[k - 1]? = some p) (hx:R p x):∀ q ∈ l.take k,R q x:=fun q hq => by
 obtain ⟨i,hi⟩:=List.getElem?_of_mem hq
 have hil:=(List.getElem?_eq_some_iff.1 hi).1
 have hie:=(List.getElem?_eq_some_iff.1 hi).2
 rw [List.length_take] at hil
 rcases Nat.lt_or_ge i (k - 1) with h1 | h1
 ·have hp':(l.take k)[k - 1]? = some p:=by rw [List.getElem?_take,if_pos (by omega)]; exact hp
  have hpl:=(List.getElem?_eq_some_iff.1 hp').1
  have hpe:=(List.getElem?_eq_some_iff.1 hp').2
  have:=List.pairwise_iff_getElem.1 h i (k - 1) (by rw [List.length_take]; omega) hpl h1
  rw [hie,hpe] at this
  exact tr this hx
 ·have:i = k - 1:=by omega
  subst this
  rw [List.getElem?_take,if_pos (by omega),hp] at hi
  cases hi; exact hx
def yu2 (a b:PMaker):Prop:=ltOf yc4 ⟨a,ya8⟩ ⟨b,ya8⟩ = true
theorem yzT (p y:MkV):yu2 p.x y.x ↔ yc4 p y < 0:=by
 unfold yu2 ltOf
 rw [decide_eq_true_eq]; exact Iff.rfl
theorem yu2.trans {a b c:PMaker} (h:yu2 a b) (h':yu2 b c):yu2 a c:=by
 unfold yu2 at *
 rw [yw4] at *
 rcases h with h | ⟨e,h⟩ <;> rcases h' with h' | ⟨e',h'⟩
 ·exact .inl (by omega)
 ·exact .inl (by omega)
 ·exact .inl (by omega)
 ·exact .inr ⟨e.trans e',yhE h h'⟩
theorem yu2.ne {a b:PMaker} (h:yu2 a b):(a.id,a.part) ≠ (b.id,b.part):=fun e => by
 unfold yu2 at h
 rw [yw4] at h
 injection e with e1 e2
 rcases h with h | ⟨_,h⟩
 ·simp only at h; omega
 ·simp only at h; rw [e2] at h; exact yh9 _ h
def mkD (l:List PMaker):List (yjI × List PDid):=l.map fun m => ((m.id,m.part),m.last)
def yIP (eps:List Int) (l:List PMaker):Prop:=eps.length ≤ 32 ∧ (∀ e ∈ eps,num e = true) ∧ (∀ m ∈ l,isE eps m.id = true ∧ m.epoch = eps.getD (m.id - 1).toNat 0 ∧ yxD m.last) ∧ l.Pairwise yu2
theorem yL8 {eps:List Int} {id:Int} (h:isE eps id = true):∃ (z:Nat) (x:Int),id - 1 = z ∧ eps[z]? = some x ∧ eps.getD (id - 1).toNat 0 = x:=by
 simp only [isE,decide_eq_true_eq] at h
 obtain ⟨z,hz⟩:∃ z:Nat,id - 1 = (z:Int):=⟨(id - 1).toNat,by omega⟩
 obtain ⟨x,hx⟩:∃ x,eps[z]? = some x:=⟨_,List.getElem?_eq_getElem (by omega)⟩
 exact ⟨z,x,hz,hx,by rw [hz,Int.toNat_natCast,List.getD_eq_getElem?_getD,hx]; rfl⟩
set_option maxHeartbeats 2000000 in
theorem yBu {w:World} {a a':Option Addr} {n c n' c':Nat} {eps:List Int} {l:List MkV} (he:ybF w 1 ycO a n eps) (h:ybF w 5 MkV.cs a' n' l) (hl:l.length ≤ 1000000) (hd:∀ q ∈ l,ybF w 3 yjZ q.s.a q.s.n q.x.last ∧ q.s.n ≤ q.s.c) (hk:∀ q ∈ l,q.x.part.t.size ≤ maxLen ∧ s64 q.x.part.n) :
  Calls pP 61 #[.slice a n c,.slice a' n' c'] w fun e w' => ∃ v,e = .returned v ∧ ycK w (yIP eps (l.map (·.x))) (fun w' b F => yeO w' b eps (mkD (l.map (·.x))) F) v w':=by
 have hn:=he.1
 have hn':=h.1
 refine yIC ?_
 refine yaC (fun g => ycK.bad (by decide) (Mod.refl _) fun hx => by have:=hx.1; omega) fun g0 => ?_
 have hel:eps.length ≤ 32:=by omega
 refine (yEF he (by omega)).mono ?_
 rintro _ w3 ⟨rfl,M3⟩
 refine ⟨_,rfl,yaE (fun g => ycK.bad (by decide) M3 fun hx => ?_) fun g => ?_⟩
 ·obtain ⟨y,hy,g⟩:=List.any_eq_true.1 g
  rw [hx.2.1 y hy] at g; cases g
 have g1:∀ e ∈ eps,num e = true:=fun e h' => by have:=List.any_eq_false.1 g e h'; simpa using this
 refine (ytT w3).mono ?_
 rintro _ w7 ⟨_,rfl,b,F,rfl,⟨sl,m,L,hc,hR,hm,hD,hP,eL,rfl⟩,hF,M7⟩
 have N7:=M3.go0 M7 (by simp)
 refine ⟨_,rfl,?_⟩
 refine (yuS (he.keep0 N7) (by omega)).mono ?_
 rintro _ w15 ⟨_,rfl,s',rfl,hR',M15⟩
 have hc15:=M15.keep0 hc
 refine ⟨_,_,_,rfl,ya6 (yeY hc15 (by simp [yhH]) (by simp) fun w20 hc20 M20 => ?_)⟩
 have hc20:w20.heap[b]? = some (.cells #[.slice s'.a s'.n s'.c,.map (some m)] 89):=by simpa [ybJ] using hc20
 have s3:=M3.size
 have s7:=M7.size
 have s15:=M15.size
 have fb:=hF b (by simp)
 have fm:=hF m (by simp)
 have lb:=yaH hc
 have hmb:m ≠ b:=by rintro rfl; exact hm.notCells hc
 have eL0:L = []:=by simpa [ddL] using eL.symm
 subst eL0
 have N20:Mod [] w w20:=(N7.go0 M15 (by simp)).go0 M20 (by simp; omega)
 have K20:Mod [b] w7 w20:=(M15.trans M20).less fun z hz _ => by simpa using hz
 have nb':b ∉ yaN s'.a:=fun hz => by have:=(yaG hR' _ hz).1; omega
 have hE20:=yaA hR' M20 (by simpa using nb')
 have nm':m ∉ yaN s'.a:=fun hz => by have:=(yaG hR' _ hz).1; have:=hm.lt; omega
 refine yBd (fun mm x w' => ∃ (k:Nat) (L:DL),x = k ∧ k ≤ l.length ∧ w'.heap[b]? = some (.cells #[.slice s'.a s'.n s'.c,.map (some m)] 89) ∧ Row w' w7.heap.size 3 1 ycO s'.a s'.n s'.c eps ∧ yaS pP 187 hkd DidV.v w' m L ∧ (∀ q ∈ L,Row w' w7.heap.size 196 3 yjZ q.2.s.a q.2.s.n q.2.s.c q.2.l) ∧ L.Pairwise (fun a b => ydN (yaN a.2.s.a) (yaN b.2.s.a)) ∧ ddL L = mkD ((l.take k).map (·.x)) ∧
   ((∀ q ∈ l.take k,isE eps q.x.id = true ∧ q.x.epoch = eps.getD (q.x.id - 1).toNat 0 ∧ yxD q.x.last) ∧ (l.take k).Pairwise fun a b => yu2 a.x b.x) ∧ Mod [] w w' ∧ w7.heap.size ≤ w'.heap.size ∧ mm = l.length - k) l.length
  ⟨0,[],by rfl,by omega,hc20,hE20,hm.keepM K20 (by simpa using hmb),by simp,by simp,rfl,⟨by simp,by simp⟩,N20,by have:=M20.size; omega,rfl⟩ ?_
 clear hE20
 rintro mm x w1 ⟨k,L,rfl,hkl,hc1,hE1,hm1,hD1,hP1,eL1,⟨p1,p2⟩,M1,w71,rfl⟩
 refine yaC (fun hlt => ?_) fun hge => ?_
 ·obtain ⟨y,hy⟩:∃ y,l[k]? = some y:=⟨_,List.getElem?_eq_getElem (by omega)⟩
  have hym:=List.mem_of_getElem? hy
  have hyx:y.x ∈ l.map (·.x):=List.mem_map.2 ⟨y,hym,rfl⟩
  obtain ⟨hd1,hd2⟩:=hd y hym
  obtain ⟨hk1,hk2⟩:=hk y hym
  refine (h.keep0 M1).ix hy fun q hq => yaK (x:=y.x.id) (by simpa [add_zero] using hq 0 _ rfl) (yaK (x:=y.x.epoch) (hq 1 _ rfl) (yaL (x:=y.x.part.t) (hq 2 _ rfl) (yaK (x:=y.x.part.n) (hq 3 _ rfl) (yaU (hq 4 _ rfl) ?_))))
  intro b38 f38
  refine yaC (fun g2 => ?_) fun g2 => ?_
  case' refine_1 =>
   rw [yr1 (by omega) (by omega)]
   obtain ⟨p,hp⟩:∃ p,l[k - 1]? = some p:=⟨_,List.getElem?_eq_getElem (by omega)⟩
   refine (h.keep0 M1).ixW hp fun q hq => ?_
   intro w40 A40
   have l38:=A40.lt b38 (by simp)
   have hq:=hq w40 A40.mod
   refine yaK (x:=p.x.id) (by simpa [add_zero] using hq 0 _ rfl) (yaK (x:=p.x.epoch) (hq 1 _ rfl) (yaL (x:=p.x.part.t) (hq 2 _ rfl) (yaK (x:=p.x.part.n) (hq 3 _ rfl) (yaU (hq 4 _ rfl) ?_))))
   refine (ynK p y w40).mono ?_
   rintro _ w48 ⟨rfl,qq,os',rfl⟩
   have M48:=Mod.grown w40 qq os'
   generalize Go.Sort.grow (w40.drewN qq) os' = w48 at M48 ⊢
   have K48:Mod [] w1 w48:=A40.mod.go0 M48 (by simp)
   refine ⟨_,rfl,yaF.of0 M48,yaC (fun g3 => ?_) fun g3 => ?_⟩
   ·refine ycK.bad (by decide) (M1.go0 K48 (by simp)) fun hx => ?_
    have hpl:=(List.getElem?_eq_some_iff.1 (show (l.map (·.x))[k - 1]? = some p.x by simp [hp])).1
    have hyl:=(List.getElem?_eq_some_iff.1 (show (l.map (·.x))[k]? = some y.x by simp [hy])).1
    have:=List.pairwise_iff_getElem.1 hx.2.2.2 (k - 1) k hpl hyl (by omega)
    rw [(List.getElem?_eq_some_iff.1 (show (l.map (·.x))[k - 1]? = some p.x by simp [hp])).2,(List.getElem?_eq_some_iff.1 (show (l.map (·.x))[k]? = some y.x by simp [hy])).2] at this
    have:=(yzT p y).1 this
    omega
   have hpy:yu2 p.x y.x:=(yzT p y).2 (by omega)
   have hlt':∀ q ∈ l.take k,yu2 q.x y.x:=yuU (R:=fun a b:MkV => yu2 a.x b.x) (fun h1 h2 => h1.trans h2) p2 (by omega) hp hpy
  case' refine_2 =>
   intro w48 A48
   have l38:=A48.lt b38 (by simp)
   have K48:Mod [] w1 w48:=A48.mod
   have hlt':∀ q ∈ l.take k,yu2 q.x y.x:=by
    have:k = 0:=by omega
    subst this; simp
  all_goals
   have N48:=M1.go0 K48 (by simp)
   have dd48:yeO w48 b eps (ddL L) (b :: m :: (yaN s'.a ++ L.flatMap fun q => yaN q.2.s.a)):=⟨s',m,L,K48.keep0 hc1,(hE1.keep0 K48).rebase (Nat.zero_le _),hm1.keepM0 K48,fun q hq => ((hD1 q hq).keep0 K48).rebase (Nat.zero_le _),hP1,rfl,rfl⟩
   refine (yqG dd48 y.x.id).mono ?_
   rintro _ w50 ⟨rfl,M50⟩
   have K50:=K48.go0 M50 (by simp)
   have N50:=M1.go0 K50 (by simp)
   refine ⟨_,rfl,yaF.of0 M50,yaE (fun g => ycK.bad (by decide) N50 fun hx => ?_) fun g => ?_⟩
   ·have:=(hx.2.2.1 y.x hyx).1
    rw [this] at g; cases g
   have g4:isE eps y.x.id = true:=by simpa using g
   obtain ⟨z,x,ez,hz,ex⟩:=yL8 g4
   have hz32:=(List.getElem?_eq_some_iff.1 hz).1
   refine ya6 (yaU (x:=s'.a) (n:=s'.n) (c:=s'.c) (by rw [yaM (K50.keep0 hc1)]; rfl) ?_)
   have ew:IntKind.wrap .i64 (y.x.id - 1) = (z:Int):=by rw [yaI (by omega) (by omega),ez]
   rw [ew]
   refine ((hE1.keep0 K50).sl yb4).ix hz fun q hq => yaK (x:=x) (by simpa [add_zero] using hq 0 _ rfl) (yaE (fun g => ycK.bad (by decide) N50 fun hx => ?_) fun g => ?_)
   ·have:=(hx.2.2.1 y.x hyx).2.1
    rw [ex] at this; simp [this] at g
   have g5:y.x.epoch = eps.getD (y.x.id - 1).toNat 0:=by rw [ex]; simpa using g
   refine (yEE (hd1.keep0 N50) hd2).mono ?_
   rintro _ w58 ⟨_,rfl,t,rfl,ht,M58⟩
   have K58:=K50.go0 M58 (by simp)
   have N58:=M1.go0 K58 (by simp)
   refine ⟨_,rfl,yaF.of0 M58,yaE (fun g => ycK.bad (by decide) N58 fun hx => ?_) fun g => ?_⟩
   ·have:=ht.2 (hx.2.2.1 y.x hyx).2.2
    rw [this] at g; cases g
   have g6:yxD y.x.last:=ht.1 (by simpa using g)
   refine ya6 ?_
   intro w61 A61
   have K61:=K58.go0 A61.mod (by simp)
   have N61:=M1.go0 K61 (by simp)
   refine yb2 (x:=some m) (by rw [show (Addr.add ⟨b,0,none⟩ 1) = ⟨b,1,none⟩ from rfl,yaM (K61.keep0 hc1)]; rfl) ?_
   refine (yh4 (hd1.keep0 N61) (by have:=g6.2.1; omega)).mono ?_
   rintro _ w63 ⟨_,rfl,t',rfl,hR3,M63⟩
   have K63:=K61.go0 M63 (by simp)
   have N63:=M1.go0 K63 (by simp)
   refine ⟨_,_,_,rfl,yaF.of0 M63,rfl,rfl,yb2 (x:=some m) (by rw [show (Addr.add ⟨b,0,none⟩ 1) = ⟨b,1,none⟩ from rfl,yaM (K63.keep0 hc1)]; rfl) rfl,?_⟩
   have s61:=K61.size
   have s63:=M63.size
   have lm1:=hm1.lt
   have l20:=M20.size
   have l38':=K48.size
   obtain ⟨lk,hlk⟩:=yvZ (k:=(y.x.id,y.x.part)) (by unfold s64; simp only; omega) hk1 hk2
   refine (hm1.keepM0 K63).setU (k:=(y.x.id,y.x.part)) yCO yh1 Tryz.underlying87 (v:=(⟨t',y.x.last⟩:DidV)) hlk (by simp; omega) fun w68 hm68 M68 => ?_
   have e1:l.take (k + 1) = l.take k ++ [y]:=ybO hy
   have hnone:lkp L (y.x.id,y.x.part) = none:=by
    refine yc1.2 fun p hp hpk => ?_
    have hp':(p.1,p.2.l) ∈ mkD ((l.take k).map (·.x)):=by rw [← eL1]; exact List.mem_map.2 ⟨p,hp,rfl⟩
    obtain ⟨u,hu,e⟩:=List.mem_map.1 hp'
    obtain ⟨v,hv,rfl⟩:=List.mem_map.1 hu
    exact (hlt' v hv).ne ((congrArg Prod.fst e).trans hpk)
   rw [ycB hnone] at hm68
   rw [ye5 (by omega)]
   have nrow:∀ {α:Type} {T sz:Nat} {enc:α → List Value} {a:Option Addr} {n c:Nat} {l:List α},Row w63 w7.heap.size T sz enc a n c l → m ∉ yaN a:=fun hh hz' => by
    obtain ⟨_,_,cur,hcr⟩:=yaP hh _ hz'
    exact (hm1.keepM0 K63).notCells hcr
   have hR3':Row w63 w7.heap.size 196 3 yjZ t'.a t'.n t'.c y.x.last:=hR3.rebase (by omega)
   refine yBc (l.length - (k + 1)) (by omega) ⟨k + 1,_,rfl,by omega,M68.keep (K63.keep0 hc1) (by simp; exact fun e => hmb e.symm),yaA (hE1.keep0 K63) M68 (by simpa using nrow (hE1.keep0 K63)),hm68,fun q hq => ?_,?_,?_,⟨fun q hq => ?_,yHg hy p2 hlt'⟩,N63.go0 M68 (by simp; omega),by have:=M68.size; omega,rfl⟩
   ·rcases List.mem_append.1 hq with hq | hq
    ·exact yaA ((hD1 q hq).keep0 K63) M68 (by simpa using nrow ((hD1 q hq).keep0 K63))
    ·simp at hq; subst hq
     exact yaA hR3' M68 (by simpa using nrow hR3')
   ·refine List.pairwise_append.2 ⟨hP1,by simp,fun q hq q' hq' z hz hz' => ?_⟩
    simp at hq'; subst hq'
    have:=(yaG (hD1 q hq) z hz).2
    have:=(yaG hR3 z hz').1
    omega
   ·rw [e1,List.map_append,mkD,List.map_append,← mkD,← eL1]; simp [ddL]
   ·rw [e1] at hq
    rcases List.mem_append.1 hq with hq | hq
    ·exact p1 q hq
    ·simp at hq; subst hq; exact ⟨g4,g5,g6⟩
 ·have hk:k = l.length:=by omega
  subst hk
  rw [List.take_length] at eL1 p1 p2
  refine ycK.good (F:=b :: m :: (yaN s'.a ++ L.flatMap fun q => yaN q.2.s.a)) M1 ⟨hel,g1,fun m hm => ?_,List.pairwise_map.2 p2⟩ ⟨s',m,L,hc1,hE1.rebase (Nat.zero_le _),hm1,fun q hq => (hD1 q hq).rebase (Nat.zero_le _),hP1,eL1.symm,rfl⟩ fun z hz => ?_
  ·obtain ⟨q,hq,rfl⟩:=List.mem_map.1 hm
   exact p1 q hq
  ·simp only [List.mem_cons,List.mem_append,List.mem_flatMap] at hz
   rcases hz with rfl | rfl | hz | ⟨q,hq,hz⟩
   ·omega
   ·omega
   ·have:=(yaG hE1 z hz).1; omega
   ·have:=(yaG (hD1 q hq) z hz).1; omega
def yxE (a b:PMark):Prop:=ltOf ydX a b = true
theorem yzU (p y:PMark):yxE p y ↔ ydX p y < 0:=by
 unfold yxE ltOf
 rw [decide_eq_true_eq]
theorem yxE.trans {a b c:PMark} (h:yxE a b) (h':yxE b c):yxE a c:=by
 unfold yxE at *
 rw [yEm] at *
 rcases h with h | ⟨e,h⟩ <;> rcases h' with h' | ⟨e',h'⟩
 ·exact .inl (yf7 h h')
 ·exact .inl (e' ▸ h)
 ·exact .inl (e ▸ h')
 ·exact .inr ⟨e.trans e',yhE h h'⟩
theorem yxE.ne {a b:PMark} (h:yxE a b):(a.g,a.p) ≠ (b.g,b.p):=fun e => by
 unfold yxE at h
 rw [yEm] at h
 injection e with e1 e2
 rcases h with h | ⟨_,h⟩
 ·rw [e1,yeB] at h; cases h
 ·rw [e2] at h; exact yh9 _ h
def mkO (l:List PMark):OL:=l.map fun m => ((m.g,m.p),m.off)
def yIQ (l:List PMark):Prop:=(∀ m ∈ l,ydD m = true) ∧ l.Pairwise yxE
set_option maxHeartbeats 2000000 in
theorem ypM {w:World} {a:Option Addr} {n c:Nat} {l:List PMark} (h:ybF w 4 yfX a n l) (hl:l.length ≤ 1000000) :
  Calls pP 65 #[.slice a n c] w fun e w' => ∃ v,e = .returned v ∧ ycK w (yIQ l) (fun w' b F => yf5 w' b (mkO l) F) v w':=by
 have hn:=h.1
 refine yIE ?_
 refine (ytR w).mono ?_
 rintro _ w3 ⟨_,rfl,b,F,rfl,⟨m,hc,hm,rfl⟩,hF,M3⟩
 have fb:=hF b (by simp)
 have fm:=hF m (by simp)
 have hmb:m ≠ b:=by rintro rfl; exact hm.notCells hc
 refine ⟨_,rfl,?_⟩
 refine yBf (fun mm x w' => ∃ k:Nat,x = k ∧ k ≤ l.length ∧ w'.heap[b]? = some (.cells #[.map (some m)] 92) ∧ yaS pP 204 hko hki w' m (mkO (l.take k)) ∧ ((∀ q ∈ l.take k,ydD q = true) ∧ (l.take k).Pairwise yxE) ∧ Mod [] w w' ∧ mm = l.length - k) l.length
  ⟨0,rfl,by omega,hc,hm,⟨by simp,by simp⟩,M3,rfl⟩ ?_
 rintro mm x w1 ⟨k,rfl,hkl,hc1,hm1,⟨p1,p2⟩,M1,rfl⟩
 refine yaC (fun hlt => ?_) fun hge => ?_
 ·obtain ⟨y,hy⟩:∃ y,l[k]? = some y:=⟨_,List.getElem?_eq_getElem (by omega)⟩
  have hym:=List.mem_of_getElem? hy
  refine (h.keep0 M1).ix hy fun q hq => yaL (x:=y.g) (by simpa [add_zero] using hq 0 _ rfl) (yaL (x:=y.p.t) (hq 1 _ rfl) (yaK (x:=y.p.n) (hq 2 _ rfl) (yaK (x:=y.off) (hq 3 _ rfl) ?_)))
  intro b16 f16 w17 A17
  have l16:=A17.lt b16 (by simp)
  refine (yC3 y w17).mono ?_
  rintro _ w18 ⟨rfl,M18⟩
  have K18:Mod [] w1 w18:=A17.mod.go0 M18 (by simp)
  have N18:=M1.go0 K18 (by simp)
  refine ⟨_,rfl,yaF.of0 M18,yaE (fun g => ycK.bad (by decide) N18 fun hx => ?_) fun g => ?_⟩
  ·rw [hx.1 y hym] at g; cases g
  have g:ydD y = true:=by simpa using g
  have gm:=g
  simp only [ydD,Bool.and_eq_true] at gm
  obtain ⟨⟨⟨gm1,gm2⟩,gm3⟩,gm4⟩:=gm
  have z1:=yc2 gm1
  have z2:=yc2 gm2
  refine yaC (fun g2 => ?_) fun g2 => ?_
  case' refine_1 =>
   rw [yr1 (by omega) (by omega)]
   obtain ⟨p,hp⟩:∃ p,l[k - 1]? = some p:=⟨_,List.getElem?_eq_getElem (by omega)⟩
   refine (h.keep0 N18).ix hp fun q hq => yaL (x:=p.g) (by simpa [add_zero] using hq 0 _ rfl) (yaL (x:=p.p.t) (hq 1 _ rfl) (yaK (x:=p.p.n) (hq 2 _ rfl) (yaK (x:=p.off) (hq 3 _ rfl) ?_)))
   refine (ynL p y w18).mono ?_
   rintro _ w48 ⟨rfl,qq,os',rfl⟩
   have M48:=Mod.grown w18 qq os'
   generalize Go.Sort.grow (w18.drewN qq) os' = w48 at M48 ⊢
   have K48:Mod [] w1 w48:=K18.go0 M48 (by simp)
   refine ⟨_,rfl,yaF.of0 M48,yaC (fun g3 => ?_) fun g3 => ?_⟩
   ·refine ycK.bad (by decide) (M1.go0 K48 (by simp)) fun hx => ?_
    have hpl:=(List.getElem?_eq_some_iff.1 hp).1
    have hyl:=(List.getElem?_eq_some_iff.1 hy).1
    have:=List.pairwise_iff_getElem.1 hx.2 (k - 1) k hpl hyl (by omega)
    rw [(List.getElem?_eq_some_iff.1 hp).2,(List.getElem?_eq_some_iff.1 hy).2] at this
    have:=(yzU p y).1 this
    omega
   have hlt':∀ q ∈ l.take k,yxE q y:=yuU (R:=yxE) (fun h1 h2 => h1.trans h2) p2 (by omega) hp ((yzU p y).2 (by omega))
  case' refine_2 =>
   have hlt':∀ q ∈ l.take k,yxE q y:=by
    have:k = 0:=by omega
    subst this; simp
   have K48:Mod [] w1 w18:=K18
  all_goals
   refine ya6 ?_
   intro w28 A28
   have K28:=K48.go0 A28.mod (by simp)
   refine yb2 (x:=some m) (by rw [yaM (K28.keep0 hc1)]; rfl) ?_
   obtain ⟨lk,hlk⟩:=yvY (k:=(y.g,y.p)) (by unfold maxLen; simp only; omega) (by unfold maxLen; simp only; omega) (yeG gm3)
   have s1:=M1.size
   have s17:=A17.mod.size
   refine (hm1.keepM0 K28).setU (k:=(y.g,y.p)) yCN yh0 Tryz.underlying90 (v:=y.off) hlk (by have:=hm1.lt; simp; omega) fun w30 hm30 M30 => ?_
   have hnone:lkp (mkO (l.take k)) (y.g,y.p) = none:=by
    refine yc1.2 fun p hp hpk => ?_
    obtain ⟨v,hv,rfl⟩:=List.mem_map.1 hp
    exact (hlt' v hv).ne hpk
   rw [ycB hnone] at hm30
   rw [ye5 (by omega)]
   refine yBe (l.length - (k + 1)) (by omega) ⟨k + 1,rfl,by omega,M30.keep (K28.keep0 hc1) (by simp; exact fun e => hmb e.symm),by rw [ybO hy]; simpa [mkO] using hm30,⟨fun q hq => ?_,yHg hy p2 hlt'⟩,(M1.go0 K28 (by simp)).go0 M30 (by simpa using fm),rfl⟩
   rw [ybO hy] at hq
   rcases List.mem_append.1 hq with hq | hq
   ·exact p1 q hq
   ·simp at hq; subst hq; exact g
 ·have hk:k = l.length:=by omega
  subst hk
  rw [List.take_length] at hm1 p1 p2
  exact ycK.good (F:=[b,m]) M1 ⟨p1,p2⟩ ⟨m,hc1,hm1,rfl⟩ hF
end Go.Proofs.YteldhjiiocmicaaGreat
namespace Go.Proofs.YteldhjiiocmicaaGreat
open Go Go.RowKit Go.Maps Go.MapKept Go.Sort Go.Shelf
set_option linter.unusedVariables false
set_option linter.unusedSimpArgs false
structure BrMay (s:PBr):Prop where
 tops:∀ q ∈ s.cat,1 ≤ q.2 ∧ q.2 ≤ 8
 ids:∀ q ∈ s.dd,1 ≤ q.1.1 ∧ q.1.1 ≤ s.eps.length
theorem ynO {L:TL} (h:∀ q ∈ L,1 ≤ q.2 ∧ q.2 ≤ 8):∀ t ∈ ycR L,1 ≤ t.n ∧ t.n ≤ 8:=fun t ht => by
 obtain ⟨k,hk,rfl⟩:=List.mem_map.1 ht
 have hk:=(ybX _).mem_iff.1 hk
 obtain ⟨q,hq,rfl⟩:=List.mem_map.1 hk
 cases e:lkp L q.1 with
 | none => exact absurd rfl (yc1.1 e q hq)
 | some v => exact h _ (yaQ e)
theorem ynP (L:TL):(ycR L).length = L.length:=by simp [ycR,ye3]
theorem yBv {L:TL} {p:PPart} (h:p ∈ yg3 L):ygP L p = true:=by
 obtain ⟨t,ht,hp⟩:=List.mem_flatMap.1 h
 unfold yrH at hp
 split at hp
 ·obtain ⟨j,hj,rfl⟩:=List.mem_map.1 hp
  obtain ⟨k,hk,rfl⟩:=List.mem_map.1 ht
  have:j < ((lkp L k).getD 0).toNat:=List.mem_range.1 hj
  show decide (0 ≤ (j:Int) ∧ (j:Int) < (lkp L k).getD 0) = true
  rw [decide_eq_true_eq]; omega
 ·cases hp
theorem yBw {L:TL} (h:∀ q ∈ L,1 ≤ q.2 ∧ q.2 ≤ 8) (hl:L.length ≤ 8):(yg3 L).length ≤ 100000:=by
 have:=yzQ (names:=yzR L) (l:=ycR L) fun t ht => by have:=ynO h t ht; omega
 rw [ynP] at this
 unfold yg3; omega
theorem ykL {w W:World} {b b2 b20 N:Nat} {V:BrV} {st se sm so:Sl} {mv:List MkV} {ml:List PMark} (h:yc3 W b V) (g:BrGood V.st N) (gm:BrMay V.st) (M0:Mod [] w W) (hf:∀ k ∈ V.foot b,k < w.heap.size) (f2:w.heap.size ≤ b2) (l2:b2 < W.heap.size) (f20:w.heap.size ≤ b20) (l20:b20 < W.heap.size)
  (h4:St4 W w.heap.size st se sm so (ycR V.cat) V.eps mv ml) (n2:b2 ∉ ysF st se sm so mv) (n20:b20 ∉ ysF st se sm so mv)
  (hmk:(mv.map (·.x)).Perm (V.dd.map (yEq V.eps))) (hms:mv.Pairwise fun a b => ltOf yc4 b a = false) (hof:ml.Perm (V.marks.map yjC)) (hos:ml.Pairwise fun a b => ltOf ydX b a = false) :
  Calls pP 72 #[(.pointer (some ⟨b,0,none⟩))] W fun e w22 => ∃ (a23:Option Addr) (n24 c25:Nat),e = .returned (.slice a23 n24 c25) ∧ yaV [b] [(b2,73),(b20,73)] [b2,b20] W w22 ∧ ∃ (x26 x27:Int) (p28:Option Addr),∃ m29:Option Nat,∃ p30:Option Addr,∃ m31:Option Nat,∃ p32:Option Addr,w22.heap[b]? = some (.cells #[.int .i64 x26,.int .i64 x27,.pointer p28,(.map m29),.pointer p30,(.map m31),.pointer p32] 58) ∧ (((.pointer p28):Value) = (.pointer (some ⟨V.pc,0,none⟩))) ∧
   Calls pP 71 #[(.pointer (some ⟨V.pc,0,none⟩)),.slice a23 n24 c25] w22 fun e w33 => ∃ (a34:Option Addr) (n35 c36:Nat),e = .returned (.slice a34 n35 c36) ∧ yaV [b] [(b2,73),(b20,73)] [b2,b20] w22 w33 ∧ ∃ (x37 x38:Int) (p39:Option Addr),∃ m40:Option Nat,∃ p41:Option Addr,∃ m42:Option Nat,∃ p43:Option Addr,w33.heap[b]? = some (.cells #[.int .i64 x37,.int .i64 x38,.pointer p39,(.map m40),.pointer p41,(.map m42),.pointer p43] 58) ∧
   yaO yd3 (yg1 396 [0,0,1,0,1,1]) (yGX [1,1,0,1,0] [] (ybE pP Tryz.f33 [0] (yEz w V.st))) (ydY a34 n35 c36 (n35:Int) b b2 b20 V.room V.now st.a st.n st.c se.a se.n se.c sm.a sm.n sm.c so.a so.n so.c (0,x37,x38,p39,m40,p41,m42,p43,none,0,0)) w33:=by
 have hcl:V.cat.length ≤ 8:=g.cl
 have hc:=h.cell nofun
 have hll:=ynP V.cat
 refine (yIA h (by omega) (by omega)).mono ?_
 rintro _ w22 ⟨_,rfl,sn,rfl,hN,M22⟩
 refine ⟨_,_,_,rfl,yaF.of0 M22,_,_,_,_,_,_,_,M22.keep0 hc,rfl,?_⟩
 have h22:=h.keep0 M22
 refine (ynN (h22.cat nofun) (by omega) (fun t ht => by have:=ynO gm.tops t ht; omega) (by omega) (hN.sl ydB) (by simp; omega)).mono ?_
 rintro _ w33 ⟨_,rfl,sp,rfl,hP,M33⟩
 refine ⟨_,_,_,rfl,yaF.of0 M33,_,_,_,_,_,_,_,M33.keep0 (M22.keep0 hc),?_⟩
 have s22:=M22.size
 have s33:=M33.size
 have K33:Mod [] W w33:=M22.go0 M33 (by simp)
 have s0:=M0.size
 refine yFT (h22.keep0 M33) g (fun p hp => ?_) (yBw gm.tops hcl) (M0.go0 K33 (by simp)) hf f2 (by omega) f20 (by omega) (h4.keep K33 (by simp)) n2 n20 (hP.rebase (by omega)) (fun hz => by have:=(yaG hP _ hz).1; omega) hmk hms hof hos
 have:=g.has p (yBv hp)
 rw [ypH] at this
 cases e:lkp V.LP p with
 | none => rw [e] at this; cases this
 | some x => exact ⟨x,rfl⟩
set_option maxHeartbeats 1000000 in
theorem yEG {w:World} {b N:Nat} {V:BrV} (h:yc3 w b V) (g:BrGood V.st N) (gm:BrMay V.st) :
  Calls pP 33 #[.pointer (some ⟨b,0,none⟩)] w fun e w' => ∃ v,e = .returned v ∧ yEz w V.st v w':=by
 have hf:=h.lt
 have hb:=hf b (yaD.2 (.inl rfl))
 have hN:=g.nN
 have hcl:V.cat.length ≤ 8:=g.cl
 have hce:V.eps.length ≤ N:=g.ce
 have hcd:V.dd.length ≤ N:=g.cd
 have hcm:V.marks.length ≤ N:=g.cm
 have hcq:∀ q ∈ V.dd,q.2.length ≤ 1000000:=fun q hq => by have:=g.cq q hq; omega
 have hid:∀ q ∈ V.dd,1 ≤ q.1.1 ∧ q.1.1 ≤ V.eps.length:=gm.ids
 refine yIy (h.cell nofun) ?_
 intro b2 f2
 have fin:∀ {w3 w4 w5 w6 w7 W:World} {bb:Nat} {st se sm so:Sl} {mv:List MkV} {ml:List PMark} {S:List Nat},Mod [] w w3 → Mod [] w3 w4 → Mod [] w4 w5 → Mod [] w5 w6 → Mod [] w6 w7 → Mod S w7 W → (∀ k ∈ S,k = bb) → w.heap.size ≤ bb → bb < W.heap.size → b2 < w3.heap.size → (∀ k ∈ ysF st se sm so mv,k ≠ bb) → Row w4 w3.heap.size 226 2 ynU st.a st.n st.c (ycR V.cat) → Row w5 w4.heap.size 3 1 ycO se.a se.n se.c V.eps → Row w6 w5.heap.size 143 5 MkV.cs sm.a sm.n sm.c mv → (∀ q ∈ mv,Row w6 w5.heap.size 196 3 yjZ q.s.a q.s.n q.s.c q.x.last) → Row w7 w6.heap.size 130 4 yfX so.a so.n so.c ml →
   yc3 W b V ∧ Mod [] w W ∧ b2 < W.heap.size ∧ St4 W w.heap.size st se sm so (ycR V.cat) V.eps mv ml ∧ b2 ∉ ysF st se sm so mv ∧ bb ∉ ysF st se sm so mv:=by
  intro w3 w4 w5 w6 w7 W bb st se sm so mv ml S A3 M4 M5 M6 M7 AW hS fb lb l2 hne hT hE hM hD hO
  have s3:=A3.size
  have s4:=M4.size
  have s5:=M5.size
  have s6:=M6.size
  have s7:=M7.size
  have sW:=AW.size
  have K5:Mod [] w4 w7:=(M5.go0 M6 (by simp)).go0 M7 (by simp)
  have K6:Mod [] w5 w7:=M6.go0 M7 (by simp)
  have N7:Mod [] w w7:=(A3.go0 M4 (by simp)).go0 K5 (by simp)
  have NW:Mod [] w W:=N7.go0 AW fun k hk => by rw [hS k hk]; exact fb
  have h4:St4 w7 w3.heap.size st se sm so (ycR V.cat) V.eps mv ml:=⟨hT.keep0 K5,(hE.keep0 K6).rebase (by omega),(hM.keep0 M7).rebase (by omega),fun q hq => ((hD q hq).keep0 M7).rebase (by omega),hO.rebase (by omega)⟩
  refine ⟨h.keep0 NW,NW,by omega,(h4.keep AW fun k hk hk' => hne k hk' (hS k hk)).rebase (by omega),fun hk => by have:=(h4.lt _ hk).1; omega,fun hk => hne _ hk rfl⟩
 refine ⟨?_,?_⟩
 ·intro w3 A3
  have h3:=h.keep0 A3.mod
  have l2:=A3.lt b2 (by simp)
  refine (yfS (h3.cat nofun) (by omega)).mono ?_
  rintro _ w4 ⟨st,rfl,hT,M4⟩
  obtain ⟨ta,tn,tc⟩:=st
  have h4:=h3.keep0 M4
  have s4:=M4.size
  refine ⟨_,_,_,rfl,yaF.of0 M4,rfl,rfl,rfl,rfl,rfl,?_⟩
  refine ⟨?_,?_⟩
  ·skip
   refine (yg0 (h4.ded nofun) (by omega)).mono ?_
   rintro _ w5 ⟨_,rfl,se,rfl,hE,M5⟩
   have h5:=h4.keep0 M5
   have s5:=M5.size
   refine ⟨_,_,_,rfl,yaF.of0 M5,rfl,rfl,rfl,rfl,?_⟩
   refine ⟨?_,?_⟩
   ·skip
    refine (yfF (h5.ded nofun) (by omega) (by omega) hcq hid).mono ?_
    rintro _ w6 ⟨_,rfl,sm,mv,rfl,hM,hD,hmk,hms,M6⟩
    have h6:=h5.keep0 M6
    have s6:=M6.size
    refine ⟨_,_,_,rfl,yaF.of0 M6,rfl,rfl,rfl,?_⟩
    refine ⟨?_,?_⟩
    ·skip
     refine (yfY (h6.off nofun) (by omega)).mono ?_
     rintro _ w7 ⟨_,rfl,so,ml,rfl,hO,hof,hos,M7⟩
     have h7:=h6.keep0 M7
     have s7:=M7.size
     refine ⟨_,_,_,rfl,yaF.of0 M7,rfl,rfl,?_⟩
     refine ⟨?_,?_⟩
     ·intro bb fb W AW _
      have lb:=AW.lt bb (by simp)
      have s3:=A3.mod.size
      have sW:=AW.mod.size
      have hne:∀ k ∈ ysF ⟨ta,tn,tc⟩ se sm so mv,k ≠ bb:=fun k hk e => by
       rcases yeI.1 hk with hk | hk | hk | hk | ⟨q,hq,hk⟩
       ·have:=yaG hT _ hk; omega
       ·have:=yaG hE _ hk; omega
       ·have:=yaG hM _ hk; omega
       ·have:=yaG hO _ hk; omega
       ·have:=yaG (hD q hq) _ hk; omega
      obtain ⟨z1,z2,z3,z4,z5,z6⟩:=fin (bb:=bb) (st:=⟨ta,tn,tc⟩) A3.mod M4 M5 M6 M7 AW.mod (by simp) (by omega) (by omega) l2 hne hT hE hM hD hO
      exact ykL z1 g gm z2 hf f2 z3 (by omega) (by omega) z4 z5 z6 hmk hms hof hos
     ·intro bb fb W AW _
      have lb:=AW.lt bb (by simp)
      have s3:=A3.mod.size
      have sW:=AW.mod.size
      have hne:∀ k ∈ ysF ⟨ta,tn,tc⟩ se sm so mv,k ≠ bb:=fun k hk e => by
       rcases yeI.1 hk with hk | hk | hk | hk | ⟨q,hq,hk⟩
       ·have:=yaG hT _ hk; omega
       ·have:=yaG hE _ hk; omega
       ·have:=yaG hM _ hk; omega
       ·have:=yaG hO _ hk; omega
       ·have:=yaG (hD q hq) _ hk; omega
      obtain ⟨z1,z2,z3,z4,z5,z6⟩:=fin (bb:=bb) (st:=⟨ta,tn,tc⟩) A3.mod M4 M5 M6 M7 AW.mod (by simp) (by omega) (by omega) l2 hne hT hE hM hD hO
      exact ykL z1 g gm z2 hf f2 z3 (by omega) (by omega) z4 z5 z6 hmk hms hof hos
    ·intro bb fb wx Ax
     have lb:=Ax.lt bb (by simp)
     have hx:=h6.keep0 Ax.mod
     have sx:=Ax.mod.size
     refine (yfY (hx.off nofun) (by omega)).mono ?_
     rintro _ w7 ⟨_,rfl,so,ml,rfl,hO,hof,hos,M7⟩
     have h7:=hx.keep0 M7
     have s7:=M7.size
     refine ⟨_,_,_,rfl,yaF.of0 M7,rfl,rfl,?_⟩
     intro W AW _
     have sk:=M6.size
     have M6x:Mod [] w5 wx:=M6.go0 Ax.mod (by simp)
     have s3:=A3.mod.size
     have sW:=AW.mod.size
     have hne:∀ k ∈ ysF ⟨ta,tn,tc⟩ se sm so mv,k ≠ bb:=fun k hk e => by
      rcases yeI.1 hk with hk | hk | hk | hk | ⟨q,hq,hk⟩
      ·have:=yaG hT _ hk; omega
      ·have:=yaG hE _ hk; omega
      ·have:=yaG hM _ hk; omega
      ·have:=yaG hO _ hk; omega
      ·have:=yaG (hD q hq) _ hk; omega
     obtain ⟨z1,z2,z3,z4,z5,z6⟩:=fin (bb:=bb) (st:=⟨ta,tn,tc⟩) A3.mod M4 M5 M6x M7 AW.mod (by simp) (by omega) (by omega) l2 hne hT hE (hM.keep0 Ax.mod) (fun q hq => (hD q hq).keep0 Ax.mod) hO
     exact ykL z1 g gm z2 hf f2 z3 (by omega) (by omega) z4 z5 z6 hmk hms hof hos
   ·intro bb fb wx Ax
    have lb:=Ax.lt bb (by simp)
    have hx:=h5.keep0 Ax.mod
    have sx:=Ax.mod.size
    refine (yfF (hx.ded nofun) (by omega) (by omega) hcq hid).mono ?_
    rintro _ w6 ⟨_,rfl,sm,mv,rfl,hM,hD,hmk,hms,M6⟩
    have h6:=hx.keep0 M6
    have s6:=M6.size
    refine ⟨_,_,_,rfl,yaF.of0 M6,rfl,rfl,rfl,?_⟩
    refine (yfY (h6.off nofun) (by omega)).mono ?_
    rintro _ w7 ⟨_,rfl,so,ml,rfl,hO,hof,hos,M7⟩
    have h7:=h6.keep0 M7
    have s7:=M7.size
    refine ⟨_,_,_,rfl,yaF.of0 M7,rfl,rfl,?_⟩
    intro W AW _
    have sk:=M5.size
    have M5x:Mod [] w4 wx:=M5.go0 Ax.mod (by simp)
    have s3:=A3.mod.size
    have sW:=AW.mod.size
    have hne:∀ k ∈ ysF ⟨ta,tn,tc⟩ se sm so mv,k ≠ bb:=fun k hk e => by
     rcases yeI.1 hk with hk | hk | hk | hk | ⟨q,hq,hk⟩
     ·have:=yaG hT _ hk; omega
     ·have:=yaG hE _ hk; omega
     ·have:=yaG hM _ hk; omega
     ·have:=yaG hO _ hk; omega
     ·have:=yaG (hD q hq) _ hk; omega
    obtain ⟨z1,z2,z3,z4,z5,z6⟩:=fin (bb:=bb) (st:=⟨ta,tn,tc⟩) A3.mod M4 M5x M6 M7 AW.mod (by simp) (by omega) (by omega) l2 hne hT (hE.keep0 Ax.mod) hM hD hO
    exact ykL z1 g gm z2 hf f2 z3 (by omega) (by omega) z4 z5 z6 hmk hms hof hos
  ·intro bb fb wx Ax
   have lb:=Ax.lt bb (by simp)
   have hx:=h4.keep0 Ax.mod
   have sx:=Ax.mod.size
   refine (yg0 (hx.ded nofun) (by omega)).mono ?_
   rintro _ w5 ⟨_,rfl,se,rfl,hE,M5⟩
   have h5:=hx.keep0 M5
   have s5:=M5.size
   refine ⟨_,_,_,rfl,yaF.of0 M5,rfl,rfl,rfl,rfl,?_⟩
   refine (yfF (h5.ded nofun) (by omega) (by omega) hcq hid).mono ?_
   rintro _ w6 ⟨_,rfl,sm,mv,rfl,hM,hD,hmk,hms,M6⟩
   have h6:=h5.keep0 M6
   have s6:=M6.size
   refine ⟨_,_,_,rfl,yaF.of0 M6,rfl,rfl,rfl,?_⟩
   refine (yfY (h6.off nofun) (by omega)).mono ?_
   rintro _ w7 ⟨_,rfl,so,ml,rfl,hO,hof,hos,M7⟩
   have h7:=h6.keep0 M7
   have s7:=M7.size
   refine ⟨_,_,_,rfl,yaF.of0 M7,rfl,rfl,?_⟩
   intro W AW _
   have sk:=M4.size
   have M4x:Mod [] w3 wx:=M4.go0 Ax.mod (by simp)
   have s3:=A3.mod.size
   have sW:=AW.mod.size
   have hne:∀ k ∈ ysF ⟨ta,tn,tc⟩ se sm so mv,k ≠ bb:=fun k hk e => by
    rcases yeI.1 hk with hk | hk | hk | hk | ⟨q,hq,hk⟩
    ·have:=yaG hT _ hk; omega
    ·have:=yaG hE _ hk; omega
    ·have:=yaG hM _ hk; omega
    ·have:=yaG hO _ hk; omega
    ·have:=yaG (hD q hq) _ hk; omega
   obtain ⟨z1,z2,z3,z4,z5,z6⟩:=fin (bb:=bb) (st:=⟨ta,tn,tc⟩) A3.mod M4x M5 M6 M7 AW.mod (by simp) (by omega) (by omega) l2 hne (hT.keep0 Ax.mod) hE hM hD hO
   exact ykL z1 g gm z2 hf f2 z3 (by omega) (by omega) z4 z5 z6 hmk hms hof hos
 ·intro bb fb w3 A3
  have h3:=h.keep0 A3.mod
  have l2:=A3.lt b2 (by simp)
  have lb:=A3.lt bb (by simp)
  refine (yfS (h3.cat nofun) (by omega)).mono ?_
  rintro _ w4 ⟨st,rfl,hT,M4⟩
  obtain ⟨ta,tn,tc⟩:=st
  have h4:=h3.keep0 M4
  have s4:=M4.size
  refine ⟨_,_,_,rfl,yaF.of0 M4,rfl,rfl,rfl,rfl,rfl,?_⟩
  refine (yg0 (h4.ded nofun) (by omega)).mono ?_
  rintro _ w5 ⟨_,rfl,se,rfl,hE,M5⟩
  have h5:=h4.keep0 M5
  have s5:=M5.size
  refine ⟨_,_,_,rfl,yaF.of0 M5,rfl,rfl,rfl,rfl,?_⟩
  refine (yfF (h5.ded nofun) (by omega) (by omega) hcq hid).mono ?_
  rintro _ w6 ⟨_,rfl,sm,mv,rfl,hM,hD,hmk,hms,M6⟩
  have h6:=h5.keep0 M6
  have s6:=M6.size
  refine ⟨_,_,_,rfl,yaF.of0 M6,rfl,rfl,rfl,?_⟩
  refine (yfY (h6.off nofun) (by omega)).mono ?_
  rintro _ w7 ⟨_,rfl,so,ml,rfl,hO,hof,hos,M7⟩
  have h7:=h6.keep0 M7
  have s7:=M7.size
  refine ⟨_,_,_,rfl,yaF.of0 M7,rfl,rfl,?_⟩
  intro W AW _
  have s3:=A3.mod.size
  have sW:=AW.mod.size
  have hne:∀ k ∈ ysF ⟨ta,tn,tc⟩ se sm so mv,k ≠ bb:=fun k hk e => by
   rcases yeI.1 hk with hk | hk | hk | hk | ⟨q,hq,hk⟩
   ·have:=yaG hT _ hk; omega
   ·have:=yaG hE _ hk; omega
   ·have:=yaG hM _ hk; omega
   ·have:=yaG hO _ hk; omega
   ·have:=yaG (hD q hq) _ hk; omega
  obtain ⟨z1,z2,z3,z4,z5,z6⟩:=fin (bb:=bb) (st:=⟨ta,tn,tc⟩) A3.mod M4 M5 M6 M7 AW.mod (by simp) (by omega) (by omega) l2 hne hT hE hM hD hO
  exact ykL z1 g gm z2 hf f2 z3 (by omega) (by omega) z4 z5 z6 hmk hms hof hos
end Go.Proofs.YteldhjiiocmicaaGreat
namespace Go.Proofs.YteldhjiiocmicaaGreat
open Go Go.RowKit
set_option linter.all false
section
set_option maxRecDepth 100000
variable {R:VWP} {w w0:World} {m:Nat} {i0 i1 i2 i3 i4 i5 i6 i7 i8 i9 j0 j1 j2 j3 j4 j5 j6 j7 j8 j9 k0 k1 k2 k3 k4 k5 k6 k7 k8 k9 l0 l1 l2 l3 l4 l5 l6 l7 l8 l9:Int} {s0 s1 s2 s3 s4 s5 s6 s7 s8 s9 t0 t1 t2 t3 t4 t5 t6 t7 t8 t9:BA} {n0 n1 n2 n3 n4 n5 n6 n7 n8 n9 o0 o1 o2 o3 o4 o5 o6 o7 o8 o9 p0 p1 p2 p3 p4 p5 p6 p7 p8 p9:Nat} {q0 q1 q2 q3 q4 q5 q6 q7 q8 q9 r0 r1 r2 r3 r4 r5 r6 r7 r8 r9:OA} {B0 B1 B2 B3 B4 B5 B6 B7 B8 B9:Bool} {M0 M1 M2 M3:Option Nat} {V0 V1 V2 V3 V4 V5:Value} {A0 A1 A2:Addr}
theorem yIR {b0:Nat} (hb:w.heap[b0]? = some (.cells #[.pointer q0,.bool B0] 133)) (h :
 brB B0 (
 ∀ w1,Adv [b0] [] w w1 → w1.heap[b0]? = some (.cells #[.pointer q0,.bool true] 133) →
 R (.tuple #[]) w1)
 (
 ∀ w2,Adv [b0] [] w w2 → w2.heap[b0]? = some (.cells #[.pointer q0,.bool B1] 133) →
 R (.tuple #[]) w2)) :
 CR pP 62 #[(.pointer (some ⟨b0,0,none⟩)),.bool B1] w R :=
 yaJ Tryz.wide_mixed (an:=[]) Tryz.func62 rfl rfl (by kernel_rfl) rfl hb (Eq.mpr (by kernel_rfl) h)
def yr2:LA:=⟨[0,0,1,0,1,1],[0,3,4,10,11,12],[(0,0,0),(3,1,0)],2,[0]⟩
def yr3:List LA:=[yr2]
abbrev yHh:=dnF pP yr3 (code Tryz.f59)
abbrev yM7:=yaR pP yr3 (code Tryz.f59)
abbrev yHi (p:List Nat) (K:List Kh) (R:VWP):=yaR pP yr3 (code Tryz.f59) p K (ybE pP Tryz.f59 [0] R)
def ykM (c2:OA) (c4 c3:Nat) (c5:Int) (bm0 bm1:Nat) (c0 c1:Int) (a0:OA) (b2 a6:Nat) (a1:OA) (b3 a7:Nat) (a2:OA) (b4 a8:Nat) (a3:OA) (b5 a9:Nat) (a4:OA) (b6 b0:Nat) (a5:OA) (b7 b1:Nat):(Option Addr) × Nat × Nat × Int × (Option Addr) × Bool → List Value × List TB:=fun (c7,c9,c8,c6,b8,b9) => ([(.pointer (some ⟨bm0,0,none⟩)),(.pointer (some ⟨bm1,0,none⟩)),.slice c7 c9 c8,.slice c2 c4 c3,.int .i64 c5,.int .i64 c6],[⟨bm0,133,[.pointer b8,.bool b9],true⟩,⟨bm1,73,[.int .i64 c0,.int .i64 c1,.slice a0 b2 a6,.slice a1 b3 a7,.slice a2 b4 a8,.slice a3 b5 a9,.slice a4 b6 b0,.slice a5 b7 b1],false⟩])
abbrev yEH (c0:OA) (c2 c1:Nat) (c3:Int) (bm0 bm1:Nat) (b8 b9:Int) (a0:OA) (b2 a6:Nat) (a1:OA) (b3 a7:Nat) (a2:OA) (b4 a8:Nat) (a3:OA) (b5 a9:Nat) (a4:OA) (b6 b0:Nat) (a5:OA) (b7 b1:Nat) (I:Nat → Option Addr → Nat → Nat → Int → Option Addr → Bool → World → Prop) (m:Nat):Kh:=KG (ykM c0 c2 c1 c3 bm0 bm1 b8 b9 a0 b2 a6 a1 b3 a7 a2 b4 a8 a3 b5 a9 a4 b6 b0 a5 b7 b1) (U6 I) m
theorem ykN {I:Nat → Option Addr → Nat → Nat → Int → Option Addr → Bool → World → Prop} (m':Nat) (h1:m' < m) (h2:I m' q7 o6 o7 i3 q8 B0 w):KS (yEH q0 n0 n1 i0 n2 n3 i1 i2 q1 n4 n5 q2 n6 n7 q3 n8 n9 q4 o0 o1 q5 o2 o3 q6 o4 o5 I m) (ykM q0 n0 n1 i0 n2 n3 i1 i2 q1 n4 n5 q2 n6 n7 q3 n8 n9 q4 o0 o1 q5 o2 o3 q6 o4 o5 (q7,o6,o7,i3,q8,B0)) w:=⟨m',h1,_,rfl,rfl,h2⟩
theorem yBx (I:Nat → Option Addr → Nat → Nat → Int → Option Addr → Bool → World → Prop) (m0:Nat) (h0:I m0 q7 o6 o7 i3 q8 B0 w0)
 (hr:∀ m d0 d2 d1 c2 a0 a1 w,I m d0 d2 d1 c2 a0 a1 w →
 w.heap[n2]? = some (.cells #[.pointer a0,.bool a1] 133) →
 brB (decide (c2 < i0)) (
 ixA q0 n0 c2 3 fun e5 =>
 ya7 w e5 fun f9 => ya1 .i64 w (Addr.add e5 1) fun g4 => ya2 w (Addr.add e5 2) fun g6 h2 g9 =>
 ∀ c3,w.heap.size ≤ c3 →
 ∀ d7,Adv [] [c3] w d7 → d7.heap[n2]? = some (.cells #[.pointer a0,.bool a1] 133) →
 Calls pP 119 #[.int .i64 i1,.slice g6 h2 g9] d7 fun e d8 => ∃ f5 g5,e = .returned (.tuple #[.pointer f5,.int .i64 g5]) ∧ yaV [n2] [(n3,73),(c3,157)] [n3,c3] d7 d8 ∧ ∃ h4 u0,d8.heap[n2]? = some (.cells #[.pointer h4,.bool u0] 133) ∧
 Calls pP 62 #[(.pointer (some ⟨n2,0,none⟩)),(.bool (g5 != 0))] d8 fun e e7 => e = .returned (.tuple #[]) ∧ yaV [n2] [(n3,73),(c3,157)] [n3,c3] d8 e7 ∧ ∃ d6 e6,e7.heap[n2]? = some (.cells #[.pointer d6,.bool e6] 133) ∧
 yb7 d6 fun h9 =>
 ∀ d3,Adv [] [] e7 d3 → d3.heap[n2]? = some (.cells #[.pointer d6,.bool e6] 133) →
 yd4 d3 (Addr.add h9 3) fun m37 =>
 ydM pP (Instr.mapUpdate 51 (.map m37) (.agg #[.string f9,.int .i64 g4]) (.pointer f5)) d3 fun g1 => yaF [n2,n3,c3] d3 g1 ∧
 al g1 (.cells #[.string f9,.int .i64 g4] 33) fun g8 g2 =>
 ybC pP (Builtin.append_ #[28,28] 28 #[.slice d0 d2 d1,(.slice (some ⟨g8,0,none⟩) 1 1)]) g2 fun g7 h3 h1 g3 => yaF [n2,n3,c3] g2 g3 ∧
 KS (yEH q0 n0 n1 i0 n2 n3 i1 i2 q1 n4 n5 q2 n6 n7 q3 n8 n9 q4 o0 o1 q5 o2 o3 q6 o4 o5 I m) (ykM q0 n0 n1 i0 n2 n3 i1 i2 q1 n4 n5 q2 n6 n7 q3 n8 n9 q4 o0 o1 q5 o2 o3 q6 o4 o5 (g7,h3,h1,(IntKind.wrap .i64 (c2 + 1)),d6,e6)) g3)
 (
 yb7 a0 fun f8 =>
 ∀ d4,Adv [] [] w d4 → d4.heap[n2]? = some (.cells #[.pointer a0,.bool a1] 133) →
 ygI d4 (Addr.add f8 2) fun f6 =>
 Calls pP 72 #[.pointer a0] d4 fun e d5 => ∃ e9 f3 f1,e = .returned (.slice e9 f3 f1) ∧ yaV [n2] [(n3,73)] [n3] d4 d5 ∧ ∃ f7 u1,d5.heap[n2]? = some (.cells #[.pointer f7,.bool u1] 133) ∧ (ygI d5 (Addr.add f8 2) fun h5 => ((.pointer h5):Value) = (.pointer f6)) ∧ (((.pointer f7):Value) = (.pointer a0)) ∧
 Calls pP 71 #[.pointer f6,.slice e9 f3 f1] d5 fun e d9 => ∃ f0 f4 f2,e = .returned (.slice f0 f4 f2) ∧ yaV [n2] [(n3,73)] [n3] d5 d9 ∧ ∃ h6 u2,d9.heap[n2]? = some (.cells #[.pointer h6,.bool u2] 133) ∧
 Calls pP 120 #[.slice d0 d2 d1,.slice f0 f4 f2] d9 fun e e0 => ∃ g0,e = .returned (.bool g0) ∧ yaV [n2] [(n3,73)] [n3] d9 e0 ∧ ∃ h7 u3,e0.heap[n2]? = some (.cells #[.pointer h7,.bool u3] 133) ∧
 Calls pP 62 #[(.pointer (some ⟨n2,0,none⟩)),(.bool (!g0))] e0 fun e e8 => e = .returned (.tuple #[]) ∧ yaV [n2] [(n3,73)] [n3] e0 e8 ∧ ∃ h8 u4,e8.heap[n2]? = some (.cells #[.pointer h8,.bool u4] 133) ∧
 R (.tuple #[]) e8)) :
 yaO yr2 (yHh 396 [0,0,1,0,1,1]) (yHi [1,1,0,1,0] [] R) (ykM q0 n0 n1 i0 n2 n3 i1 i2 q1 n4 n5 q2 n6 n7 q3 n8 n9 q4 o0 o1 q5 o2 o3 q6 o4 o5 (q7,o6,o7,i3,q8,B0)) w0 :=
 lrule (ykM q0 n0 n1 i0 n2 n3 i1 i2 q1 n4 n5 q2 n6 n7 q3 n8 n9 q4 o0 o1 q5 o2 o3 q6 o4 o5) (U6 I) h0 (by rintro m ⟨d0,d2,d1,c2,a0,a1⟩ w h; exact ⟨by kernel_rfl,by kernel_rfl,fun js => Eq.mpr (by kernel_rfl) (hr m d0 d2 d1 c2 a0 a1 w h)⟩)
theorem yIS {b0:Nat} {a5 a4:Nat} {a0 a2:Nat} {a8 a7:Nat} {b3 b1:Nat} {b6 b5:Nat} {b9 b8:Nat} (hb:w.heap[b0]? = some (.cells #[.pointer q0,.bool B0] 133)) (h :
 ∀ b2,w.heap.size ≤ b2 →
 ∀ c2,Adv [] [b2] w c2 → c2.heap[b0]? = some (.cells #[.pointer q0,.bool B0] 133) →
 yaO yr2 (yHh 396 [0,0,1,0,1,1]) (yHi [1,1,0,1,0] [] R) (ykM q2 a0 a2 (a0:Int) b0 b2 i0 i1 q1 a5 a4 q2 a0 a2 q3 a8 a7 q4 b3 b1 q5 b6 b5 q6 b9 b8 (none,0,0,0,q0,B0)) c2) :
 CR pP 59 #[(.pointer (some ⟨b0,0,none⟩)),(.agg (Z4 i0 i1 q1 a5 a4 q2 a0 a2 q3 a8 a7 q4 b3 b1 q5 b6 b5 q6 b9 b8))] w R :=
 yaJ Tryz.wide_mixed (an:=yr3) Tryz.func59 rfl rfl (by kernel_rfl) rfl hb (Eq.mpr (by kernel_rfl) h)
def yr4:LA:=⟨[0,0,1,1,1],[0,3,15,16,17],[(0,0,0),(3,1,0)],2,[0]⟩
def yr5:List LA:=[yr4]
abbrev yHj:=dnF pP yr5 (code Tryz.f60)
abbrev yM8:=yaR pP yr5 (code Tryz.f60)
abbrev yHk (p:List Nat) (K:List Kh) (R:VWP):=yaR pP yr5 (code Tryz.f60) p K (ybE pP Tryz.f60 [0] R)
def ygA (c2:OA) (c4 c3:Nat) (c5:Int) (bm0 bm1:Nat) (c0 c1:Int) (a0:OA) (b2 a6:Nat) (a1:OA) (b3 a7:Nat) (a2:OA) (b4 a8:Nat) (a3:OA) (b5 a9:Nat) (a4:OA) (b6 b0:Nat) (a5:OA) (b7 b1:Nat):Int × (Option Addr) × Bool → List Value × List TB:=fun (c6,b8,b9) => ([(.pointer (some ⟨bm0,0,none⟩)),(.pointer (some ⟨bm1,0,none⟩)),.slice c2 c4 c3,.int .i64 c5,.int .i64 c6],[⟨bm0,133,[.pointer b8,.bool b9],true⟩,⟨bm1,73,[.int .i64 c0,.int .i64 c1,.slice a0 b2 a6,.slice a1 b3 a7,.slice a2 b4 a8,.slice a3 b5 a9,.slice a4 b6 b0,.slice a5 b7 b1],false⟩])
abbrev ynQ (c0:OA) (c2 c1:Nat) (c3:Int) (bm0 bm1:Nat) (b8 b9:Int) (a0:OA) (b2 a6:Nat) (a1:OA) (b3 a7:Nat) (a2:OA) (b4 a8:Nat) (a3:OA) (b5 a9:Nat) (a4:OA) (b6 b0:Nat) (a5:OA) (b7 b1:Nat) (I:Nat → Int → Option Addr → Bool → World → Prop) (m:Nat):Kh:=KG (ygA c0 c2 c1 c3 bm0 bm1 b8 b9 a0 b2 a6 a1 b3 a7 a2 b4 a8 a3 b5 a9 a4 b6 b0 a5 b7 b1) (U3 I) m
theorem yhF {I:Nat → Int → Option Addr → Bool → World → Prop} (m':Nat) (h1:m' < m) (h2:I m' i3 q7 B0 w):KS (ynQ q0 n0 n1 i0 n2 n3 i1 i2 q1 n4 n5 q2 n6 n7 q3 n8 n9 q4 o0 o1 q5 o2 o3 q6 o4 o5 I m) (ygA q0 n0 n1 i0 n2 n3 i1 i2 q1 n4 n5 q2 n6 n7 q3 n8 n9 q4 o0 o1 q5 o2 o3 q6 o4 o5 (i3,q7,B0)) w:=⟨m',h1,_,rfl,rfl,h2⟩
theorem yBy (I:Nat → Int → Option Addr → Bool → World → Prop) (m0:Nat) (h0:I m0 i3 q7 B0 w0)
 (hr:∀ m c4 c6 c7 w,I m c4 c6 c7 w →
 w.heap[n2]? = some (.cells #[.pointer c6,.bool c7] 133) →
 brB (decide (c4 < i0)) (
 ixA q0 n0 c4 4 fun e1 =>
 ya7 w e1 fun c9 => ya1 .i64 w (Addr.add e1 1) fun h6 => yb9 w (Addr.add e1 2) fun h4 => ya2 w (Addr.add e1 3) fun g4 g6 g5 =>
 ∀ c0,w.heap.size ≤ c0 →
 ∀ e2,Adv [] [c0] w e2 → e2.heap[n2]? = some (.cells #[.pointer c6,.bool c7] 133) →
 Calls pP 121 #[.int .i64 h6,.bool h4,.slice g4 g6 g5] e2 fun e e3 => ∃ d2 g3,e = .returned (.tuple #[.pointer d2,.int .i64 g3]) ∧ yaV [n2] [(n3,73),(c0,166)] [n3,c0] e2 e3 ∧ ∃ e7 e8,e3.heap[n2]? = some (.cells #[.pointer e7,.bool e8] 133) ∧
 brB (g3 != 0) (
 ∀ e4,Adv [] [] e3 e4 → e4.heap[n2]? = some (.cells #[.pointer e7,.bool e8] 133) →
 Calls pP 62 #[(.pointer (some ⟨n2,0,none⟩)),.bool true] e4 fun e f3 => e = .returned (.tuple #[]) ∧ yaV [n2] [(n3,73),(c0,166)] [n3,c0] e4 f3 ∧ ∃ d7 e9,f3.heap[n2]? = some (.cells #[.pointer d7,.bool e9] 133) ∧
 yb7 d7 fun g8 =>
 ∀ d3,Adv [] [] f3 d3 → d3.heap[n2]? = some (.cells #[.pointer d7,.bool e9] 133) →
 yd4 d3 (Addr.add g8 5) fun m45 =>
 ydM pP (Instr.mapUpdate 54 (.map m45) (.string c9) (.pointer d2)) d3 fun f9 => yaF [n2,n3,c0] d3 f9 ∧
 KS (ynQ q0 n0 n1 i0 n2 n3 i1 i2 q1 n4 n5 q2 n6 n7 q3 n8 n9 q4 o0 o1 q5 o2 o3 q6 o4 o5 I m) (ygA q0 n0 n1 i0 n2 n3 i1 i2 q1 n4 n5 q2 n6 n7 q3 n8 n9 q4 o0 o1 q5 o2 o3 q6 o4 o5 ((IntKind.wrap .i64 (c4 + 1)),d7,e9)) f9)
 (
 ∀ e5,Adv [] [] e3 e5 → e5.heap[n2]? = some (.cells #[.pointer e7,.bool e8] 133) →
 Calls pP 122 #[.string c9] e5 fun e c8 => ∃ f8,e = .returned (.bool f8) ∧ yaV [n2] [(n3,73),(c0,166)] [n3,c0] e5 c8 ∧ ∃ g7 h5,c8.heap[n2]? = some (.cells #[.pointer g7,.bool h5] 133) ∧
 brB (!f8) (
 Calls pP 62 #[(.pointer (some ⟨n2,0,none⟩)),.bool true] c8 fun e f4 => e = .returned (.tuple #[]) ∧ yaV [n2] [(n3,73),(c0,166)] [n3,c0] c8 f4 ∧ ∃ d8 f0,f4.heap[n2]? = some (.cells #[.pointer d8,.bool f0] 133) ∧
 yb7 d8 fun g9 =>
 ∀ d4,Adv [] [] f4 d4 → d4.heap[n2]? = some (.cells #[.pointer d8,.bool f0] 133) →
 yd4 d4 (Addr.add g9 5) fun m57 =>
 ydM pP (Instr.mapUpdate 54 (.map m57) (.string c9) (.pointer d2)) d4 fun g0 => yaF [n2,n3,c0] d4 g0 ∧
 KS (ynQ q0 n0 n1 i0 n2 n3 i1 i2 q1 n4 n5 q2 n6 n7 q3 n8 n9 q4 o0 o1 q5 o2 o3 q6 o4 o5 I m) (ygA q0 n0 n1 i0 n2 n3 i1 i2 q1 n4 n5 q2 n6 n7 q3 n8 n9 q4 o0 o1 q5 o2 o3 q6 o4 o5 ((IntKind.wrap .i64 (c4 + 1)),d8,f0)) g0)
 (
 brB (decide (c4 > 0)) (
 ixA q5 o2 (IntKind.wrap .i64 (c4 - 1)) 4 fun h1 =>
 ya7 c8 h1 fun f7 =>
 Calls pP 62 #[(.pointer (some ⟨n2,0,none⟩)),(.bool ((Op.bytesLess c9.toList f7.toList) || (c9.toList == f7.toList)))] c8 fun e f5 => e = .returned (.tuple #[]) ∧ yaV [n2] [(n3,73),(c0,166)] [n3,c0] c8 f5 ∧ ∃ d9 f1,f5.heap[n2]? = some (.cells #[.pointer d9,.bool f1] 133) ∧
 yb7 d9 fun h2 =>
 ∀ d5,Adv [] [] f5 d5 → d5.heap[n2]? = some (.cells #[.pointer d9,.bool f1] 133) →
 yd4 d5 (Addr.add h2 5) fun m66 =>
 ydM pP (Instr.mapUpdate 54 (.map m66) (.string c9) (.pointer d2)) d5 fun g1 => yaF [n2,n3,c0] d5 g1 ∧
 KS (ynQ q0 n0 n1 i0 n2 n3 i1 i2 q1 n4 n5 q2 n6 n7 q3 n8 n9 q4 o0 o1 q5 o2 o3 q6 o4 o5 I m) (ygA q0 n0 n1 i0 n2 n3 i1 i2 q1 n4 n5 q2 n6 n7 q3 n8 n9 q4 o0 o1 q5 o2 o3 q6 o4 o5 ((IntKind.wrap .i64 (c4 + 1)),d9,f1)) g1)
 (
 Calls pP 62 #[(.pointer (some ⟨n2,0,none⟩)),.bool false] c8 fun e f6 => e = .returned (.tuple #[]) ∧ yaV [n2] [(n3,73),(c0,166)] [n3,c0] c8 f6 ∧ ∃ e0 f2,f6.heap[n2]? = some (.cells #[.pointer e0,.bool f2] 133) ∧
 yb7 e0 fun h3 =>
 ∀ d6,Adv [] [] f6 d6 → d6.heap[n2]? = some (.cells #[.pointer e0,.bool f2] 133) →
 yd4 d6 (Addr.add h3 5) fun m73 =>
 ydM pP (Instr.mapUpdate 54 (.map m73) (.string c9) (.pointer d2)) d6 fun g2 => yaF [n2,n3,c0] d6 g2 ∧
 KS (ynQ q0 n0 n1 i0 n2 n3 i1 i2 q1 n4 n5 q2 n6 n7 q3 n8 n9 q4 o0 o1 q5 o2 o3 q6 o4 o5 I m) (ygA q0 n0 n1 i0 n2 n3 i1 i2 q1 n4 n5 q2 n6 n7 q3 n8 n9 q4 o0 o1 q5 o2 o3 q6 o4 o5 ((IntKind.wrap .i64 (c4 + 1)),e0,f2)) g2))))
 (
 R (.tuple #[]) w)) :
 yaO yr4 (yHj 396 [0,0,1,1,1]) (yHk [1,1,1,0] [] R) (ygA q0 n0 n1 i0 n2 n3 i1 i2 q1 n4 n5 q2 n6 n7 q3 n8 n9 q4 o0 o1 q5 o2 o3 q6 o4 o5 (i3,q7,B0)) w0 :=
 lrule (ygA q0 n0 n1 i0 n2 n3 i1 i2 q1 n4 n5 q2 n6 n7 q3 n8 n9 q4 o0 o1 q5 o2 o3 q6 o4 o5) (U3 I) h0 (by rintro m ⟨c4,c6,c7⟩ w h; exact ⟨by kernel_rfl,by kernel_rfl,fun js => Eq.mpr (by kernel_rfl) (hr m c4 c6 c7 w h)⟩)
theorem yIT {b0:Nat} {a5 a4:Nat} {a8 a7:Nat} {b3 b1:Nat} {b6 b5:Nat} {a0 a2:Nat} {b9 b8:Nat} (hb:w.heap[b0]? = some (.cells #[.pointer q0,.bool B0] 133)) (h :
 ∀ b2,w.heap.size ≤ b2 →
 ∀ w7,Adv [] [b2] w w7 → w7.heap[b0]? = some (.cells #[.pointer q0,.bool B0] 133) →
 Calls pP 62 #[(.pointer (some ⟨b0,0,none⟩)),(.bool (decide ((a0:Int) > 8)))] w7 fun e w8 => e = .returned (.tuple #[]) ∧ yaV [b0] [(b2,73)] [b2] w7 w8 ∧ ∃ p9 c2,w8.heap[b0]? = some (.cells #[.pointer p9,.bool c2] 133) ∧
 yaO yr4 (yHj 396 [0,0,1,1,1]) (yHk [1,1,1,0] [] R) (ygA q5 a0 a2 (a0:Int) b0 b2 i0 i1 q1 a5 a4 q2 a8 a7 q3 b3 b1 q4 b6 b5 q5 a0 a2 q6 b9 b8 (0,p9,c2)) w8) :
 CR pP 60 #[(.pointer (some ⟨b0,0,none⟩)),(.agg (Z4 i0 i1 q1 a5 a4 q2 a8 a7 q3 b3 b1 q4 b6 b5 q5 a0 a2 q6 b9 b8))] w R :=
 yaJ Tryz.wide_mixed (an:=yr5) Tryz.func60 rfl rfl (by kernel_rfl) rfl hb (Eq.mpr (by kernel_rfl) h)
theorem yIU {b1 b0:Nat} {b8 b7:Nat} {b5 b4:Nat} {a7 a6:Nat} {c1 c0:Nat} {a4 a3:Nat} (h :
 ∀ b2,w.heap.size ≤ b2 →
 ∀ w7,Adv [] [b2] w w7 →
 Calls pP 5 #[.int .i64 i0] w7 fun e w8 => ∃ p9 h0,e = .returned (.tuple #[.pointer p9,.int .i64 h0]) ∧ yaF [b2] w7 w8 ∧
 brB (h0 != 0) (
 R (.tuple #[.pointer none,.int .i64 131]) w8)
 (
 brB (decide (i1 < 0)) (
 R (.tuple #[.pointer none,.int .i64 131]) w8)
 (
 brB (decide (i1 > 1099511627776)) (
 R (.tuple #[.pointer none,.int .i64 131]) w8)
 (
 ∀ a0,w8.heap.size ≤ a0 →
 ∀ f9,Adv [] [a0] w8 f9 →
 Calls pP 58 #[.slice q0 b1 b0] f9 fun e e7 => ∃ d6 h1,e = .returned (.tuple #[.pointer d6,.int .i64 h1]) ∧ yaF [b2,a0] f9 e7 ∧
 ∀ a1,e7.heap.size ≤ a1 →
 brB (h1 != 0) (
 ∀ g8,Adv [] [a1] e7 g8 →
 R (.tuple #[.pointer none,.int .i64 131]) g8)
 (
 yb7 p9 fun z2 =>
 ∀ g0,Adv [] [a1] e7 g0 →
 st g0 (Addr.add z2 1) [.int .i64 i1] fun g1 => yaF [b2,a0,a1] g0 g1 ∧ (((.pointer d6):Value) = (.pointer d6)) ∧
 yb7 p9 fun z3 =>
 st g1 (Addr.add z3 2) [.pointer d6] fun g9 => yaF [b2,a0,a1] g1 g9 ∧
 ∀ e8,Adv [] [] g9 e8 → e8.heap[a0]? = some (.cells #[.pointer p9,.bool false] 133) →
 Calls pP 59 #[(.pointer (some ⟨a0,0,none⟩)),(.agg (Z4 i0 i1 q0 b1 b0 q1 b8 b7 q2 b5 b4 q3 a7 a6 q4 c1 c0 q5 a4 a3))] e8 fun e e9 => e = .returned (.tuple #[]) ∧ yaV [a0] [(b2,73),(a1,49)] [b2,a1] e8 e9 ∧ ∃ y8 z4,e9.heap[a0]? = some (.cells #[.pointer y8,.bool z4] 133) ∧
 Calls pP 60 #[(.pointer (some ⟨a0,0,none⟩)),(.agg (Z4 i0 i1 q0 b1 b0 q1 b8 b7 q2 b5 b4 q3 a7 a6 q4 c1 c0 q5 a4 a3))] e9 fun e f0 => e = .returned (.tuple #[]) ∧ yaV [a0] [(b2,73),(a1,49)] [b2,a1] e9 f0 ∧ ∃ y9 z5,f0.heap[a0]? = some (.cells #[.pointer y9,.bool z5] 133) ∧
 Calls pP 61 #[.slice q2 b5 b4,.slice q3 a7 a6] f0 fun e e2 => ∃ e1 h2,e = .returned (.tuple #[.pointer e1,.int .i64 h2]) ∧ yaV [a0] [(b2,73),(a1,49)] [b2,a1] f0 e2 ∧ ∃ g3 g5,e2.heap[a0]? = some (.cells #[.pointer g3,.bool g5] 133) ∧
 brB (h2 != 0) (
 Calls pP 62 #[(.pointer (some ⟨a0,0,none⟩)),.bool true] e2 fun e f1 => e = .returned (.tuple #[]) ∧ yaV [a0] [(b2,73),(a1,49)] [b2,a1] e2 f1 ∧ ∃ z0 z6,f1.heap[a0]? = some (.cells #[.pointer z0,.bool z6] 133) ∧
 Calls pP 65 #[.slice q5 a4 a3] f1 fun e e3 => ∃ f2 h3,e = .returned (.tuple #[.pointer f2,.int .i64 h3]) ∧ yaV [a0] [(b2,73),(a1,49)] [b2,a1] f1 e3 ∧ ∃ g4 g6,e3.heap[a0]? = some (.cells #[.pointer g4,.bool g6] 133) ∧
 brB (h3 != 0) (
 Calls pP 62 #[(.pointer (some ⟨a0,0,none⟩)),.bool true] e3 fun e e4 => e = .returned (.tuple #[]) ∧ yaV [a0] [(b2,73),(a1,49)] [b2,a1] e3 e4 ∧ ∃ z1 g7,e4.heap[a0]? = some (.cells #[.pointer z1,.bool g7] 133) ∧
 brB g7 (
 R (.tuple #[.pointer none,.int .i64 131]) e4)
 (
 yb7 p9 fun w5 =>
 st e4 (Addr.add w5 4) [.pointer e1] fun d7 => yaV [a0] [(b2,73),(a1,49)] [b2,a1] e4 d7 ∧ ∃ h4 x5,d7.heap[a0]? = some (.cells #[.pointer h4,.bool x5] 133) ∧
 yb7 p9 fun w6 =>
 st d7 (Addr.add w6 6) [.pointer f2] fun e6 => yaV [a0] [(b2,73),(a1,49)] [b2,a1] d7 e6 ∧ ∃ h5 x6,e6.heap[a0]? = some (.cells #[.pointer h5,.bool x6] 133) ∧
 R (.tuple #[.pointer p9,.int .i64 0]) e6))
 (
 ∀ c7,Adv [] [] e3 c7 → c7.heap[a0]? = some (.cells #[.pointer g4,.bool g6] 133) →
 c7.heap[a1]? = some (.cells #[.pointer d6] 49) →
 Calls pP 66 #[.slice q5 a4 a3,(.func (.func 67) #[] #[(.pointer (some ⟨a1,0,none⟩))])] c7 fun e c8 => ∃ f3,e = .returned (.bool f3) ∧ yaV [a0,a1] [(b2,73)] [b2] c7 c8 ∧ ∃ h6 x7,c8.heap[a0]? = some (.cells #[.pointer h6,.bool x7] 133) ∧ ∃ h7,c8.heap[a1]? = some (.cells #[.pointer h7] 49) ∧
 Calls pP 62 #[(.pointer (some ⟨a0,0,none⟩)),.bool f3] c8 fun e c4 => e = .returned (.tuple #[]) ∧ yaV [a0,a1] [(b2,73)] [b2] c8 c4 ∧ ∃ h8 f4,c4.heap[a0]? = some (.cells #[.pointer h8,.bool f4] 133) ∧ ∃ h9,c4.heap[a1]? = some (.cells #[.pointer h9] 49) ∧
 brB f4 (
 R (.tuple #[.pointer none,.int .i64 131]) c4)
 (
 yb7 p9 fun w9 =>
 st c4 (Addr.add w9 4) [.pointer e1] fun c9 => yaV [a0,a1] [(b2,73)] [b2] c4 c9 ∧ ∃ u0 x8,c9.heap[a0]? = some (.cells #[.pointer u0,.bool x8] 133) ∧ ∃ u1,c9.heap[a1]? = some (.cells #[.pointer u1] 49) ∧
 yb7 p9 fun x0 =>
 st c9 (Addr.add x0 6) [.pointer f2] fun d8 => yaV [a0,a1] [(b2,73)] [b2] c9 d8 ∧ ∃ u2 x9,d8.heap[a0]? = some (.cells #[.pointer u2,.bool x9] 133) ∧ ∃ u3,d8.heap[a1]? = some (.cells #[.pointer u3] 49) ∧
 R (.tuple #[.pointer p9,.int .i64 0]) d8)))
 (
 ∀ d0,Adv [] [] e2 d0 → d0.heap[a0]? = some (.cells #[.pointer g3,.bool g5] 133) →
 d0.heap[a1]? = some (.cells #[.pointer d6] 49) →
 Calls pP 63 #[.slice q3 a7 a6,(.func (.func 64) #[] #[(.pointer (some ⟨a1,0,none⟩))])] d0 fun e d1 => ∃ f5,e = .returned (.bool f5) ∧ yaV [a0,a1] [(b2,73)] [b2] d0 d1 ∧ ∃ u4 y0,d1.heap[a0]? = some (.cells #[.pointer u4,.bool y0] 133) ∧ ∃ u5,d1.heap[a1]? = some (.cells #[.pointer u5] 49) ∧
 Calls pP 62 #[(.pointer (some ⟨a0,0,none⟩)),.bool f5] d1 fun e d2 => e = .returned (.tuple #[]) ∧ yaV [a0,a1] [(b2,73)] [b2] d1 d2 ∧ ∃ u6 y1,d2.heap[a0]? = some (.cells #[.pointer u6,.bool y1] 133) ∧ ∃ u7,d2.heap[a1]? = some (.cells #[.pointer u7] 49) ∧
 Calls pP 65 #[.slice q5 a4 a3] d2 fun e c2 => ∃ e5 g2,e = .returned (.tuple #[.pointer e5,.int .i64 g2]) ∧ yaV [a0,a1] [(b2,73)] [b2] d2 c2 ∧ ∃ u9 y2,c2.heap[a0]? = some (.cells #[.pointer u9,.bool y2] 133) ∧ ∃ v0,c2.heap[a1]? = some (.cells #[.pointer v0] 49) ∧
 brB (g2 != 0) (
 Calls pP 62 #[(.pointer (some ⟨a0,0,none⟩)),.bool true] c2 fun e c5 => e = .returned (.tuple #[]) ∧ yaV [a0,a1] [(b2,73)] [b2] c2 c5 ∧ ∃ v1 f6,c5.heap[a0]? = some (.cells #[.pointer v1,.bool f6] 133) ∧ ∃ v2,c5.heap[a1]? = some (.cells #[.pointer v2] 49) ∧
 brB f6 (
 R (.tuple #[.pointer none,.int .i64 131]) c5)
 (
 yb7 p9 fun x1 =>
 st c5 (Addr.add x1 4) [.pointer e1] fun d3 => yaV [a0,a1] [(b2,73)] [b2] c5 d3 ∧ ∃ v3 y3,d3.heap[a0]? = some (.cells #[.pointer v3,.bool y3] 133) ∧ ∃ v4,d3.heap[a1]? = some (.cells #[.pointer v4] 49) ∧
 yb7 p9 fun x2 =>
 st d3 (Addr.add x2 6) [.pointer e5] fun d9 => yaV [a0,a1] [(b2,73)] [b2] d3 d9 ∧ ∃ v5 y4,d9.heap[a0]? = some (.cells #[.pointer v5,.bool y4] 133) ∧ ∃ v6,d9.heap[a1]? = some (.cells #[.pointer v6] 49) ∧
 R (.tuple #[.pointer p9,.int .i64 0]) d9))
 (
 Calls pP 66 #[.slice q5 a4 a3,(.func (.func 67) #[] #[(.pointer (some ⟨a1,0,none⟩))])] c2 fun e d4 => ∃ f7,e = .returned (.bool f7) ∧ yaV [a0,a1] [(b2,73)] [b2] c2 d4 ∧ ∃ v7 y5,d4.heap[a0]? = some (.cells #[.pointer v7,.bool y5] 133) ∧ ∃ v8,d4.heap[a1]? = some (.cells #[.pointer v8] 49) ∧
 Calls pP 62 #[(.pointer (some ⟨a0,0,none⟩)),.bool f7] d4 fun e c6 => e = .returned (.tuple #[]) ∧ yaV [a0,a1] [(b2,73)] [b2] d4 c6 ∧ ∃ v9 f8,c6.heap[a0]? = some (.cells #[.pointer v9,.bool f8] 133) ∧ ∃ w0,c6.heap[a1]? = some (.cells #[.pointer w0] 49) ∧
 brB f8 (
 R (.tuple #[.pointer none,.int .i64 131]) c6)
 (
 yb7 p9 fun x3 =>
 st c6 (Addr.add x3 4) [.pointer e1] fun d5 => yaV [a0,a1] [(b2,73)] [b2] c6 d5 ∧ ∃ w1 y6,d5.heap[a0]? = some (.cells #[.pointer w1,.bool y6] 133) ∧ ∃ w2,d5.heap[a1]? = some (.cells #[.pointer w2] 49) ∧
 yb7 p9 fun x4 =>
 st d5 (Addr.add x4 6) [.pointer e5] fun e0 => yaV [a0,a1] [(b2,73)] [b2] d5 e0 ∧ ∃ w3 y7,e0.heap[a0]? = some (.cells #[.pointer w3,.bool y7] 133) ∧ ∃ w4,e0.heap[a1]? = some (.cells #[.pointer w4] 49) ∧
 R (.tuple #[.pointer p9,.int .i64 0]) e0)))))))) :
 CR pP 32 #[(.agg (Z4 i0 i1 q0 b1 b0 q1 b8 b7 q2 b5 b4 q3 a7 a6 q4 c1 c0 q5 a4 a3))] w R :=
 yaB Tryz.wide_mixed (an:=[]) Tryz.func32 rfl rfl (by kernel_rfl) rfl (Eq.mpr (by kernel_rfl) h)
theorem yIV {a4 a3:Nat} (h :
 ∀ b2,w.heap.size ≤ b2 →
 ∀ w7,Adv [] [b2] w w7 →
 ygI w7 A0 fun p8 =>
 Calls pP 31 #[.pointer p8,(.agg #[.string s0,.int .i64 i2])] w7 fun e w9 => ∃ a7,e = .returned (.bool a7) ∧ yaF [b2] w7 w9 ∧
 R (.bool (!a7)) w9) :
 CR pP 64 #[(.agg (Z11 i0 i1 s0 i2 q0 a4 a3)),(.pointer (some A0))] w R :=
 yaB Tryz.wide_mixed (an:=[]) Tryz.func64 rfl rfl (by kernel_rfl) rfl (Eq.mpr (by kernel_rfl) h)
theorem yIW (h :
 ∀ b2,w.heap.size ≤ b2 →
 ∀ w7,Adv [] [b2] w w7 →
 ygI w7 A0 fun p8 =>
 Calls pP 31 #[.pointer p8,(.agg #[.string s1,.int .i64 i0])] w7 fun e w9 => ∃ a4,e = .returned (.bool a4) ∧ yaF [b2] w7 w9 ∧
 R (.bool (!a4)) w9) :
 CR pP 67 #[(.agg (Z6 s0 s1 i0 i1)),(.pointer (some A0))] w R :=
 yaB Tryz.wide_mixed (an:=[]) Tryz.func67 rfl rfl (by kernel_rfl) rfl (Eq.mpr (by kernel_rfl) h)
end
end Go.Proofs.YteldhjiiocmicaaGreat
namespace Go.Proofs.YteldhjiiocmicaaGreat
open Go Go.RowKit Go.Maps Go.MapKept Go.Sort Go.Shelf
set_option linter.unusedVariables false
set_option linter.unusedSimpArgs false
structure StIn (w:World) (x:PSt) (q:StS) (lv:List LgV) (mv:List MkV) (gv:List GdV):Prop where
 t:ybF w 2 ynU q.st.a q.st.n x.topics
 e:ybF w 1 ycO q.se.a q.se.n x.eps
 m:ybF w 5 MkV.cs q.sm.a q.sm.n mv
 d:∀ p ∈ mv,ybF w 3 yjZ p.s.a p.s.n p.x.last ∧ p.s.n ≤ p.s.c
 o:ybF w 4 yfX q.so.a q.so.n x.marks
 l:ybF w 3 LgV.cs q.sl.a q.sl.n lv
 ls:∀ p ∈ lv,∃ qs:List SgV,ybF w 3 SgV.cs p.s.a p.s.n qs ∧ (∀ r ∈ qs,ybF w 5 yjH r.s.a r.s.n r.x.l) ∧ qs.map (·.x) = p.x.segs ∧ qs.length ≤ 1000000
 g:ybF w 4 GdV.cs q.sg.a q.sg.n gv
 gs:∀ p ∈ gv,∃ qs:List SeatV,ybF w 4 ydV p.s.a p.s.n qs ∧ (∀ r ∈ qs,ybF w 1 yc8 r.ts.a r.ts.n r.x.topics ∧ r.x.topics.length ≤ 1000000) ∧ qs.map (·.x) = p.x.seats
 em:mv.map (·.x) = x.makers
 el:lv.map (·.x) = x.logs
 eg:gv.map (·.x) = x.groups
 nl:lv.length ≤ 1000000
 ng:gv.length ≤ 1000000
 nm:mv.length ≤ 1000000
 no:x.marks.length ≤ 1000000
 kl:∀ p ∈ lv,p.x.p.t.size ≤ maxLen ∧ s64 p.x.p.n
 kg:∀ p ∈ gv,p.x.name.size ≤ maxLen
 km:∀ p ∈ mv,p.x.part.t.size ≤ maxLen ∧ s64 p.x.part.n
 ko:∀ p ∈ x.marks,p.p.t.size ≤ maxLen
theorem StIn.keep0 {w w':World} {x:PSt} {q:StS} {lv:List LgV} {mv:List MkV} {gv:List GdV} (h:StIn w x q lv mv gv) (M:Mod [] w w'):StIn w' x q lv mv gv:=by
 refine { h with t:=h.t.keep0 M,e:=h.e.keep0 M,m:=h.m.keep0 M,d:=fun p hp => ⟨(h.d p hp).1.keep0 M,(h.d p hp).2⟩,o:=h.o.keep0 M,l:=h.l.keep0 M,g:=h.g.keep0 M,ls:=fun p hp => ?_,gs:=fun p hp => ?_ }
 ·obtain ⟨qs,h1,h2,h3,h4⟩:=h.ls p hp
  exact ⟨qs,h1.keep0 M,fun r hr => (h2 r hr).keep0 M,h3,h4⟩
 ·obtain ⟨qs,h1,h2,h3⟩:=h.gs p hp
  exact ⟨qs,h1.keep0 M,fun r hr => ⟨(h2 r hr).1.keep0 M,(h2 r hr).2⟩,h3⟩
abbrev brC (room now:Int) (pc ml pm mg po:Nat):Obj:=.cells #[.int .i64 room,.int .i64 now,.pointer (some ⟨pc,0,none⟩),.map (some ml),.pointer (some ⟨pm,0,none⟩),.map (some mg),.pointer (some ⟨po,0,none⟩)] 58
abbrev ldC (b:Nat) (t:Bool):Obj:=.cells #[.pointer (some ⟨b,0,none⟩),.bool t] 133
theorem yb6 {w:World} {b12 b:Nat} {t:Bool} (h:w.heap[b12]? = some (ldC b t)) (is:Bool) :
  Calls pP 62 #[.pointer (some ⟨b12,0,none⟩),.bool is] w fun e w' => e = .returned (.tuple #[]) ∧ w'.heap[b12]? = some (ldC b (t || is)) ∧ Mod [b12] w w':=by
 refine ya0 (yIR h ?_)
 refine yaE (fun g => ?_) fun g => ?_
 ·intro w1 A1 h1
  exact ⟨rfl,by rw [h1]; simp [g],A1.mod⟩
 ·intro w2 A2 h2
  exact ⟨rfl,by rw [h2]; simp [g],A2.mod⟩
def yjE {κ β:Type} [DecidableEq κ] (L:List (κ × β)):List (κ × β):=L.foldl (fun M q => put M q.1 q.2) []
theorem yxF {κ β:Type} [DecidableEq κ] (L:List (κ × β)) (q:κ × β):yjE (L ++ [q]) = put (yjE L) q.1 q.2:=by simp [yjE]
theorem yuV {κ β:Type} [DecidableEq κ]:∀ {L M:List (κ × β)},((M ++ L).map (·.1)).Nodup → L.foldl (fun M q => put M q.1 q.2) M = M ++ L
 | [],M,_ => by simp
 | x :: r,M,h => by
  have hn:lkp M x.1 = none:=yc1.2 fun p hp e => by
   rw [List.map_append,List.nodup_append] at h
   exact h.2.2 _ (List.mem_map.2 ⟨p,hp,rfl⟩) x.1 (by simp) e
  rw [List.foldl_cons,ycB hn,yuV (by simpa using h)]
  simp
structure LogsIn (w:World) (B ml:Nat) (room:Int) (ls:List PLogd) (LV:List (PPart × LogV)):Prop where
 m:yaS pP 33 hkp LogV.v w ml (yjE LV)
 e:LV.map (fun q => (⟨q.1,q.2.L⟩:PLogd)) = ls
 a:∀ q ∈ LV,yc6 w q.2.p room q.2.L q.2.F ∧ ∀ k ∈ q.2.F,B ≤ k
 p:LV.Pairwise fun a b => ydN a.2.F b.2.F
theorem LogsIn.keep {w w':World} {B ml:Nat} {room:Int} {ls:List PLogd} {LV:List (PPart × LogV)} {S:List Nat} (h:LogsIn w B ml room ls LV) (M:Mod S w w') (hS:∀ k ∈ S,k < B ∧ k ≠ ml):LogsIn w' B ml room ls LV :=
 ⟨h.m.keepM M fun hk => (hS _ hk).2 rfl,h.e,fun q hq => ⟨(h.a q hq).1.keep M fun k hk hk' => by have:=(h.a q hq).2 k hk'; have:=(hS k hk).1; omega,(h.a q hq).2⟩,h.p⟩
theorem yxG {P:Program} {w:World} {o:Obj} {s:Nat → Sem Value} {bs:List Nat} {F G:Option Addr → Nat → Nat → World → Prop} (h:al w o fun b w1 => ybC P (s b) w1 fun a n c w' => yaF bs w1 w' ∧ F a n c w') (k:∀ a n c w',F a n c w' → G a n c w'):al w o fun b w1 => ybC P (s b) w1 fun a n c w' => yaF bs w1 w' ∧ G a n c w' :=
 yxC h fun _ _ h => ykH h fun _ _ _ _ h => ⟨h.1,k _ _ _ _ h.2⟩
theorem yc6.noPart {w:World} {b:Nat} {room:Int} {L:List SegS} {F:List Nat} (h:yc6 w b room L F):∀ k ∈ F,∀ {cs:Array Value} {z:Nat × Nat},w.heap[k]? ≠ some (.cells cs 33 z):=by
 obtain ⟨sl,qs,hc,hR,hS,hP,rfl,rfl⟩:=h
 intro k hk cs z hz
 rcases List.mem_cons.1 hk with rfl | hk
 ·rw [hc] at hz; cases hz
 rcases List.mem_append.1 hk with hk | hk
 ·obtain ⟨_,_,cur,h1⟩:=yaP hR k hk
  rw [h1] at hz; cases hz
 ·obtain ⟨q,hq,hk⟩:=List.mem_flatMap.1 hk
  obtain ⟨sl,si,hc,hl,hi,e⟩:=hS q hq
  rw [e] at hk
  rcases List.mem_cons.1 hk with rfl | hk
  ·rw [hc] at hz; cases hz
  rcases List.mem_append.1 hk with hk | hk
  ·obtain ⟨_,_,cur,h1⟩:=yaP hl k hk
   rw [h1] at hz; cases hz
  ·obtain ⟨_,_,cur,h1⟩:=yaP hi k hk
   rw [h1] at hz; cases hz
set_option maxHeartbeats 2000000 in
theorem yEI {w:World} {b12 b pc ml pm mg po:Nat} {rm now:Int} {cat:TL} {Fc:List Nat} {t0:Bool} {x:PSt} {q:StS} {lv:List LgV} {mv:List MkV} {gv:List GdV} (hI:StIn w x q lv mv gv) (hl:w.heap[b12]? = some (ldC b t0)) (hb:w.heap[b]? = some (brC rm now pc ml pm mg po)) (hT:ydO w pc cat Fc) (hm:yaS pP 33 hkp LogV.v w ml [])
  (hcl:cat.length ≤ 8) (hct:∀ q ∈ cat,1 ≤ q.2 ∧ q.2 ≤ 8) (n1:ml ≠ b12) (n2:b ≠ ml) (n3:b ≠ b12) (n4:ml ∉ Fc) (n5:b12 ∉ Fc) (n6:∀ w',Mod [b12,ml] w w' → StIn w' x q lv mv gv) :
  Calls pP 59 #[.pointer (some ⟨b12,0,none⟩),stV x q] w fun e w' => e = .returned (.tuple #[]) ∧ Mod [b12,ml] w w' ∧ ∃ t',w'.heap[b12]? = some (ldC b t') ∧
   (t' = false ↔ t0 = false ∧ (∀ l ∈ x.logs,yrU x.room l.segs) ∧ x.logs.map (·.p) = yg3 cat) ∧ (t' = false → ∃ LV,LogsIn w' w.heap.size ml x.room x.logs LV):=by
 have hln:=hI.l.1
 have hnl:=hI.nl
 have lb12:=yaH hl
 have lb:=yaH hb
 have lml:=hm.lt
 have hlx:x.logs = lv.map (·.x):=hI.el.symm
 refine ya0 (yIS hl ?_)
 intro b2 f2 w74 A74 hc74
 have s74:=A74.mod.size
 have l2:=A74.lt b2 (by simp)
 have M74:Mod [b12,ml] w w74:=A74.mod.less (by simp)
 refine yBx (fun mm a n c ix p t w' => ∃ k:Nat,ix = k ∧ k ≤ lv.length ∧ p = some ⟨b,0,none⟩ ∧ Row w' w74.heap.size 33 2 yiH a n c ((lv.take k).map (·.x.p)) ∧
   ((t = false ∧ t0 = false ∧ (∀ q ∈ lv.take k,yrU x.room q.x.segs) ∧ ∃ LV,LogsIn w' w74.heap.size ml x.room ((lv.take k).map (·.x)) LV) ∨ (t = true ∧ (t0 = true ∨ ∃ q ∈ lv.take k,¬ yrU x.room q.x.segs) ∧ ∃ LX:List (PPart × Option Addr),yaS pP 33 hkp Value.pointer w' ml LX)) ∧ w74.heap.size ≤ w'.heap.size ∧ Mod [b12,ml] w w' ∧ mm = lv.length - k) lv.length
  ⟨0,rfl,by omega,rfl,Row.nil ..,?_,Nat.le_refl _,M74,rfl⟩ ?_
 ·have hm74:=hm.keepM0 A74.mod
  cases t0 with
  | false => exact .inl ⟨rfl,rfl,by simp,[],hm74,rfl,by simp,by simp⟩
  | true => exact .inr ⟨rfl,.inl rfl,[],hm74.sameV (by rfl)⟩
 rintro mm a8 n8 c8 ix p0 t w1 ⟨k,rfl,hk,rfl,hR,hD,w741,M1,rfl⟩ hcw
 have s1:=M1.size
 have h1:=n6 w1 M1
 have hb1:=M1.keep hb (by simp; exact ⟨n3,n2⟩)
 have lk1:=yaG hR
 refine yaC (fun hlt => ?_) fun hge => ?_
 ·obtain ⟨y,hy⟩:∃ y,lv[k]? = some y:=⟨_,List.getElem?_eq_getElem (by omega)⟩
  have hym:=List.mem_of_getElem? hy
  refine h1.l.ix hy fun q hq => yaL (x:=y.x.p.t) (by simpa [add_zero] using hq 0 _ rfl) (yaK (x:=y.x.p.n) (hq 1 _ rfl) (yaU (hq 2 _ rfl) ?_))
  intro b16 f16 w23 A23 hc23
  have l16:=A23.lt b16 (by simp)
  have s23:=A23.mod.size
  obtain ⟨qs,g1,g2,g3,g4⟩:=(h1.keep0 A23.mod).ls y hym
  refine (yBm g1 g4 g2 x.room).mono ?_
  rintro _ w24 ⟨_,rfl,pp,er,rfl,M24,hE,hG⟩
  rw [g3] at hE hG
  have s24:=M24.size
  refine ⟨_,_,rfl,yaF.of0 M24,_,_,M24.keep0 hc23,?_⟩
  refine (yb6 (M24.keep0 hc23) (er != 0)).mono ?_
  rintro _ w32 ⟨rfl,hc32,M32⟩
  have s32:=M32.size
  refine ⟨rfl,yaF.of M32 fun z hz _ hz' => by simp at hz hz'; subst hz'; omega,_,_,hc32,?_⟩
  refine ya6 ?_
  intro w36 A36 hc36
  have s36:=A36.mod.size
  have K24:Mod [] w1 w24:=A23.mod.go0 M24 (by simp)
  have K36:Mod [b12] w1 w36:=((K24.trans M32).trans A36.mod).less fun z hz _ => by simpa using hz
  have hb36:=K36.keep hb1 (by simpa using n3)
  refine yb2 (x:=some ml) (by rw [show (Addr.add ⟨b,0,none⟩ 3) = ⟨b,3,none⟩ from rfl,yaM hb36]; rfl) ?_
  obtain ⟨lk,hlk⟩:=yvX (p:=y.x.p) (hI.kl y hym).1 (hI.kl y hym).2
  have M36:Mod [b12,ml] w w36:=(M1.trans K36).less fun z hz _ => by simp at hz ⊢; omega
  have hR36:Row w36 w74.heap.size 33 2 yiH a8 n8 c8 ((lv.take k).map (·.x.p)):=yaA hR K36 fun z hz hz' => by simp at hz; subst hz; have:=(lk1 _ hz').1; omega
  have lkr:=yaG hR36
  have ek:=ye5 (k:=k) (by omega)
  have fin:∀ {w38:World} {t':Bool},Mod [ml] w36 w38 → w38.heap[b12]? = some (ldC b t') → ((t' = false ∧ t0 = false ∧ (∀ q ∈ lv.take (k + 1),yrU x.room q.x.segs) ∧ ∃ LV,LogsIn w38 w74.heap.size ml x.room ((lv.take (k + 1)).map (·.x)) LV) ∨ (t' = true ∧ (t0 = true ∨ ∃ q ∈ lv.take (k + 1),¬ yrU x.room q.x.segs) ∧ ∃ LX:List (PPart × Option Addr),yaS pP 33 hkp Value.pointer w38 ml LX)) →
    al w38 (.cells #[.string y.x.p.t,.int .i64 y.x.p.n] 33) fun b45 w46 => ybC pP (Builtin.append_ #[28,28] 28 #[.slice a8 n8 c8,.slice (some ⟨b45,0,none⟩) 1 1]) w46 fun a n c w' => yaF [b12,b2,b16] w46 w' ∧ ∃ k':Nat,IntKind.wrap .i64 ((k:Int) + 1) = k' ∧ k' ≤ lv.length ∧ (some ⟨b,0,none⟩:Option Addr) = some ⟨b,0,none⟩ ∧ Row w' w74.heap.size 33 2 yiH a n c ((lv.take k').map (·.x.p)) ∧
   ((t' = false ∧ t0 = false ∧ (∀ q ∈ lv.take k',yrU x.room q.x.segs) ∧ ∃ LV,LogsIn w' w74.heap.size ml x.room ((lv.take k').map (·.x)) LV) ∨ (t' = true ∧ (t0 = true ∨ ∃ q ∈ lv.take k',¬ yrU x.room q.x.segs) ∧ ∃ LX:List (PPart × Option Addr),yaS pP 33 hkp Value.pointer w' ml LX)) ∧ w74.heap.size ≤ w'.heap.size ∧ Mod [b12,ml] w w' ∧ lv.length - (k + 1) = lv.length - k':=by
   intro w38 t' M38 hc38 hD38
   have s38:=M38.size
   have hR38:=yaA hR36 M38 fun z hz hz' => by simp at hz; subst hz; have:=(lkr _ hz').1; omega
   refine yg2 (T:=33) (S:=28) (enc:=yiH) (y:=y.x.p) (f:=⟨a8,n8,c8⟩) yJu Tryz.underlying28 rfl (by decide) (by decide) hR38 rfl (yp5 _) (by simp; omega) (by omega) (fun z hz hz' => ?_) fun a4 c4 w47 hR47 M47 hk47 => ?_
   ·have h3:=lk1 z hz'
    simp at hz; omega
   have s47:=M47.size
   refine ⟨k + 1,ek,by omega,rfl,by rw [ybO hy,List.map_append]; exact hR47,?_,by omega,((M36.trans M38).trans M47).less fun z hz hl => ?_,rfl⟩
   ·rcases hD38 with ⟨e1,e2,e3,LV,hLV⟩ | ⟨e1,e2,LX,hLX⟩
    ·refine .inl ⟨e1,e2,e3,LV,hLV.m.keepM M47 fun hz => by have:=(lkr _ hz).1; omega,hLV.e,fun q hq => ⟨(hLV.a q hq).1.keep M47 fun z hz hz' => ?_,(hLV.a q hq).2⟩,hLV.p⟩
     obtain ⟨_,_,cur,hcr⟩:=yaP hR38 z hz
     exact (hLV.a q hq).1.noPart z hz' hcr
    ·exact .inr ⟨e1,e2,LX,hLX.keepM M47 fun hz => by have:=(lkr _ hz).1; omega⟩
   ·simp only [List.mem_append] at hz
    rcases hz with (hz | hz) | hz
    ·exact hz
    ·simp at hz; simp [hz]
    ·have:=(lkr z hz).1; omega
  have bs:ml ∉ [b12,b2,b16]:=by simp; exact ⟨n1,by omega,by omega⟩
  have tk:lv.take (k + 1) = lv.take k ++ [y]:=ybO hy
  rcases hD with ⟨rfl,e2,e3,LV,hLV⟩ | ⟨rfl,e2,LX,hLX⟩
  ·by_cases g:er = 0
   ·subst g
    have hy1:=hE.1 rfl
    obtain ⟨bl,F,rfl,hLF,hF⟩:=hG rfl
    have hL36:LogsIn w36 w74.heap.size ml x.room ((lv.take k).map (·.x)) LV:=hLV.keep K36 fun z hz => by simp at hz; subst hz; exact ⟨by omega,fun e => n1 e.symm⟩
    refine ye4 (hL36.m.setU (k:=y.x.p) (l:=lk) yAh yjV Tryz.underlying51 (v:=(⟨bl,y.x.segs,F⟩:LogV)) hlk bs (F:=fun w38 => yaS pP 33 hkp LogV.v w38 ml (put (yjE LV) y.x.p ⟨bl,y.x.segs,F⟩) ∧ Mod [ml] w36 w38) fun w38 h1 h2 => ⟨h1,h2⟩) fun w38 h => ⟨h.1,?_⟩
    obtain ⟨_,hm38,M38⟩:=h
    have hF36:∀ z ∈ F,w1.heap.size ≤ z:=fun z hz => by have:=hF z hz; omega
    have hLF36:yc6 w36 bl x.room y.x.segs F:=(hLF.keep M32 fun z hz hz' => by simp at hz; subst hz; have:=hF36 _ hz'; omega).keep A36.mod (by simp)
    refine yxG (fin M38 (M38.keep hc36 (by simpa using fun e => n1 e.symm)) (.inl ⟨by simp,e2,fun q hq => ?_,LV ++ [(y.x.p,⟨bl,y.x.segs,F⟩)],?_⟩)) fun _ _ _ _ h => ykN (lv.length - (k + 1)) (by omega) h
    ·rw [tk] at hq
     rcases List.mem_append.1 hq with hq | hq
     ·exact e3 q hq
     ·simp at hq; subst hq; exact hy1
    ·refine ⟨by rw [yxF]; exact hm38,by rw [tk,List.map_append,List.map_append,hLV.e]; rfl,fun q hq => ?_,List.pairwise_append.2 ⟨hLV.p,by simp,fun q hq q' hq' z hz hz' => ?_⟩⟩
     ·rcases List.mem_append.1 hq with hq | hq
      ·exact ⟨(hL36.a q hq).1.keep M38 fun z hz hz' => by simp at hz; subst hz; have:=(hL36.a q hq).2 _ hz'; omega,(hL36.a q hq).2⟩
      ·simp at hq; subst hq
       exact ⟨hLF36.keep M38 fun z hz hz' => by simp at hz; subst hz; have:=hF36 _ hz'; omega,fun z hz => by have:=hF36 z hz; omega⟩
     ·simp at hq'; subst hq'
      have:=(hLV.a q hq).1.lt z hz; have:=hF36 z hz'; omega
   ·have hX:yaS pP 33 hkp Value.pointer w36 ml ((yjE LV).map fun q => (q.1,(some ⟨q.2.p,0,none⟩:Option Addr))):=(hLV.m.keepM K36 (by simpa using n1)).sameV (by rw [List.map_map]; rfl)
    refine ye4 (hX.setU (k:=y.x.p) (l:=lk) yAh yjV Tryz.underlying51 (v:=pp) hlk bs (F:=fun w38 => yaS pP 33 hkp Value.pointer w38 ml (put ((yjE LV).map fun q => (q.1,(some ⟨q.2.p,0,none⟩:Option Addr))) y.x.p pp) ∧ Mod [ml] w36 w38) fun w38 h1 h2 => ⟨h1,h2⟩) fun w38 h => ⟨h.1,?_⟩
    obtain ⟨_,hm38,M38⟩:=h
    exact yxG (fin M38 (M38.keep hc36 (by simpa using fun e => n1 e.symm)) (.inr ⟨by simpa using g,.inr ⟨y,by rw [tk]; simp,fun hx => g (hE.2 hx)⟩,_,hm38⟩)) fun _ _ _ _ h => ykN (lv.length - (k + 1)) (by omega) h
  ·have hX:=hLX.keepM K36 (by simpa using n1)
   refine ye4 (hX.setU (k:=y.x.p) (l:=lk) yAh yjV Tryz.underlying51 (v:=pp) hlk bs (F:=fun w38 => yaS pP 33 hkp Value.pointer w38 ml (put LX y.x.p pp) ∧ Mod [ml] w36 w38) fun w38 h1 h2 => ⟨h1,h2⟩) fun w38 h => ⟨h.1,?_⟩
   obtain ⟨_,hm38,M38⟩:=h
   exact yxG (fin M38 (M38.keep hc36 (by simpa using fun e => n1 e.symm)) (.inr ⟨by simp,e2.imp_right fun ⟨q,hq,h⟩ => ⟨q,by rw [tk]; simp [hq],h⟩,_,hm38⟩)) fun _ _ _ _ h => ykN (lv.length - (k + 1)) (by omega) h
 ·have hk:k = lv.length:=by omega
  subst hk
  rw [List.take_length] at hR hD
  refine ya6 ?_
  intro w52 A52 hc52
  have hT1:ydO w1 pc cat Fc:=hT.keep M1 fun z hz hz' => by simp at hz; rcases hz with rfl | rfl <;> contradiction
  have hll:=ynP cat
  refine ydA (x:=some ⟨pc,0,none⟩) (by rw [show (Addr.add ⟨b,0,none⟩ 2) = ⟨b,2,none⟩ from rfl,yaM (A52.mod.keep0 hb1)]; rfl) ?_
  refine (yEw (A52.mod.keep0 hb1) (hT1.keep0 A52.mod) (by omega) (by omega)).mono ?_
  rintro _ w54 ⟨_,rfl,sn,rfl,hN,M54⟩
  have K54:Mod [] w1 w54:=A52.mod.go0 M54 (by simp)
  refine ⟨_,_,_,rfl,yaF.of0 M54,_,_,M54.keep0 hc52,ydA (x:=some ⟨pc,0,none⟩) (by rw [show (Addr.add ⟨b,0,none⟩ 2) = ⟨b,2,none⟩ from rfl,yaM (K54.keep0 hb1)]; rfl) rfl,rfl,?_⟩
  refine (ynN (hT1.keep0 K54) (by omega) (fun t ht => by have:=ynO hct t ht; omega) (by omega) (hN.sl ydB) (by simp; omega)).mono ?_
  rintro _ w61 ⟨_,rfl,sp,rfl,hP,M61⟩
  have K61:=K54.go0 M61 (by simp)
  refine ⟨_,_,_,rfl,yaF.of0 M61,_,_,M61.keep0 (M54.keep0 hc52),?_⟩
  refine (yJs ((hR.keep0 K61).sl ylK) (hP.sl ylK) (by simp; omega)).mono ?_
  rintro _ w67 ⟨rfl,M67⟩
  have K67:=K61.go0 M67 (by simp)
  refine ⟨_,rfl,yaF.of0 M67,_,_,M67.keep0 (M61.keep0 (M54.keep0 hc52)),?_⟩
  refine (yb6 (M67.keep0 (M61.keep0 (M54.keep0 hc52))) _).mono ?_
  rintro _ w71 ⟨rfl,hc71,M71⟩
  refine ⟨rfl,yaF.of M71 fun z hz _ hz' => by simp at hz hz'; omega,_,_,hc71,?_⟩
  have K71:Mod [b12] w1 w71:=(K67.trans M71).less fun z hz _ => by simpa using hz
  refine ⟨rfl,(M1.trans K71).less fun z hz _ => by simp at hz ⊢; omega,_,hc71,?_,?_⟩
  ·rw [hlx,List.map_map]
   have eP:yuT (yzR cat) (ycR cat) = yg3 cat:=rfl
   rw [show (ycR cat).map (·.t) = yzR cat from rfl,eP]
   simp only [Bool.or_eq_false_iff,Bool.not_eq_false',decide_eq_true_eq]
   rw [show ((fun q:PLogd => q.p) ∘ fun q:LgV => q.x) = fun q:LgV => q.x.p from rfl]
   rcases hD with ⟨rfl,e2,e3,_⟩ | ⟨rfl,e2,_⟩
   ·exact ⟨fun h => ⟨e2,fun l hl => by obtain ⟨q,hq,rfl⟩:=List.mem_map.1 hl; exact e3 q hq,h.2⟩,fun h => ⟨rfl,h.2.2⟩⟩
   ·refine ⟨fun h => (by cases h.1),fun h => ?_⟩
    rcases e2 with e2 | ⟨q,hq,e⟩
    ·rw [h.1] at e2; cases e2
    ·exact absurd (h.2.1 _ (List.mem_map.2 ⟨q,hq,rfl⟩)) e
  ·intro ht
   rcases hD with ⟨rfl,_,_,LV,hLV⟩ | ⟨rfl,_,_⟩
   ·have:=hLV.keep K71 fun z hz => by simp at hz; subst hz; exact ⟨by omega,fun e => n1 e.symm⟩
    rw [hlx]
    exact ⟨LV,this.m,this.e,fun q hq => ⟨(this.a q hq).1,fun z hz => by have:=(this.a q hq).2 z hz; omega⟩,this.p⟩
   ·simp at ht
end Go.Proofs.YteldhjiiocmicaaGreat
