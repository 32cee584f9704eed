/- Part 3 of the proof of PMPuts. -/
import Derived.Test.YtkbcmppbjfpjmaaGreatPMPutsK2
namespace Go.Proofs.YtkbcmppbjfpjmaaGreat
open Go Go.RowKit
set_option linter.all false
section
set_option maxRecDepth 100000
variable {R : VWP} {w w0 : World} {m : Nat} {i0 i1 i2 i3 i4 i5 i6 i7 i8 i9 j0 j1 j2 j3 j4 j5 j6 j7 j8 j9 k0 k1 k2 k3 k4 k5 k6 k7 k8 k9 l0 l1 l2 l3 l4 l5 l6 l7 l8 l9 : Int} {s0 s1 s2 s3 s4 s5 s6 s7 s8 s9 t0 t1 t2 t3 t4 t5 t6 t7 t8 t9 : BA} {n0 n1 n2 n3 n4 n5 n6 n7 n8 n9 o0 o1 o2 o3 o4 o5 o6 o7 o8 o9 p0 p1 p2 p3 p4 p5 p6 p7 p8 p9 : Nat} {q0 q1 q2 q3 q4 q5 q6 q7 q8 q9 r0 r1 r2 r3 r4 r5 r6 r7 r8 r9 : OA} {B0 B1 B2 B3 B4 B5 B6 B7 B8 B9 : Bool} {M0 M1 M2 M3 : Option Nat} {V0 V1 V2 V3 V4 V5 : Value} {A0 A1 A2 : Addr}
theorem yHE (h :
 brB (decide (i0 ≥ 0)) (
 R (.bool (decide (i0 ≤ 1099511627776))) w)
 (
 R (.bool false) w)) :
 CR pP 164 #[.int .i64 i0] w R :=
 yaA Tryz.wide_mixed (an := []) Tryz.func164 rfl rfl (by kernel_rfl) rfl (Eq.mpr (by kernel_rfl) h)
def yrT : LA := ⟨[0, 0, 1, 0, 1, 1], [34, 35, 36], [], 1, []⟩
def ytN : List LA := [yrT]
abbrev yHF := dnF pP ytN (code Tryz.f163)
abbrev yK5 := yaO pP ytN (code Tryz.f163)
abbrev yHG (p : List Nat) (K : List Kh) (R : VWP) := yaO pP ytN (code Tryz.f163) p K (ya4 pP Tryz.f163 [] R)
def ylN (a6 : OA) (a8 a7 : Nat) (a9 : Int) (bm0 : Nat) (a3 a4 a5 : Int) (a0 : OA) (a2 a1 : Nat) : Int → List Value × List TB := fun b0 => ([.slice a6 a8 a7, .int .i64 a9, .int .i64 b0], [⟨bm0, 46, [.int .i64 a3, .int .i64 a4, .int .i64 a5, .slice a0 a2 a1], false⟩])
abbrev yDK (a6 : OA) (a8 a7 : Nat) (a9 : Int) (bm0 : Nat) (a3 a4 a5 : Int) (a0 : OA) (a2 a1 : Nat) (I : Nat → Int → World → Prop) (m : Nat) : Kh := KG (ylN a6 a8 a7 a9 bm0 a3 a4 a5 a0 a2 a1) (U1 I) m
theorem yzR {I : Nat → Int → World → Prop} (m' : Nat) (h1 : m' < m) (h2 : I m' i4 w) : KS (yDK q0 n0 n1 i0 n2 i1 i2 i3 q1 n3 n4 I m) (ylN q0 n0 n1 i0 n2 i1 i2 i3 q1 n3 n4 i4) w := ⟨m', h1, _, rfl, rfl, h2⟩
theorem yzS {a7 : OA} {a0 : OA} (I : Nat → Int → World → Prop) (m0 : Nat) (h0 : I m0 i4 w0)
 (hr : ∀ m a6 w, I m a6 w →
 brB (decide (a6 < i0)) (
 ixA a7 n0 a6 4 fun q9 =>
 yaT w q9 fun b8 => yaQ w (Addr.add q9 1) fun b6 => yaT w (Addr.add q9 2) fun b9 => yaQ w (Addr.add q9 3) fun b7 =>
 ∀ b2, w.heap.size ≤ b2 →
 ∀ b3, Adv [] [b2] w b3 →
 Calls pP 95 #[(.agg (Z7 b8 b6 b9 b7))] b3 fun e b4 => ∃ b5, e = .returned (.int .i64 b5) ∧ yaE [n2, b2] b3 b4 ∧
 brB (b5 != 0) (
 R (.int .i64 b5) b4)
 (
 KS (yDK a7 n0 n1 i0 n2 i1 i2 i3 a0 n3 n4 I m) (ylN a7 n0 n1 i0 n2 i1 i2 i3 a0 n3 n4 (IntKind.wrap .i64 (a6 + 1))) b4))
 (
 R (.int .i64 0) w)) :
 yaK yrT (yHF 396 [0, 0, 1, 0, 1, 1]) (yHG [1, 1, 0, 1, 0] [] R) (ylN a7 n0 n1 i0 n2 i1 i2 i3 a0 n3 n4 i4) w0 :=
 lrule (ylN a7 n0 n1 i0 n2 i1 i2 i3 a0 n3 n4) (U1 I) h0 (by rintro m a6 w h; exact ⟨by kernel_rfl, by kernel_rfl, fun js => Eq.mpr (by kernel_rfl) (hr m a6 w h)⟩)
theorem yHH (h :
 ∀ b1, w.heap.size ≤ b1 →
 ∀ w2, Adv [] [b1] w w2 →
 Calls pP 164 #[.int .i64 i0] w2 fun e w3 => ∃ t4, e = .returned (.bool t4) ∧ yaE [b1] w2 w3 ∧
 brB (!t4) (
 R (.int .i64 1) w3)
 (
 Calls pP 164 #[.int .i64 i1] w3 fun e w5 => ∃ t6, e = .returned (.bool t6) ∧ yaE [b1] w3 w5 ∧
 brB (!t6) (
 R (.int .i64 1) w5)
 (
 Calls pP 164 #[.int .i64 i2] w5 fun e w7 => ∃ t8, e = .returned (.bool t8) ∧ yaE [b1] w5 w7 ∧
 brB (!t8) (
 R (.int .i64 1) w7)
 (
 brB ((n0 : Int) == 0) (
 R (.int .i64 30) w7)
 (
 brB (decide ((n0 : Int) > 16)) (
 R (.int .i64 2) w7)
 (
 yaK yrT (yHF 396 [0, 0, 1, 0, 1, 1]) (yHG [1, 1, 0, 1, 0] [] R) (ylN q0 n0 n1 (n0 : Int) b1 i0 i1 i2 q0 n0 n1 0) w7)))))) :
 CR pP 163 #[(.agg (Z8 i0 i1 i2 q0 n0 n1))] w R :=
 yaA Tryz.wide_mixed (an := ytN) Tryz.func163 rfl rfl (by kernel_rfl) rfl (Eq.mpr (by kernel_rfl) h)
def yrU : LA := ⟨[0, 0, 1, 0, 1, 1, 1, 1], [1, 3], [(1, 0, 0)], 1, []⟩
def ytO : List LA := [yrU]
abbrev yHI := dnF pP ytO (code Tryz.f126)
abbrev yK6 := yaO pP ytO (code Tryz.f126)
abbrev yHJ (p : List Nat) (K : List Kh) (R : VWP) := yaO pP ytO (code Tryz.f126) p K (ya4 pP Tryz.f126 [] R)
def ylO (bm0 : Nat) (a3 a4 a5 : Int) (a0 : OA) (a2 a1 : Nat) : Int → List Value × List TB := fun a6 => ([(.pointer (some ⟨bm0, 0, none⟩)), .int .i64 a6], [⟨bm0, 46, [.int .i64 a3, .int .i64 a4, .int .i64 a5, .slice a0 a2 a1], false⟩])
abbrev yDL (bm0 : Nat) (a3 a4 a5 : Int) (a0 : OA) (a2 a1 : Nat) (I : Nat → Int → World → Prop) (m : Nat) : Kh := KG (ylO bm0 a3 a4 a5 a0 a2 a1) (U1 I) m
theorem yzT {I : Nat → Int → World → Prop} (m' : Nat) (h1 : m' < m) (h2 : I m' i3 w) : KS (yDL n0 i0 i1 i2 q0 n1 n2 I m) (ylO n0 i0 i1 i2 q0 n1 n2 i3) w := ⟨m', h1, _, rfl, rfl, h2⟩
theorem yzU {a1 : OA} (I : Nat → Int → World → Prop) (m0 : Nat) (h0 : I m0 i3 w0)
 (hr : ∀ m a6 w, I m a6 w →
 brB (decide (a6 < (n1 : Int))) (
 ixA a1 n1 a6 4 fun q9 =>
 yaT w q9 fun b2 => yaQ w (Addr.add q9 1) fun b0 => yaT w (Addr.add q9 2) fun b3 => yaQ w (Addr.add q9 3) fun b1 =>
 Calls pP 103 #[(.agg (Z7 b2 b0 b3 b1))] w fun e a7 => ∃ a8, e = .returned (.int .i64 a8) ∧ yaE [n0] w a7 ∧
 brB (a8 != 0) (
 R (.int .i64 a8) a7)
 (
 KS (yDL n0 i0 i1 i2 a1 n1 n2 I m) (ylO n0 i0 i1 i2 a1 n1 n2 (IntKind.wrap .i64 (a6 + 1))) a7))
 (
 R (.int .i64 0) w)) :
 yaK yrU (yHI 394 [0, 0, 1, 0, 1, 1, 1, 1]) (yHJ [1, 1, 1, 1, 0, 1, 0] [] R) (ylO n0 i0 i1 i2 a1 n1 n2 i3) w0 :=
 lrule (ylO n0 i0 i1 i2 a1 n1 n2) (U1 I) h0 (by rintro m a6 w h; exact ⟨by kernel_rfl, by kernel_rfl, fun js => Eq.mpr (by kernel_rfl) (hr m a6 w h)⟩)
theorem yHK (h :
 ∀ b1, w.heap.size ≤ b1 →
 ∀ w2, Adv [] [b1] w w2 →
 Calls pP 36 #[.int .i64 i0] w2 fun e w3 => ∃ t4, e = .returned (.bool t4) ∧ yaE [b1] w2 w3 ∧
 brB (!t4) (
 R (.int .i64 1) w3)
 (
 Calls pP 36 #[.int .i64 i1] w3 fun e w5 => ∃ t6, e = .returned (.bool t6) ∧ yaE [b1] w3 w5 ∧
 brB (!t6) (
 R (.int .i64 1) w5)
 (
 Calls pP 36 #[.int .i64 i2] w5 fun e w7 => ∃ t8, e = .returned (.bool t8) ∧ yaE [b1] w5 w7 ∧
 brB (!t8) (
 R (.int .i64 1) w7)
 (
 brB ((n0 : Int) == 0) (
 R (.int .i64 30) w7)
 (
 brB (decide ((n0 : Int) > 16)) (
 R (.int .i64 2) w7)
 (
 yaK yrU (yHI 394 [0, 0, 1, 0, 1, 1, 1, 1]) (yHJ [1, 1, 1, 1, 0, 1, 0] [] R) (ylO b1 i0 i1 i2 q0 n0 n1 0) w7)))))) :
 CR pP 126 #[(.agg (Z8 i0 i1 i2 q0 n0 n1))] w R :=
 yaA Tryz.wide_mixed (an := ytO) Tryz.func126 rfl rfl (by kernel_rfl) rfl (Eq.mpr (by kernel_rfl) h)
def yrV : LA := ⟨[0, 0, 1, 0, 1, 1], [0, 1, 5], [], 0, []⟩
def ytP : List LA := [yrV]
abbrev yHL := dnF pP ytP (code Tryz.f130)
abbrev yK7 := yaO pP ytP (code Tryz.f130)
abbrev yHM (p : List Nat) (K : List Kh) (R : VWP) := yaO pP ytP (code Tryz.f130) p K (ya4 pP Tryz.f130 [] R)
def ylP (a0 : OA) (a4 a2 : Nat) (a1 : OA) (a5 a3 : Nat) : Int → List Value × List TB := fun a6 => ([.slice a0 a4 a2, .slice a1 a5 a3, .int .i64 a6], [])
abbrev yDM (a0 : OA) (a4 a2 : Nat) (a1 : OA) (a5 a3 : Nat) (I : Nat → Int → World → Prop) (m : Nat) : Kh := KG (ylP a0 a4 a2 a1 a5 a3) (U1 I) m
theorem yzV {I : Nat → Int → World → Prop} (m' : Nat) (h1 : m' < m) (h2 : I m' i0 w) : KS (yDM q0 n0 n1 q1 n2 n3 I m) (ylP q0 n0 n1 q1 n2 n3 i0) w := ⟨m', h1, _, rfl, rfl, h2⟩
theorem yzW {a2 : OA} {a3 : OA} (I : Nat → Int → World → Prop) (m0 : Nat) (h0 : I m0 i0 w0)
 (hr : ∀ m a0 w, I m a0 w →
 brB (decide (a0 < (n0 : Int))) (
 ixA a2 n0 a0 4 fun q1 =>
 yaT w q1 fun t2 => yaQ w (Addr.add q1 1) fun s3 => yaT w (Addr.add q1 2) fun t4 => yaQ w (Addr.add q1 3) fun s5 =>
 ixA a3 n2 a0 4 fun q6 =>
 yaT w q6 fun t7 => yaQ w (Addr.add q6 1) fun s8 => yaT w (Addr.add q6 2) fun t9 => yaQ w (Addr.add q6 3) fun a8 =>
 ∃ a9, (∀ w', Mod [] w w' → Sem.run pP (do eqGuard .neq 53 (.tmp 20) (.tmp 24) (.agg (Z7 t2 s3 t4 s5)) (.agg (Z7 t7 s8 t9 a8)); Go.binOp .neq 53 (.agg (Z7 t2 s3 t4 s5)) (.agg (Z7 t7 s8 t9 a8))) w' = .ok (.bool a9) w') ∧
 brB a9 (
 ∀ b0, Adv [] [] w b0 →
 R (.bool false) b0)
 (
 ∀ b1, Adv [] [] w b1 →
 KS (yDM a2 n0 n1 a3 n2 n3 I m) (ylP a2 n0 n1 a3 n2 n3 (IntKind.wrap .i64 (a0 + 1))) b1))
 (
 R (.bool true) w)) :
 yaK yrV (yHL 396 [0, 0, 1, 0, 1, 1]) (yHM [1, 1, 0, 1, 0] [] R) (ylP a2 n0 n1 a3 n2 n3 i0) w0 :=
 lrule (ylP a2 n0 n1 a3 n2 n3) (U1 I) h0 (by rintro m a0 w h; exact ⟨by kernel_rfl, by kernel_rfl, fun js => Eq.mpr (by kernel_rfl) (hr m a0 w h)⟩)
theorem yHN (h :
 brB ((n0 : Int) != (n2 : Int)) (
 R (.bool false) w)
 (
 yaK yrV (yHL 396 [0, 0, 1, 0, 1, 1]) (yHM [1, 1, 0, 1, 0] [] R) (ylP q0 n0 n1 q1 n2 n3 0) w)) :
 CR pP 130 #[.slice q0 n0 n1, .slice q1 n2 n3] w R :=
 yaA Tryz.wide_mixed (an := ytP) Tryz.func130 rfl rfl (by kernel_rfl) rfl (Eq.mpr (by kernel_rfl) h)
theorem yHO (h :
 ∀ b1, w.heap.size ≤ b1 →
 ∀ b2, w.heap.size ≤ b2 →
 brB (i0 == i3) (
 brB (i1 == i4) (
 brB (i2 == i5) (
 ∀ w3, Adv [] [b2, b1] w w3 →
 Calls pP 130 #[.slice q0 n0 n1, .slice q1 n2 n3] w3 fun e w4 => ∃ t5, e = .returned (.bool t5) ∧ yaE [b1, b2] w3 w4 ∧
 R (.bool t5) w4)
 (
 ∀ w6, Adv [] [b2, b1] w w6 →
 R (.bool false) w6))
 (
 ∀ w7, Adv [] [b2, b1] w w7 →
 R (.bool false) w7))
 (
 ∀ w8, Adv [] [b2, b1] w w8 →
 R (.bool false) w8)) :
 CR pP 108 #[(.agg (Z8 i0 i1 i2 q0 n0 n1)), (.agg (Z8 i3 i4 i5 q1 n2 n3))] w R :=
 yaA Tryz.wide_mixed (an := []) Tryz.func108 rfl rfl (by kernel_rfl) rfl (Eq.mpr (by kernel_rfl) h)
theorem yHP (h :
 al w (.cells #[(.string (⟨#[116, 110]⟩ : BA)), (.string (⟨#[110]⟩ : BA)), (.string (⟨#[112, 98]⟩ : BA)), (.string (⟨#[112, 111, 110]⟩ : BA)), (.string (⟨#[112, 111]⟩ : BA)), (.string (⟨#[112]⟩ : BA)), (.string (⟨#[103, 109, 110, 114, 108]⟩ : BA)), (.string (⟨#[103, 109, 101]⟩ : BA)), (.string (⟨#[103, 109, 101]⟩ : BA)), (.string (⟨#[103, 109, 101]⟩ : BA)), (.string (⟨#[103, 109, 101, 112, 111]⟩ : BA)), (.string (⟨#[103, 112]⟩ : BA)), (.string (⟨#[110]⟩ : BA))] 9) fun b1 w2 =>
 ixA (some ⟨b1, 0, none⟩) 13 i0 1 fun q3 =>
 yaQ w2 q3 fun s4 =>
 R (.string s4) w2) :
 CR pP 101 #[.int .i64 i0] w R :=
 yaA Tryz.wide_mixed (an := []) Tryz.func101 rfl rfl (by kernel_rfl) rfl (Eq.mpr (by kernel_rfl) h)
def yrW : LA := ⟨[0, 0, 1, 0, 1], [0, 1, 5], [], 0, []⟩
def ytQ : List LA := [yrW]
abbrev yHQ := dnF pP ytQ (code Tryz.f124)
abbrev yK8 := yaO pP ytQ (code Tryz.f124)
abbrev yHR (p : List Nat) (K : List Kh) (R : VWP) := yaO pP ytQ (code Tryz.f124) p K (ya4 pP Tryz.f124 [] R)
def ylQ (a0 : BA) (a1 : Int) : Int → List Value × List TB := fun a2 => ([.string a0, .int .u8 a1, .int .i64 a2], [])
abbrev yDN (a0 : BA) (a1 : Int) (I : Nat → Int → World → Prop) (m : Nat) : Kh := KG (ylQ a0 a1) (U1 I) m
theorem yzX {I : Nat → Int → World → Prop} (m' : Nat) (h1 : m' < m) (h2 : I m' i1 w) : KS (yDN s0 i0 I m) (ylQ s0 i0 i1) w := ⟨m', h1, _, rfl, rfl, h2⟩
theorem yzY (I : Nat → Int → World → Prop) (m0 : Nat) (h0 : I m0 i1 w0)
 (hr : ∀ m a1 w, I m a1 w →
 brB (decide (a1 < (s0.size : Int))) (
 ixS s0 a1 fun x1 =>
 brB (x1 == i0) (
 R (.bool true) w)
 (
 KS (yDN s0 i0 I m) (ylQ s0 i0 (IntKind.wrap .i64 (a1 + 1))) w))
 (
 R (.bool false) w)) :
 yaK yrW (yHQ 397 [0, 0, 1, 0, 1]) (yHR [1, 0, 1, 0] [] R) (ylQ s0 i0 i1) w0 :=
 lrule (ylQ s0 i0) (U1 I) h0 (by rintro m a1 w h; exact ⟨by kernel_rfl, by kernel_rfl, fun js => Eq.mpr (by kernel_rfl) (hr m a1 w h)⟩)
theorem yHS (h :
 yaK yrW (yHQ 397 [0, 0, 1, 0, 1]) (yHR [1, 0, 1, 0] [] R) (ylQ s0 i0 0) w) :
 CR pP 124 #[.string s0, .int .u8 i0] w R :=
 yaA Tryz.wide_mixed (an := ytQ) Tryz.func124 rfl rfl (by kernel_rfl) rfl (Eq.mpr (by kernel_rfl) h)
def yrX : LA := ⟨[0, 0, 1, 0, 1], [0, 1, 5], [], 0, []⟩
def ytR : List LA := [yrX]
abbrev yHT := dnF pP ytR (code Tryz.f136)
abbrev yK9 := yaO pP ytR (code Tryz.f136)
abbrev yHU (p : List Nat) (K : List Kh) (R : VWP) := yaO pP ytR (code Tryz.f136) p K (ya4 pP Tryz.f136 [] R)
def ylR (a0 a1 : BA) : Int → List Value × List TB := fun a2 => ([.string a0, .string a1, .int .i64 a2], [])
abbrev yDO (a0 a1 : BA) (I : Nat → Int → World → Prop) (m : Nat) : Kh := KG (ylR a0 a1) (U1 I) m
theorem yzZ {I : Nat → Int → World → Prop} (m' : Nat) (h1 : m' < m) (h2 : I m' i0 w) : KS (yDO s0 s1 I m) (ylR s0 s1 i0) w := ⟨m', h1, _, rfl, rfl, h2⟩
theorem yz0 (I : Nat → Int → World → Prop) (m0 : Nat) (h0 : I m0 i0 w0)
 (hr : ∀ m a0 w, I m a0 w →
 brB (decide (a0 < (s0.size : Int))) (
 brB (decide (a0 < (s1.size : Int))) (
 ixS s0 a0 fun x1 =>
 ixS s1 a0 fun x2 =>
 brB (x1 != x2) (
 ixS s0 a0 fun x3 =>
 ixS s1 a0 fun x4 =>
 ∀ w5, Adv [] [] w w5 →
 R (.bool (decide (x3 < x4))) w5)
 (
 ∀ w6, Adv [] [] w w6 →
 KS (yDO s0 s1 I m) (ylR s0 s1 (IntKind.wrap .i64 (a0 + 1))) w6))
 (
 R (.bool (decide ((s0.size : Int) < (s1.size : Int)))) w))
 (
 R (.bool (decide ((s0.size : Int) < (s1.size : Int)))) w)) :
 yaK yrX (yHT 397 [0, 0, 1, 0, 1]) (yHU [1, 0, 1, 0] [] R) (ylR s0 s1 i0) w0 :=
 lrule (ylR s0 s1) (U1 I) h0 (by rintro m a0 w h; exact ⟨by kernel_rfl, by kernel_rfl, fun js => Eq.mpr (by kernel_rfl) (hr m a0 w h)⟩)
theorem yHV (h :
 yaK yrX (yHT 397 [0, 0, 1, 0, 1]) (yHU [1, 0, 1, 0] [] R) (ylR s0 s1 0) w) :
 CR pP 136 #[.string s0, .string s1] w R :=
 yaA Tryz.wide_mixed (an := ytR) Tryz.func136 rfl rfl (by kernel_rfl) rfl (Eq.mpr (by kernel_rfl) h)
def yrY : LA := ⟨[0, 0, 1, 0, 1, 1], [0, 3], [], 0, []⟩
def ytS : List LA := [yrY]
abbrev yHW := dnF pP ytS (code Tryz.f125)
abbrev yLa := yaO pP ytS (code Tryz.f125)
abbrev yHX (p : List Nat) (K : List Kh) (R : VWP) := yaO pP ytS (code Tryz.f125) p K (ya4 pP Tryz.f125 [] R)
def yj3 (a0 : OA) (a2 a1 : Nat) : Int → List Value × List TB := fun a3 => ([.slice a0 a2 a1, .int .i64 a3], [])
abbrev yz1 (a0 : OA) (a2 a1 : Nat) (I : Nat → Int → World → Prop) (m : Nat) : Kh := KG (yj3 a0 a2 a1) (U1 I) m
theorem yp4 {I : Nat → Int → World → Prop} (m' : Nat) (h1 : m' < m) (h2 : I m' i0 w) : KS (yz1 q0 n0 n1 I m) (yj3 q0 n0 n1 i0) w := ⟨m', h1, _, rfl, rfl, h2⟩
theorem yz2 {a2 : OA} (I : Nat → Int → World → Prop) (m0 : Nat) (h0 : I m0 i0 w0)
 (hr : ∀ m a1 w, I m a1 w →
 brB (decide (a1 < (n0 : Int))) (
 ixA a2 n0 a1 1 fun q1 =>
 ∀ w2, Adv [] [] w w2 →
 yaQ w2 q1 fun s3 =>
 Calls pP 104 #[.string s3] w2 fun e w4 => ∃ t5, e = .returned (.bool t5) ∧
 brB (!t5) (
 R (.bool false) w4)
 (
 brB (decide (a1 > 0)) (
 ixA a2 n0 (IntKind.wrap .i64 (a1 - 1)) 1 fun q6 =>
 yaQ w4 q6 fun s7 =>
 ixA a2 n0 a1 1 fun q8 =>
 yaQ w4 q8 fun s9 =>
 Calls pP 136 #[.string s7, .string s9] w4 fun e a6 => ∃ a5, e = .returned (.bool a5) ∧
 brB (!a5) (
 R (.bool false) a6)
 (
 KS (yz1 a2 n0 n1 I m) (yj3 a2 n0 n1 (IntKind.wrap .i64 (a1 + 1))) a6))
 (
 KS (yz1 a2 n0 n1 I m) (yj3 a2 n0 n1 (IntKind.wrap .i64 (a1 + 1))) w4)))
 (
 R (.bool true) w)) :
 yaK yrY (yHW 396 [0, 0, 1, 0, 1, 1]) (yHX [1, 1, 0, 1, 0] [] R) (yj3 a2 n0 n1 i0) w0 :=
 lrule (yj3 a2 n0 n1) (U1 I) h0 (by rintro m a1 w h; exact ⟨by kernel_rfl, by kernel_rfl, fun js => Eq.mpr (by kernel_rfl) (hr m a1 w h)⟩)
theorem yHY (h :
 brB (decide ((n0 : Int) < 1)) (
 R (.bool false) w)
 (
 brB (decide ((n0 : Int) > 8)) (
 R (.bool false) w)
 (
 yaK yrY (yHW 396 [0, 0, 1, 0, 1, 1]) (yHX [1, 1, 0, 1, 0] [] R) (yj3 q0 n0 n1 0) w))) :
 CR pP 125 #[.slice q0 n0 n1] w R :=
 yaA Tryz.wide_mixed (an := ytS) Tryz.func125 rfl rfl (by kernel_rfl) rfl (Eq.mpr (by kernel_rfl) h)
def ya1 : LA := ⟨[1, 0, 1, 1, 1], [1, 3, 54], [(1, 0, 0)], 1, []⟩
def ynJ : LA := ⟨[1, 1, 1, 1], [1, 3], [(1, 0, 0)], 1, []⟩
def yfE : LA := ⟨[1, 0, 1, 1, 1, 1], [1, 3, 82], [(1, 0, 0)], 1, []⟩
def ynK : LA := ⟨[1, 1, 1, 1, 1], [1, 3], [(1, 0, 0)], 1, []⟩
def ycT : LA := ⟨[1, 0, 1, 1, 1, 1, 1], [1, 3, 110], [(1, 0, 0)], 1, []⟩
def ynL : LA := ⟨[1, 1, 1, 1, 1, 1], [1, 3], [(1, 0, 0)], 1, []⟩
def ytT : List LA := [ya1, ynJ, yfE, ynK, ycT, ynL]
abbrev ya5 := dnF pP ytT (code Tryz.f123)
abbrev yLb := yaO pP ytT (code Tryz.f123)
abbrev ya6 (p : List Nat) (K : List Kh) (R : VWP) := yaO pP ytT (code Tryz.f123) p K (ya4 pP Tryz.f123 [] R)
def ybA : ByteArray × Bool × Nat × Int × ByteArray × Int × Int × Int × Int × Int × Int × (Option Addr) × Nat × Nat × ByteArray × ByteArray × Int × Bool × (Option Addr) × Nat × Nat → List Value × List TB := fun (b9, b8, bm0, b1, a9, b2, b3, b4, b5, b6, b7, a6, a8, a7, b0, a3, a5, a4, a0, a2, a1) => ([(.pointer (some ⟨bm0, 0, none⟩)), .string b9, .bool b8], [⟨bm0, 49, [.int .i64 b1, .string a9, .int .i64 b2, .int .i64 b3, .int .i64 b4, .int .i64 b5, .int .i64 b6, .int .i64 b7, .slice a6 a8 a7, .string b0, .string a3, .int .i64 a5, .bool a4, .slice a0 a2 a1], false⟩])
def ytU : ByteArray × Nat × Int × ByteArray × Int × Int × Int × Int × Int × Int × (Option Addr) × Nat × Nat × ByteArray × ByteArray × Int × Bool × (Option Addr) × Nat × Nat → List Value × List TB := fun (b8, bm0, b1, a9, b2, b3, b4, b5, b6, b7, a6, a8, a7, b0, a3, a5, a4, a0, a2, a1) => ([(.pointer (some ⟨bm0, 0, none⟩)), .string b8], [⟨bm0, 49, [.int .i64 b1, .string a9, .int .i64 b2, .int .i64 b3, .int .i64 b4, .int .i64 b5, .int .i64 b6, .int .i64 b7, .slice a6 a8 a7, .string b0, .string a3, .int .i64 a5, .bool a4, .slice a0 a2 a1], false⟩])
def yiI : ByteArray × Bool × Nat × Int × ByteArray × Int × Int × Int × Int × Int × Int × (Option Addr) × Nat × Nat × ByteArray × ByteArray × Int × Bool × (Option Addr) × Nat × Nat → List Value × List TB := fun (b9, b8, bm0, b1, a9, b2, b3, b4, b5, b6, b7, a6, a8, a7, b0, a3, a5, a4, a0, a2, a1) => ([(.pointer (some ⟨bm0, 0, none⟩)), .string b9, .bool b8], [⟨bm0, 49, [.int .i64 b1, .string a9, .int .i64 b2, .int .i64 b3, .int .i64 b4, .int .i64 b5, .int .i64 b6, .int .i64 b7, .slice a6 a8 a7, .string b0, .string a3, .int .i64 a5, .bool a4, .slice a0 a2 a1], false⟩])
def ytV : ByteArray × Nat × Int × ByteArray × Int × Int × Int × Int × Int × Int × (Option Addr) × Nat × Nat × ByteArray × ByteArray × Int × Bool × (Option Addr) × Nat × Nat → List Value × List TB := fun (b8, bm0, b1, a9, b2, b3, b4, b5, b6, b7, a6, a8, a7, b0, a3, a5, a4, a0, a2, a1) => ([(.pointer (some ⟨bm0, 0, none⟩)), .string b8], [⟨bm0, 49, [.int .i64 b1, .string a9, .int .i64 b2, .int .i64 b3, .int .i64 b4, .int .i64 b5, .int .i64 b6, .int .i64 b7, .slice a6 a8 a7, .string b0, .string a3, .int .i64 a5, .bool a4, .slice a0 a2 a1], false⟩])
def yd5 : ByteArray × Bool × Nat × Int × ByteArray × Int × Int × Int × Int × Int × Int × (Option Addr) × Nat × Nat × ByteArray × ByteArray × Int × Bool × (Option Addr) × Nat × Nat → List Value × List TB := fun (b9, b8, bm0, b1, a9, b2, b3, b4, b5, b6, b7, a6, a8, a7, b0, a3, a5, a4, a0, a2, a1) => ([(.pointer (some ⟨bm0, 0, none⟩)), .string b9, .bool b8], [⟨bm0, 49, [.int .i64 b1, .string a9, .int .i64 b2, .int .i64 b3, .int .i64 b4, .int .i64 b5, .int .i64 b6, .int .i64 b7, .slice a6 a8 a7, .string b0, .string a3, .int .i64 a5, .bool a4, .slice a0 a2 a1], false⟩])
def ytW : ByteArray × Nat × Int × ByteArray × Int × Int × Int × Int × Int × Int × (Option Addr) × Nat × Nat × ByteArray × ByteArray × Int × Bool × (Option Addr) × Nat × Nat → List Value × List TB := fun (b8, bm0, b1, a9, b2, b3, b4, b5, b6, b7, a6, a8, a7, b0, a3, a5, a4, a0, a2, a1) => ([(.pointer (some ⟨bm0, 0, none⟩)), .string b8], [⟨bm0, 49, [.int .i64 b1, .string a9, .int .i64 b2, .int .i64 b3, .int .i64 b4, .int .i64 b5, .int .i64 b6, .int .i64 b7, .slice a6 a8 a7, .string b0, .string a3, .int .i64 a5, .bool a4, .slice a0 a2 a1], false⟩])
def yz3 (b9 : BA) (b8 : Bool) (bm0 : Nat) (b1 : Int) (a9 : BA) (b2 b3 b4 b5 b6 b7 : Int) (a6 : OA) (a8 a7 : Nat) (b0 a3 : BA) (a5 : Int) (a4 : Bool) (a0 : OA) (a2 a1 : Nat) (R : VWP) (w : World) : Prop :=
 brB b8 (
 R (.bool false) w)
 (
 yaS ynJ ((ya5 396 [1, 1, 1, 1]) (ya6 [1, 1, 1] [] R)) (ytU (b9, bm0, b1, a9, b2, b3, b4, b5, b6, b7, a6, a8, a7, b0, a3, a5, a4, a0, a2, a1)) w)
theorem yCA (J : ByteArray → Bool → Nat → Int → ByteArray → Int → Int → Int → Int → Int → Int → Option Addr → Nat → Nat → ByteArray → ByteArray → Int → Bool → Option Addr → Nat → Nat → World → Prop) (h0 : J s0 B0 n0 i0 s1 i1 i2 i3 i4 i5 i6 q0 n1 n2 s2 s3 i7 B1 q1 n3 n4 w0)
 (hr : ∀ d6 d5 bm0 b1 a9 b2 b3 b4 b5 b6 b7 a6 a8 a7 b0 s1 a5 a4 a1 a3 a2 w, J d6 d5 bm0 b1 a9 b2 b3 b4 b5 b6 b7 a6 a8 a7 b0 s1 a5 a4 a1 a3 a2 w → yz3 d6 d5 bm0 b1 a9 b2 b3 b4 b5 b6 b7 a6 a8 a7 b0 s1 a5 a4 a1 a3 a2 R w) :
 yaS ya1 ((ya5 396 [1, 0, 1, 1, 1]) (ya6 [1, 1, 1, 0] [] R)) (ybA (s0, B0, n0, i0, s1, i1, i2, i3, i4, i5, i6, q0, n1, n2, s2, s3, i7, B1, q1, n3, n4)) w0 :=
 crule (ybA) (V21 J) h0 (by rintro ⟨d6, d5, bm0, b1, a9, b2, b3, b4, b5, b6, b7, a6, a8, a7, b0, s1, a5, a4, a1, a3, a2⟩ w h; exact ⟨by kernel_rfl, by kernel_rfl, fun js => Eq.mpr (by kernel_rfl) (hr d6 d5 bm0 b1 a9 b2 b3 b4 b5 b6 b7 a6 a8 a7 b0 s1 a5 a4 a1 a3 a2 w h)⟩)
theorem yE6 (h : yz3 s0 B0 n0 i0 s1 i1 i2 i3 i4 i5 i6 q0 n1 n2 s2 s3 i7 B1 q1 n3 n4 R w) :
 yaS ya1 ((ya5 396 [1, 0, 1, 1, 1]) (ya6 [1, 1, 1, 0] [] R)) (ybA (s0, B0, n0, i0, s1, i1, i2, i3, i4, i5, i6, q0, n1, n2, s2, s3, i7, B1, q1, n3, n4)) w :=
 yCA (fun d9 d7 bm0' c9 c7 d0 d1 d2 d3 d4 d5 c4 c6 c5 c8 b3 b7 b5 a6 b0 a8 w' => d9 = s0 ∧ d7 = B0 ∧ bm0' = n0 ∧ c9 = i0 ∧ c7 = s1 ∧ d0 = i1 ∧ d1 = i2 ∧ d2 = i3 ∧ d3 = i4 ∧ d4 = i5 ∧ d5 = i6 ∧ c4 = q0 ∧ c6 = n1 ∧ c5 = n2 ∧ c8 = s2 ∧ b3 = s3 ∧ b7 = i7 ∧ b5 = B1 ∧ a6 = q1 ∧ b0 = n3 ∧ a8 = n4 ∧ w' = w) ⟨rfl, rfl, rfl, rfl, rfl, rfl, rfl, rfl, rfl, rfl, rfl, rfl, rfl, rfl, rfl, rfl, rfl, rfl, rfl, rfl, rfl, rfl⟩ (by rintro d9 d7 bm0' c9 c7 d0 d1 d2 d3 d4 d5 c4 c6 c5 c8 b3 b7 b5 a6 b0 a8 w' ⟨rfl, rfl, rfl, rfl, rfl, rfl, rfl, rfl, rfl, rfl, rfl, rfl, rfl, rfl, rfl, rfl, rfl, rfl, rfl, rfl, rfl, rfl⟩; exact h)
def ytX (b8 : BA) (bm0 : Nat) (b4 : Int) (b2 : BA) (b5 b6 b7 a7 a8 a9 : Int) (b0 : OA) (a3 b1 : Nat) (b3 a4 : BA) (a6 : Int) (a5 : Bool) (a0 : OA) (a2 a1 : Nat) (R : VWP) (w : World) : Prop :=
 Calls pP 124 #[.string b8, .int .u8 98] w fun e w9 => ∃ b9, e = .returned (.bool b9) ∧ yaE [bm0] w w9 ∧
 brB (!b9) (
 brB (a7 != 0) (
 yaS yfE ((ya5 395 [1, 0, 1, 1, 1, 1]) (ya6 [1, 1, 1, 1, 0] [] R)) (yiI (b8, true, bm0, b4, b2, b5, b6, b7, a7, a8, a9, b0, a3, b1, b3, a4, a6, a5, a0, a2, a1)) w9)
 (
 brB (a8 != 0) (
 yaS yfE ((ya5 395 [1, 0, 1, 1, 1, 1]) (ya6 [1, 1, 1, 1, 0] [] R)) (yiI (b8, true, bm0, b4, b2, b5, b6, b7, a7, a8, a9, b0, a3, b1, b3, a4, a6, a5, a0, a2, a1)) w9)
 (
 brB (a9 != 0) (
 yaS yfE ((ya5 395 [1, 0, 1, 1, 1, 1]) (ya6 [1, 1, 1, 1, 0] [] R)) (yiI (b8, true, bm0, b4, b2, b5, b6, b7, a7, a8, a9, b0, a3, b1, b3, a4, a6, a5, a0, a2, a1)) w9)
 (
 yaS yfE ((ya5 395 [1, 0, 1, 1, 1, 1]) (ya6 [1, 1, 1, 1, 0] [] R)) (yiI (b8, (decide ((a3 : Int) > 0)), bm0, b4, b2, b5, b6, b7, a7, a8, a9, b0, a3, b1, b3, a4, a6, a5, a0, a2, a1)) w9))))
 (
 yaS yfE ((ya5 395 [1, 0, 1, 1, 1, 1]) (ya6 [1, 1, 1, 1, 0] [] R)) (yiI (b8, false, bm0, b4, b2, b5, b6, b7, a7, a8, a9, b0, a3, b1, b3, a4, a6, a5, a0, a2, a1)) w9)
theorem yCB (J : ByteArray → Nat → Int → ByteArray → Int → Int → Int → Int → Int → Int → Option Addr → Nat → Nat → ByteArray → ByteArray → Int → Bool → Option Addr → Nat → Nat → World → Prop) (h0 : J s0 n0 i0 s1 i1 i2 i3 i4 i5 i6 q0 n1 n2 s2 s3 i7 B0 q1 n3 n4 w0)
 (hr : ∀ d5 bm0 b1 a9 b2 b3 b4 b5 b6 b7 a6 a8 a7 b0 s1 a5 a4 a1 a3 a2 w, J d5 bm0 b1 a9 b2 b3 b4 b5 b6 b7 a6 a8 a7 b0 s1 a5 a4 a1 a3 a2 w → ytX d5 bm0 b1 a9 b2 b3 b4 b5 b6 b7 a6 a8 a7 b0 s1 a5 a4 a1 a3 a2 R w) :
 yaS ynJ ((ya5 396 [1, 1, 1, 1]) (ya6 [1, 1, 1] [] R)) (ytU (s0, n0, i0, s1, i1, i2, i3, i4, i5, i6, q0, n1, n2, s2, s3, i7, B0, q1, n3, n4)) w0 :=
 crule (ytU) (V20 J) h0 (by rintro ⟨d5, bm0, b1, a9, b2, b3, b4, b5, b6, b7, a6, a8, a7, b0, s1, a5, a4, a1, a3, a2⟩ w h; exact ⟨by kernel_rfl, by kernel_rfl, fun js => Eq.mpr (by kernel_rfl) (hr d5 bm0 b1 a9 b2 b3 b4 b5 b6 b7 a6 a8 a7 b0 s1 a5 a4 a1 a3 a2 w h)⟩)
theorem yE7 (h : ytX s0 n0 i0 s1 i1 i2 i3 i4 i5 i6 q0 n1 n2 s2 s3 i7 B0 q1 n3 n4 R w) :
 yaS ynJ ((ya5 396 [1, 1, 1, 1]) (ya6 [1, 1, 1] [] R)) (ytU (s0, n0, i0, s1, i1, i2, i3, i4, i5, i6, q0, n1, n2, s2, s3, i7, B0, q1, n3, n4)) w :=
 yCB (fun d7 bm0' c9 c7 d0 d1 d2 d3 d4 d5 c4 c6 c5 c8 b3 b7 b5 a6 b0 a8 w' => d7 = s0 ∧ bm0' = n0 ∧ c9 = i0 ∧ c7 = s1 ∧ d0 = i1 ∧ d1 = i2 ∧ d2 = i3 ∧ d3 = i4 ∧ d4 = i5 ∧ d5 = i6 ∧ c4 = q0 ∧ c6 = n1 ∧ c5 = n2 ∧ c8 = s2 ∧ b3 = s3 ∧ b7 = i7 ∧ b5 = B0 ∧ a6 = q1 ∧ b0 = n3 ∧ a8 = n4 ∧ w' = w) ⟨rfl, rfl, rfl, rfl, rfl, rfl, rfl, rfl, rfl, rfl, rfl, rfl, rfl, rfl, rfl, rfl, rfl, rfl, rfl, rfl, rfl⟩ (by rintro d7 bm0' c9 c7 d0 d1 d2 d3 d4 d5 c4 c6 c5 c8 b3 b7 b5 a6 b0 a8 w' ⟨rfl, rfl, rfl, rfl, rfl, rfl, rfl, rfl, rfl, rfl, rfl, rfl, rfl, rfl, rfl, rfl, rfl, rfl, rfl, rfl, rfl⟩; exact h)
def yz4 (b9 : BA) (b8 : Bool) (bm0 : Nat) (b1 : Int) (a9 : BA) (b2 b3 b4 b5 b6 b7 : Int) (a6 : OA) (a8 a7 : Nat) (b0 a3 : BA) (a5 : Int) (a4 : Bool) (a0 : OA) (a2 a1 : Nat) (R : VWP) (w : World) : Prop :=
 brB b8 (
 R (.bool false) w)
 (
 yaS ynK ((ya5 395 [1, 1, 1, 1, 1]) (ya6 [1, 1, 1, 1] [] R)) (ytV (b9, bm0, b1, a9, b2, b3, b4, b5, b6, b7, a6, a8, a7, b0, a3, a5, a4, a0, a2, a1)) w)
theorem yCC (J : ByteArray → Bool → Nat → Int → ByteArray → Int → Int → Int → Int → Int → Int → Option Addr → Nat → Nat → ByteArray → ByteArray → Int → Bool → Option Addr → Nat → Nat → World → Prop) (h0 : J s0 B0 n0 i0 s1 i1 i2 i3 i4 i5 i6 q0 n1 n2 s2 s3 i7 B1 q1 n3 n4 w0)
 (hr : ∀ d6 d5 bm0 b1 a9 b2 b3 b4 b5 b6 b7 a6 a8 a7 b0 s1 a5 a4 a1 a3 a2 w, J d6 d5 bm0 b1 a9 b2 b3 b4 b5 b6 b7 a6 a8 a7 b0 s1 a5 a4 a1 a3 a2 w → yz4 d6 d5 bm0 b1 a9 b2 b3 b4 b5 b6 b7 a6 a8 a7 b0 s1 a5 a4 a1 a3 a2 R w) :
 yaS yfE ((ya5 395 [1, 0, 1, 1, 1, 1]) (ya6 [1, 1, 1, 1, 0] [] R)) (yiI (s0, B0, n0, i0, s1, i1, i2, i3, i4, i5, i6, q0, n1, n2, s2, s3, i7, B1, q1, n3, n4)) w0 :=
 crule (yiI) (V21 J) h0 (by rintro ⟨d6, d5, bm0, b1, a9, b2, b3, b4, b5, b6, b7, a6, a8, a7, b0, s1, a5, a4, a1, a3, a2⟩ w h; exact ⟨by kernel_rfl, by kernel_rfl, fun js => Eq.mpr (by kernel_rfl) (hr d6 d5 bm0 b1 a9 b2 b3 b4 b5 b6 b7 a6 a8 a7 b0 s1 a5 a4 a1 a3 a2 w h)⟩)
theorem yE8 (h : yz4 s0 B0 n0 i0 s1 i1 i2 i3 i4 i5 i6 q0 n1 n2 s2 s3 i7 B1 q1 n3 n4 R w) :
 yaS yfE ((ya5 395 [1, 0, 1, 1, 1, 1]) (ya6 [1, 1, 1, 1, 0] [] R)) (yiI (s0, B0, n0, i0, s1, i1, i2, i3, i4, i5, i6, q0, n1, n2, s2, s3, i7, B1, q1, n3, n4)) w :=
 yCC (fun d9 d7 bm0' c9 c7 d0 d1 d2 d3 d4 d5 c4 c6 c5 c8 b3 b7 b5 a6 b0 a8 w' => d9 = s0 ∧ d7 = B0 ∧ bm0' = n0 ∧ c9 = i0 ∧ c7 = s1 ∧ d0 = i1 ∧ d1 = i2 ∧ d2 = i3 ∧ d3 = i4 ∧ d4 = i5 ∧ d5 = i6 ∧ c4 = q0 ∧ c6 = n1 ∧ c5 = n2 ∧ c8 = s2 ∧ b3 = s3 ∧ b7 = i7 ∧ b5 = B1 ∧ a6 = q1 ∧ b0 = n3 ∧ a8 = n4 ∧ w' = w) ⟨rfl, rfl, rfl, rfl, rfl, rfl, rfl, rfl, rfl, rfl, rfl, rfl, rfl, rfl, rfl, rfl, rfl, rfl, rfl, rfl, rfl, rfl⟩ (by rintro d9 d7 bm0' c9 c7 d0 d1 d2 d3 d4 d5 c4 c6 c5 c8 b3 b7 b5 a6 b0 a8 w' ⟨rfl, rfl, rfl, rfl, rfl, rfl, rfl, rfl, rfl, rfl, rfl, rfl, rfl, rfl, rfl, rfl, rfl, rfl, rfl, rfl, rfl, rfl⟩; exact h)
def ytY (b8 : BA) (bm0 : Nat) (b1 : Int) (b0 : BA) (b2 b3 b4 b5 b6 b7 : Int) (a7 : OA) (a9 a8 : Nat) (a6 a1 : BA) (a0 : Int) (a5 : Bool) (a2 : OA) (a4 a3 : Nat) (R : VWP) (w : World) : Prop :=
 Calls pP 124 #[.string b8, .int .u8 103] w fun e b9 => ∃ c6, e = .returned (.bool c6) ∧ yaE [bm0] w b9 ∧
 brB (!c6) (
 brB (!(a6.toList == (⟨#[]⟩ : BA).toList)) (
 yaS ycT ((ya5 394 [1, 0, 1, 1, 1, 1, 1]) (ya6 [1, 1, 1, 1, 1, 0] [] R)) (yd5 (b8, true, bm0, b1, b0, b2, b3, b4, b5, b6, b7, a7, a9, a8, a6, a1, a0, a5, a2, a4, a3)) b9)
 (
 Calls pP 124 #[.string b8, .int .u8 109] b9 fun e c0 => ∃ c7, e = .returned (.bool c7) ∧ yaE [bm0] b9 c0 ∧
 brB (!c7) (
 brB (!(a1.toList == (⟨#[]⟩ : BA).toList)) (
 yaS ycT ((ya5 394 [1, 0, 1, 1, 1, 1, 1]) (ya6 [1, 1, 1, 1, 1, 0] [] R)) (yd5 (b8, true, bm0, b1, b0, b2, b3, b4, b5, b6, b7, a7, a9, a8, a6, a1, a0, a5, a2, a4, a3)) c0)
 (
 Calls pP 124 #[.string b8, .int .u8 101] c0 fun e c2 => ∃ c8, e = .returned (.bool c8) ∧ yaE [bm0] c0 c2 ∧
 brB (!c8) (
 yaS ycT ((ya5 394 [1, 0, 1, 1, 1, 1, 1]) (ya6 [1, 1, 1, 1, 1, 0] [] R)) (yd5 (b8, (a0 != 0), bm0, b1, b0, b2, b3, b4, b5, b6, b7, a7, a9, a8, a6, a1, a0, a5, a2, a4, a3)) c2)
 (
 yaS ycT ((ya5 394 [1, 0, 1, 1, 1, 1, 1]) (ya6 [1, 1, 1, 1, 1, 0] [] R)) (yd5 (b8, false, bm0, b1, b0, b2, b3, b4, b5, b6, b7, a7, a9, a8, a6, a1, a0, a5, a2, a4, a3)) c2)))
 (
 Calls pP 124 #[.string b8, .int .u8 101] c0 fun e c3 => ∃ c9, e = .returned (.bool c9) ∧ yaE [bm0] c0 c3 ∧
 brB (!c9) (
 yaS ycT ((ya5 394 [1, 0, 1, 1, 1, 1, 1]) (ya6 [1, 1, 1, 1, 1, 0] [] R)) (yd5 (b8, (a0 != 0), bm0, b1, b0, b2, b3, b4, b5, b6, b7, a7, a9, a8, a6, a1, a0, a5, a2, a4, a3)) c3)
 (
 yaS ycT ((ya5 394 [1, 0, 1, 1, 1, 1, 1]) (ya6 [1, 1, 1, 1, 1, 0] [] R)) (yd5 (b8, false, bm0, b1, b0, b2, b3, b4, b5, b6, b7, a7, a9, a8, a6, a1, a0, a5, a2, a4, a3)) c3))))
 (
 Calls pP 124 #[.string b8, .int .u8 109] b9 fun e c1 => ∃ d0, e = .returned (.bool d0) ∧ yaE [bm0] b9 c1 ∧
 brB (!d0) (
 brB (!(a1.toList == (⟨#[]⟩ : BA).toList)) (
 yaS ycT ((ya5 394 [1, 0, 1, 1, 1, 1, 1]) (ya6 [1, 1, 1, 1, 1, 0] [] R)) (yd5 (b8, true, bm0, b1, b0, b2, b3, b4, b5, b6, b7, a7, a9, a8, a6, a1, a0, a5, a2, a4, a3)) c1)
 (
 Calls pP 124 #[.string b8, .int .u8 101] c1 fun e c4 => ∃ d1, e = .returned (.bool d1) ∧ yaE [bm0] c1 c4 ∧
 brB (!d1) (
 yaS ycT ((ya5 394 [1, 0, 1, 1, 1, 1, 1]) (ya6 [1, 1, 1, 1, 1, 0] [] R)) (yd5 (b8, (a0 != 0), bm0, b1, b0, b2, b3, b4, b5, b6, b7, a7, a9, a8, a6, a1, a0, a5, a2, a4, a3)) c4)
 (
 yaS ycT ((ya5 394 [1, 0, 1, 1, 1, 1, 1]) (ya6 [1, 1, 1, 1, 1, 0] [] R)) (yd5 (b8, false, bm0, b1, b0, b2, b3, b4, b5, b6, b7, a7, a9, a8, a6, a1, a0, a5, a2, a4, a3)) c4)))
 (
 Calls pP 124 #[.string b8, .int .u8 101] c1 fun e c5 => ∃ d2, e = .returned (.bool d2) ∧ yaE [bm0] c1 c5 ∧
 brB (!d2) (
 yaS ycT ((ya5 394 [1, 0, 1, 1, 1, 1, 1]) (ya6 [1, 1, 1, 1, 1, 0] [] R)) (yd5 (b8, (a0 != 0), bm0, b1, b0, b2, b3, b4, b5, b6, b7, a7, a9, a8, a6, a1, a0, a5, a2, a4, a3)) c5)
 (
 yaS ycT ((ya5 394 [1, 0, 1, 1, 1, 1, 1]) (ya6 [1, 1, 1, 1, 1, 0] [] R)) (yd5 (b8, false, bm0, b1, b0, b2, b3, b4, b5, b6, b7, a7, a9, a8, a6, a1, a0, a5, a2, a4, a3)) c5)))
theorem yCD (J : ByteArray → Nat → Int → ByteArray → Int → Int → Int → Int → Int → Int → Option Addr → Nat → Nat → ByteArray → ByteArray → Int → Bool → Option Addr → Nat → Nat → World → Prop) (h0 : J s0 n0 i0 s1 i1 i2 i3 i4 i5 i6 q0 n1 n2 s2 s3 i7 B0 q1 n3 n4 w0)
 (hr : ∀ d5 bm0 b1 a9 b2 b3 b4 b5 b6 b7 a6 a8 a7 b0 s1 a5 a4 a1 a3 a2 w, J d5 bm0 b1 a9 b2 b3 b4 b5 b6 b7 a6 a8 a7 b0 s1 a5 a4 a1 a3 a2 w → ytY d5 bm0 b1 a9 b2 b3 b4 b5 b6 b7 a6 a8 a7 b0 s1 a5 a4 a1 a3 a2 R w) :
 yaS ynK ((ya5 395 [1, 1, 1, 1, 1]) (ya6 [1, 1, 1, 1] [] R)) (ytV (s0, n0, i0, s1, i1, i2, i3, i4, i5, i6, q0, n1, n2, s2, s3, i7, B0, q1, n3, n4)) w0 :=
 crule (ytV) (V20 J) h0 (by rintro ⟨d5, bm0, b1, a9, b2, b3, b4, b5, b6, b7, a6, a8, a7, b0, s1, a5, a4, a1, a3, a2⟩ w h; exact ⟨by kernel_rfl, by kernel_rfl, fun js => Eq.mpr (by kernel_rfl) (hr d5 bm0 b1 a9 b2 b3 b4 b5 b6 b7 a6 a8 a7 b0 s1 a5 a4 a1 a3 a2 w h)⟩)
theorem yE9 (h : ytY s0 n0 i0 s1 i1 i2 i3 i4 i5 i6 q0 n1 n2 s2 s3 i7 B0 q1 n3 n4 R w) :
 yaS ynK ((ya5 395 [1, 1, 1, 1, 1]) (ya6 [1, 1, 1, 1] [] R)) (ytV (s0, n0, i0, s1, i1, i2, i3, i4, i5, i6, q0, n1, n2, s2, s3, i7, B0, q1, n3, n4)) w :=
 yCD (fun d7 bm0' c9 c7 d0 d1 d2 d3 d4 d5 c4 c6 c5 c8 b3 b7 b5 a6 b0 a8 w' => d7 = s0 ∧ bm0' = n0 ∧ c9 = i0 ∧ c7 = s1 ∧ d0 = i1 ∧ d1 = i2 ∧ d2 = i3 ∧ d3 = i4 ∧ d4 = i5 ∧ d5 = i6 ∧ c4 = q0 ∧ c6 = n1 ∧ c5 = n2 ∧ c8 = s2 ∧ b3 = s3 ∧ b7 = i7 ∧ b5 = B0 ∧ a6 = q1 ∧ b0 = n3 ∧ a8 = n4 ∧ w' = w) ⟨rfl, rfl, rfl, rfl, rfl, rfl, rfl, rfl, rfl, rfl, rfl, rfl, rfl, rfl, rfl, rfl, rfl, rfl, rfl, rfl, rfl⟩ (by rintro d7 bm0' c9 c7 d0 d1 d2 d3 d4 d5 c4 c6 c5 c8 b3 b7 b5 a6 b0 a8 w' ⟨rfl, rfl, rfl, rfl, rfl, rfl, rfl, rfl, rfl, rfl, rfl, rfl, rfl, rfl, rfl, rfl, rfl, rfl, rfl, rfl, rfl⟩; exact h)
def yz5 (b9 : BA) (b8 : Bool) (bm0 : Nat) (b1 : Int) (a9 : BA) (b2 b3 b4 b5 b6 b7 : Int) (a6 : OA) (a8 a7 : Nat) (b0 a3 : BA) (a5 : Int) (a4 : Bool) (a0 : OA) (a2 a1 : Nat) (R : VWP) (w : World) : Prop :=
 brB b8 (
 R (.bool false) w)
 (
 yaS ynL ((ya5 394 [1, 1, 1, 1, 1, 1]) (ya6 [1, 1, 1, 1, 1] [] R)) (ytW (b9, bm0, b1, a9, b2, b3, b4, b5, b6, b7, a6, a8, a7, b0, a3, a5, a4, a0, a2, a1)) w)
theorem yCE (J : ByteArray → Bool → Nat → Int → ByteArray → Int → Int → Int → Int → Int → Int → Option Addr → Nat → Nat → ByteArray → ByteArray → Int → Bool → Option Addr → Nat → Nat → World → Prop) (h0 : J s0 B0 n0 i0 s1 i1 i2 i3 i4 i5 i6 q0 n1 n2 s2 s3 i7 B1 q1 n3 n4 w0)
 (hr : ∀ d7 b8 bm0 b1 a9 b2 b3 b4 b5 b6 b7 a6 a8 a7 b0 s1 a5 a4 a1 a3 a2 w, J d7 b8 bm0 b1 a9 b2 b3 b4 b5 b6 b7 a6 a8 a7 b0 s1 a5 a4 a1 a3 a2 w → yz5 d7 b8 bm0 b1 a9 b2 b3 b4 b5 b6 b7 a6 a8 a7 b0 s1 a5 a4 a1 a3 a2 R w) :
 yaS ycT ((ya5 394 [1, 0, 1, 1, 1, 1, 1]) (ya6 [1, 1, 1, 1, 1, 0] [] R)) (yd5 (s0, B0, n0, i0, s1, i1, i2, i3, i4, i5, i6, q0, n1, n2, s2, s3, i7, B1, q1, n3, n4)) w0 :=
 crule (yd5) (V21 J) h0 (by rintro ⟨d7, b8, bm0, b1, a9, b2, b3, b4, b5, b6, b7, a6, a8, a7, b0, s1, a5, a4, a1, a3, a2⟩ w h; exact ⟨by kernel_rfl, by kernel_rfl, fun js => Eq.mpr (by kernel_rfl) (hr d7 b8 bm0 b1 a9 b2 b3 b4 b5 b6 b7 a6 a8 a7 b0 s1 a5 a4 a1 a3 a2 w h)⟩)
theorem yFa (h : yz5 s0 B0 n0 i0 s1 i1 i2 i3 i4 i5 i6 q0 n1 n2 s2 s3 i7 B1 q1 n3 n4 R w) :
 yaS ycT ((ya5 394 [1, 0, 1, 1, 1, 1, 1]) (ya6 [1, 1, 1, 1, 1, 0] [] R)) (yd5 (s0, B0, n0, i0, s1, i1, i2, i3, i4, i5, i6, q0, n1, n2, s2, s3, i7, B1, q1, n3, n4)) w :=
 yCE (fun d9 d7 bm0' c9 c7 d0 d1 d2 d3 d4 d5 c4 c6 c5 c8 b3 b7 b5 a6 b0 a8 w' => d9 = s0 ∧ d7 = B0 ∧ bm0' = n0 ∧ c9 = i0 ∧ c7 = s1 ∧ d0 = i1 ∧ d1 = i2 ∧ d2 = i3 ∧ d3 = i4 ∧ d4 = i5 ∧ d5 = i6 ∧ c4 = q0 ∧ c6 = n1 ∧ c5 = n2 ∧ c8 = s2 ∧ b3 = s3 ∧ b7 = i7 ∧ b5 = B1 ∧ a6 = q1 ∧ b0 = n3 ∧ a8 = n4 ∧ w' = w) ⟨rfl, rfl, rfl, rfl, rfl, rfl, rfl, rfl, rfl, rfl, rfl, rfl, rfl, rfl, rfl, rfl, rfl, rfl, rfl, rfl, rfl, rfl⟩ (by rintro d9 d7 bm0' c9 c7 d0 d1 d2 d3 d4 d5 c4 c6 c5 c8 b3 b7 b5 a6 b0 a8 w' ⟨rfl, rfl, rfl, rfl, rfl, rfl, rfl, rfl, rfl, rfl, rfl, rfl, rfl, rfl, rfl, rfl, rfl, rfl, rfl, rfl, rfl, rfl⟩; exact h)
def yz6 (b1 : BA) (bm0 : Nat) (b4 : Int) (b2 : BA) (b5 b6 b7 b8 b9 c0 : Int) (a8 : OA) (b0 a9 : Nat) (b3 a6 : BA) (a7 : Int) (a2 : Bool) (a4 : OA) (a1 a5 : Nat) (R : VWP) (w : World) : Prop :=
 Calls pP 124 #[.string b1, .int .u8 114] w fun e a0 => ∃ a3, e = .returned (.bool a3) ∧ yaE [bm0] w a0 ∧
 brB a3 (
 R (.bool true) a0)
 (
 brB (!a2) (
 R (.bool ((a1 : Int) == 0)) a0)
 (
 R (.bool false) a0))
theorem yCF (J : ByteArray → Nat → Int → ByteArray → Int → Int → Int → Int → Int → Int → Option Addr → Nat → Nat → ByteArray → ByteArray → Int → Bool → Option Addr → Nat → Nat → World → Prop) (h0 : J s0 n0 i0 s1 i1 i2 i3 i4 i5 i6 q0 n1 n2 s2 s3 i7 B0 q1 n3 n4 w0)
 (hr : ∀ d5 bm0 b1 a9 b2 b3 b4 b5 b6 b7 a6 a8 a7 b0 s1 a5 a4 a1 a3 a2 w, J d5 bm0 b1 a9 b2 b3 b4 b5 b6 b7 a6 a8 a7 b0 s1 a5 a4 a1 a3 a2 w → yz6 d5 bm0 b1 a9 b2 b3 b4 b5 b6 b7 a6 a8 a7 b0 s1 a5 a4 a1 a3 a2 R w) :
 yaS ynL ((ya5 394 [1, 1, 1, 1, 1, 1]) (ya6 [1, 1, 1, 1, 1] [] R)) (ytW (s0, n0, i0, s1, i1, i2, i3, i4, i5, i6, q0, n1, n2, s2, s3, i7, B0, q1, n3, n4)) w0 :=
 crule (ytW) (V20 J) h0 (by rintro ⟨d5, bm0, b1, a9, b2, b3, b4, b5, b6, b7, a6, a8, a7, b0, s1, a5, a4, a1, a3, a2⟩ w h; exact ⟨by kernel_rfl, by kernel_rfl, fun js => Eq.mpr (by kernel_rfl) (hr d5 bm0 b1 a9 b2 b3 b4 b5 b6 b7 a6 a8 a7 b0 s1 a5 a4 a1 a3 a2 w h)⟩)
theorem yFb (h : yz6 s0 n0 i0 s1 i1 i2 i3 i4 i5 i6 q0 n1 n2 s2 s3 i7 B0 q1 n3 n4 R w) :
 yaS ynL ((ya5 394 [1, 1, 1, 1, 1, 1]) (ya6 [1, 1, 1, 1, 1] [] R)) (ytW (s0, n0, i0, s1, i1, i2, i3, i4, i5, i6, q0, n1, n2, s2, s3, i7, B0, q1, n3, n4)) w :=
 yCF (fun d7 bm0' c9 c7 d0 d1 d2 d3 d4 d5 c4 c6 c5 c8 b3 b7 b5 a6 b0 a8 w' => d7 = s0 ∧ bm0' = n0 ∧ c9 = i0 ∧ c7 = s1 ∧ d0 = i1 ∧ d1 = i2 ∧ d2 = i3 ∧ d3 = i4 ∧ d4 = i5 ∧ d5 = i6 ∧ c4 = q0 ∧ c6 = n1 ∧ c5 = n2 ∧ c8 = s2 ∧ b3 = s3 ∧ b7 = i7 ∧ b5 = B0 ∧ a6 = q1 ∧ b0 = n3 ∧ a8 = n4 ∧ w' = w) ⟨rfl, rfl, rfl, rfl, rfl, rfl, rfl, rfl, rfl, rfl, rfl, rfl, rfl, rfl, rfl, rfl, rfl, rfl, rfl, rfl, rfl⟩ (by rintro d7 bm0' c9 c7 d0 d1 d2 d3 d4 d5 c4 c6 c5 c8 b3 b7 b5 a6 b0 a8 w' ⟨rfl, rfl, rfl, rfl, rfl, rfl, rfl, rfl, rfl, rfl, rfl, rfl, rfl, rfl, rfl, rfl, rfl, rfl, rfl, rfl, rfl⟩; exact h)
theorem yHZ {b4 : BA} {b8 a7 : BA} (h :
 ∀ b1, w.heap.size ≤ b1 →
 ∀ w2, Adv [] [b1] w w2 →
 Calls pP 101 #[.int .i64 i0] w2 fun e w3 => ∃ s4, e = .returned (.string s4) ∧ yaE [b1] w2 w3 ∧
 Calls pP 124 #[.string s4, .int .u8 112] w3 fun e w5 => ∃ t6, e = .returned (.bool t6) ∧ yaE [b1] w3 w5 ∧
 Calls pP 124 #[.string s4, .int .u8 116] w5 fun e w7 => ∃ t8, e = .returned (.bool t8) ∧ yaE [b1] w5 w7 ∧
 brB (!t6) (
 brB (!t8) (
 brB (!(b4.toList == (⟨#[]⟩ : BA).toList)) (
 yaS ya1 ((ya5 396 [1, 0, 1, 1, 1]) (ya6 [1, 1, 1, 0] [] R)) (ybA (s4, true, b1, i0, b4, i1, i2, i3, i4, i5, i6, q0, n0, n1, b8, a7, i7, B0, q1, n2, n3)) w7)
 (
 brB (!t6) (
 brB (i1 != 0) (
 yaS ya1 ((ya5 396 [1, 0, 1, 1, 1]) (ya6 [1, 1, 1, 0] [] R)) (ybA (s4, true, b1, i0, b4, i1, i2, i3, i4, i5, i6, q0, n0, n1, b8, a7, i7, B0, q1, n2, n3)) w7)
 (
 Calls pP 124 #[.string s4, .int .u8 110] w7 fun e b9 => ∃ d7, e = .returned (.bool d7) ∧ yaE [b1] w7 b9 ∧
 brB (!d7) (
 brB (i2 != 0) (
 yaS ya1 ((ya5 396 [1, 0, 1, 1, 1]) (ya6 [1, 1, 1, 0] [] R)) (ybA (s4, true, b1, i0, b4, i1, i2, i3, i4, i5, i6, q0, n0, n1, b8, a7, i7, B0, q1, n2, n3)) b9)
 (
 Calls pP 124 #[.string s4, .int .u8 111] b9 fun e c5 => ∃ d8, e = .returned (.bool d8) ∧ yaE [b1] b9 c5 ∧
 brB (!d8) (
 yaS ya1 ((ya5 396 [1, 0, 1, 1, 1]) (ya6 [1, 1, 1, 0] [] R)) (ybA (s4, (i3 != 0), b1, i0, b4, i1, i2, i3, i4, i5, i6, q0, n0, n1, b8, a7, i7, B0, q1, n2, n3)) c5)
 (
 yaS ya1 ((ya5 396 [1, 0, 1, 1, 1]) (ya6 [1, 1, 1, 0] [] R)) (ybA (s4, false, b1, i0, b4, i1, i2, i3, i4, i5, i6, q0, n0, n1, b8, a7, i7, B0, q1, n2, n3)) c5)))
 (
 Calls pP 124 #[.string s4, .int .u8 111] b9 fun e c6 => ∃ d9, e = .returned (.bool d9) ∧ yaE [b1] b9 c6 ∧
 brB (!d9) (
 yaS ya1 ((ya5 396 [1, 0, 1, 1, 1]) (ya6 [1, 1, 1, 0] [] R)) (ybA (s4, (i3 != 0), b1, i0, b4, i1, i2, i3, i4, i5, i6, q0, n0, n1, b8, a7, i7, B0, q1, n2, n3)) c6)
 (
 yaS ya1 ((ya5 396 [1, 0, 1, 1, 1]) (ya6 [1, 1, 1, 0] [] R)) (ybA (s4, false, b1, i0, b4, i1, i2, i3, i4, i5, i6, q0, n0, n1, b8, a7, i7, B0, q1, n2, n3)) c6))))
 (
 Calls pP 124 #[.string s4, .int .u8 110] w7 fun e c0 => ∃ e0, e = .returned (.bool e0) ∧ yaE [b1] w7 c0 ∧
 brB (!e0) (
 brB (i2 != 0) (
 yaS ya1 ((ya5 396 [1, 0, 1, 1, 1]) (ya6 [1, 1, 1, 0] [] R)) (ybA (s4, true, b1, i0, b4, i1, i2, i3, i4, i5, i6, q0, n0, n1, b8, a7, i7, B0, q1, n2, n3)) c0)
 (
 Calls pP 124 #[.string s4, .int .u8 111] c0 fun e c7 => ∃ e1, e = .returned (.bool e1) ∧ yaE [b1] c0 c7 ∧
 brB (!e1) (
 yaS ya1 ((ya5 396 [1, 0, 1, 1, 1]) (ya6 [1, 1, 1, 0] [] R)) (ybA (s4, (i3 != 0), b1, i0, b4, i1, i2, i3, i4, i5, i6, q0, n0, n1, b8, a7, i7, B0, q1, n2, n3)) c7)
 (
 yaS ya1 ((ya5 396 [1, 0, 1, 1, 1]) (ya6 [1, 1, 1, 0] [] R)) (ybA (s4, false, b1, i0, b4, i1, i2, i3, i4, i5, i6, q0, n0, n1, b8, a7, i7, B0, q1, n2, n3)) c7)))
 (
 Calls pP 124 #[.string s4, .int .u8 111] c0 fun e c8 => ∃ e2, e = .returned (.bool e2) ∧ yaE [b1] c0 c8 ∧
 brB (!e2) (
 yaS ya1 ((ya5 396 [1, 0, 1, 1, 1]) (ya6 [1, 1, 1, 0] [] R)) (ybA (s4, (i3 != 0), b1, i0, b4, i1, i2, i3, i4, i5, i6, q0, n0, n1, b8, a7, i7, B0, q1, n2, n3)) c8)
 (
 yaS ya1 ((ya5 396 [1, 0, 1, 1, 1]) (ya6 [1, 1, 1, 0] [] R)) (ybA (s4, false, b1, i0, b4, i1, i2, i3, i4, i5, i6, q0, n0, n1, b8, a7, i7, B0, q1, n2, n3)) c8)))))
 (
 brB (!t6) (
 brB (i1 != 0) (
 yaS ya1 ((ya5 396 [1, 0, 1, 1, 1]) (ya6 [1, 1, 1, 0] [] R)) (ybA (s4, true, b1, i0, b4, i1, i2, i3, i4, i5, i6, q0, n0, n1, b8, a7, i7, B0, q1, n2, n3)) w7)
 (
 Calls pP 124 #[.string s4, .int .u8 110] w7 fun e c1 => ∃ e3, e = .returned (.bool e3) ∧ yaE [b1] w7 c1 ∧
 brB (!e3) (
 brB (i2 != 0) (
 yaS ya1 ((ya5 396 [1, 0, 1, 1, 1]) (ya6 [1, 1, 1, 0] [] R)) (ybA (s4, true, b1, i0, b4, i1, i2, i3, i4, i5, i6, q0, n0, n1, b8, a7, i7, B0, q1, n2, n3)) c1)
 (
 Calls pP 124 #[.string s4, .int .u8 111] c1 fun e c9 => ∃ e4, e = .returned (.bool e4) ∧ yaE [b1] c1 c9 ∧
 brB (!e4) (
 yaS ya1 ((ya5 396 [1, 0, 1, 1, 1]) (ya6 [1, 1, 1, 0] [] R)) (ybA (s4, (i3 != 0), b1, i0, b4, i1, i2, i3, i4, i5, i6, q0, n0, n1, b8, a7, i7, B0, q1, n2, n3)) c9)
 (
 yaS ya1 ((ya5 396 [1, 0, 1, 1, 1]) (ya6 [1, 1, 1, 0] [] R)) (ybA (s4, false, b1, i0, b4, i1, i2, i3, i4, i5, i6, q0, n0, n1, b8, a7, i7, B0, q1, n2, n3)) c9)))
 (
 Calls pP 124 #[.string s4, .int .u8 111] c1 fun e d0 => ∃ e5, e = .returned (.bool e5) ∧ yaE [b1] c1 d0 ∧
 brB (!e5) (
 yaS ya1 ((ya5 396 [1, 0, 1, 1, 1]) (ya6 [1, 1, 1, 0] [] R)) (ybA (s4, (i3 != 0), b1, i0, b4, i1, i2, i3, i4, i5, i6, q0, n0, n1, b8, a7, i7, B0, q1, n2, n3)) d0)
 (
 yaS ya1 ((ya5 396 [1, 0, 1, 1, 1]) (ya6 [1, 1, 1, 0] [] R)) (ybA (s4, false, b1, i0, b4, i1, i2, i3, i4, i5, i6, q0, n0, n1, b8, a7, i7, B0, q1, n2, n3)) d0))))
 (
 Calls pP 124 #[.string s4, .int .u8 110] w7 fun e c2 => ∃ e6, e = .returned (.bool e6) ∧ yaE [b1] w7 c2 ∧
 brB (!e6) (
 brB (i2 != 0) (
 yaS ya1 ((ya5 396 [1, 0, 1, 1, 1]) (ya6 [1, 1, 1, 0] [] R)) (ybA (s4, true, b1, i0, b4, i1, i2, i3, i4, i5, i6, q0, n0, n1, b8, a7, i7, B0, q1, n2, n3)) c2)
 (
 Calls pP 124 #[.string s4, .int .u8 111] c2 fun e d1 => ∃ e7, e = .returned (.bool e7) ∧ yaE [b1] c2 d1 ∧
 brB (!e7) (
 yaS ya1 ((ya5 396 [1, 0, 1, 1, 1]) (ya6 [1, 1, 1, 0] [] R)) (ybA (s4, (i3 != 0), b1, i0, b4, i1, i2, i3, i4, i5, i6, q0, n0, n1, b8, a7, i7, B0, q1, n2, n3)) d1)
 (
 yaS ya1 ((ya5 396 [1, 0, 1, 1, 1]) (ya6 [1, 1, 1, 0] [] R)) (ybA (s4, false, b1, i0, b4, i1, i2, i3, i4, i5, i6, q0, n0, n1, b8, a7, i7, B0, q1, n2, n3)) d1)))
 (
 Calls pP 124 #[.string s4, .int .u8 111] c2 fun e d2 => ∃ e8, e = .returned (.bool e8) ∧ yaE [b1] c2 d2 ∧
 brB (!e8) (
 yaS ya1 ((ya5 396 [1, 0, 1, 1, 1]) (ya6 [1, 1, 1, 0] [] R)) (ybA (s4, (i3 != 0), b1, i0, b4, i1, i2, i3, i4, i5, i6, q0, n0, n1, b8, a7, i7, B0, q1, n2, n3)) d2)
 (
 yaS ya1 ((ya5 396 [1, 0, 1, 1, 1]) (ya6 [1, 1, 1, 0] [] R)) (ybA (s4, false, b1, i0, b4, i1, i2, i3, i4, i5, i6, q0, n0, n1, b8, a7, i7, B0, q1, n2, n3)) d2)))))
 (
 brB (!t6) (
 brB (i1 != 0) (
 yaS ya1 ((ya5 396 [1, 0, 1, 1, 1]) (ya6 [1, 1, 1, 0] [] R)) (ybA (s4, true, b1, i0, b4, i1, i2, i3, i4, i5, i6, q0, n0, n1, b8, a7, i7, B0, q1, n2, n3)) w7)
 (
 Calls pP 124 #[.string s4, .int .u8 110] w7 fun e c3 => ∃ e9, e = .returned (.bool e9) ∧ yaE [b1] w7 c3 ∧
 brB (!e9) (
 brB (i2 != 0) (
 yaS ya1 ((ya5 396 [1, 0, 1, 1, 1]) (ya6 [1, 1, 1, 0] [] R)) (ybA (s4, true, b1, i0, b4, i1, i2, i3, i4, i5, i6, q0, n0, n1, b8, a7, i7, B0, q1, n2, n3)) c3)
 (
 Calls pP 124 #[.string s4, .int .u8 111] c3 fun e d3 => ∃ f0, e = .returned (.bool f0) ∧ yaE [b1] c3 d3 ∧
 brB (!f0) (
 yaS ya1 ((ya5 396 [1, 0, 1, 1, 1]) (ya6 [1, 1, 1, 0] [] R)) (ybA (s4, (i3 != 0), b1, i0, b4, i1, i2, i3, i4, i5, i6, q0, n0, n1, b8, a7, i7, B0, q1, n2, n3)) d3)
 (
 yaS ya1 ((ya5 396 [1, 0, 1, 1, 1]) (ya6 [1, 1, 1, 0] [] R)) (ybA (s4, false, b1, i0, b4, i1, i2, i3, i4, i5, i6, q0, n0, n1, b8, a7, i7, B0, q1, n2, n3)) d3)))
 (
 Calls pP 124 #[.string s4, .int .u8 111] c3 fun e d4 => ∃ f1, e = .returned (.bool f1) ∧ yaE [b1] c3 d4 ∧
 brB (!f1) (
 yaS ya1 ((ya5 396 [1, 0, 1, 1, 1]) (ya6 [1, 1, 1, 0] [] R)) (ybA (s4, (i3 != 0), b1, i0, b4, i1, i2, i3, i4, i5, i6, q0, n0, n1, b8, a7, i7, B0, q1, n2, n3)) d4)
 (
 yaS ya1 ((ya5 396 [1, 0, 1, 1, 1]) (ya6 [1, 1, 1, 0] [] R)) (ybA (s4, false, b1, i0, b4, i1, i2, i3, i4, i5, i6, q0, n0, n1, b8, a7, i7, B0, q1, n2, n3)) d4))))
 (
 Calls pP 124 #[.string s4, .int .u8 110] w7 fun e c4 => ∃ f2, e = .returned (.bool f2) ∧ yaE [b1] w7 c4 ∧
 brB (!f2) (
 brB (i2 != 0) (
 yaS ya1 ((ya5 396 [1, 0, 1, 1, 1]) (ya6 [1, 1, 1, 0] [] R)) (ybA (s4, true, b1, i0, b4, i1, i2, i3, i4, i5, i6, q0, n0, n1, b8, a7, i7, B0, q1, n2, n3)) c4)
 (
 Calls pP 124 #[.string s4, .int .u8 111] c4 fun e d5 => ∃ f3, e = .returned (.bool f3) ∧ yaE [b1] c4 d5 ∧
 brB (!f3) (
 yaS ya1 ((ya5 396 [1, 0, 1, 1, 1]) (ya6 [1, 1, 1, 0] [] R)) (ybA (s4, (i3 != 0), b1, i0, b4, i1, i2, i3, i4, i5, i6, q0, n0, n1, b8, a7, i7, B0, q1, n2, n3)) d5)
 (
 yaS ya1 ((ya5 396 [1, 0, 1, 1, 1]) (ya6 [1, 1, 1, 0] [] R)) (ybA (s4, false, b1, i0, b4, i1, i2, i3, i4, i5, i6, q0, n0, n1, b8, a7, i7, B0, q1, n2, n3)) d5)))
 (
 Calls pP 124 #[.string s4, .int .u8 111] c4 fun e d6 => ∃ f4, e = .returned (.bool f4) ∧ yaE [b1] c4 d6 ∧
 brB (!f4) (
 yaS ya1 ((ya5 396 [1, 0, 1, 1, 1]) (ya6 [1, 1, 1, 0] [] R)) (ybA (s4, (i3 != 0), b1, i0, b4, i1, i2, i3, i4, i5, i6, q0, n0, n1, b8, a7, i7, B0, q1, n2, n3)) d6)
 (
 yaS ya1 ((ya5 396 [1, 0, 1, 1, 1]) (ya6 [1, 1, 1, 0] [] R)) (ybA (s4, false, b1, i0, b4, i1, i2, i3, i4, i5, i6, q0, n0, n1, b8, a7, i7, B0, q1, n2, n3)) d6))))) :
 CR pP 123 #[(.agg (Z1 i0 b4 i1 i2 i3 i4 i5 i6 q0 n0 n1 b8 a7 i7 B0 q1 n2 n3))] w R :=
 yaA Tryz.wide_mixed (an := ytT) Tryz.func123 rfl rfl (by kernel_rfl) rfl (Eq.mpr (by kernel_rfl) h)
def ybC : LA := ⟨[1, 1, 1, 1], [1], [(1, 0, 0)], 1, []⟩
def ytZ : List LA := [ybC]
abbrev yc7 := dnF pP ytZ (code Tryz.f100)
abbrev yLc := yaO pP ytZ (code Tryz.f100)
abbrev yc8 (p : List Nat) (K : List Kh) (R : VWP) := yaO pP ytZ (code Tryz.f100) p K (ya4 pP Tryz.f100 [] R)
def ybW : Nat × Int × ByteArray × Int × Int × Int × Int × Int × Int × (Option Addr) × Nat × Nat × ByteArray × ByteArray × Int × Bool × (Option Addr) × Nat × Nat → List Value × List TB := fun (bm0, b1, a9, b2, b3, b4, b5, b6, b7, a6, a8, a7, b0, a3, a5, a4, a0, a2, a1) => ([(.pointer (some ⟨bm0, 0, none⟩))], [⟨bm0, 49, [.int .i64 b1, .string a9, .int .i64 b2, .int .i64 b3, .int .i64 b4, .int .i64 b5, .int .i64 b6, .int .i64 b7, .slice a6 a8 a7, .string b0, .string a3, .int .i64 a5, .bool a4, .slice a0 a2 a1], false⟩])
def yz7 (bm0 : Nat) (a8 : Int) (c6 : BA) (a9 b0 b1 b2 b3 b4 : Int) (a5 : OA) (a7 a6 : Nat) (c7 c4 : BA) (a4 : Int) (c5 : Bool) (c1 : OA) (c3 c2 : Nat) (R : VWP) (w : World) : Prop :=
 Calls pP 36 #[.int .i64 a9] w fun e a1 => ∃ b5, e = .returned (.bool b5) ∧ yaE [bm0] w a1 ∧
 brB (!b5) (
 R (.int .i64 1) a1)
 (
 Calls pP 36 #[.int .i64 b0] a1 fun e a2 => ∃ b6, e = .returned (.bool b6) ∧ yaE [bm0] a1 a2 ∧
 brB (!b6) (
 R (.int .i64 1) a2)
 (
 Calls pP 36 #[.int .i64 b1] a2 fun e a3 => ∃ b7, e = .returned (.bool b7) ∧ yaE [bm0] a2 a3 ∧
 brB (!b7) (
 R (.int .i64 1) a3)
 (
 Calls pP 36 #[.int .i64 a4] a3 fun e a0 => ∃ b8, e = .returned (.bool b8) ∧ yaE [bm0] a3 a0 ∧
 brB (!b8) (
 R (.int .i64 1) a0)
 (
 brB (a8 == 2) (
 Calls pP 126 #[(.agg (Z8 b2 b3 b4 a5 a7 a6))] a0 fun e b9 => ∃ c0, e = .returned (.int .i64 c0) ∧ yaE [bm0] a0 b9 ∧
 R (.int .i64 c0) b9)
 (
 R (.int .i64 0) a0)))))
theorem yCG (J : Nat → Int → ByteArray → Int → Int → Int → Int → Int → Int → Option Addr → Nat → Nat → ByteArray → ByteArray → Int → Bool → Option Addr → Nat → Nat → World → Prop) (h0 : J n0 i0 s0 i1 i2 i3 i4 i5 i6 q0 n1 n2 s1 s2 i7 B0 q1 n3 n4 w0)
 (hr : ∀ bm0 b1 a9 b2 b3 b4 b5 b6 b7 a6 a8 a7 b0 s0 a5 a4 a1 a3 a2 w, J bm0 b1 a9 b2 b3 b4 b5 b6 b7 a6 a8 a7 b0 s0 a5 a4 a1 a3 a2 w → yz7 bm0 b1 a9 b2 b3 b4 b5 b6 b7 a6 a8 a7 b0 s0 a5 a4 a1 a3 a2 R w) :
 yaS ybC ((yc7 396 [1, 1, 1, 1]) (yc8 [1, 1, 1] [] R)) (ybW (n0, i0, s0, i1, i2, i3, i4, i5, i6, q0, n1, n2, s1, s2, i7, B0, q1, n3, n4)) w0 :=
 crule (ybW) (V19 J) h0 (by rintro ⟨bm0, b1, a9, b2, b3, b4, b5, b6, b7, a6, a8, a7, b0, s0, a5, a4, a1, a3, a2⟩ w h; exact ⟨by kernel_rfl, by kernel_rfl, fun js => Eq.mpr (by kernel_rfl) (hr bm0 b1 a9 b2 b3 b4 b5 b6 b7 a6 a8 a7 b0 s0 a5 a4 a1 a3 a2 w h)⟩)
theorem yz8 (h : yz7 n0 i0 s0 i1 i2 i3 i4 i5 i6 q0 n1 n2 s1 s2 i7 B0 q1 n3 n4 R w) :
 yaS ybC ((yc7 396 [1, 1, 1, 1]) (yc8 [1, 1, 1] [] R)) (ybW (n0, i0, s0, i1, i2, i3, i4, i5, i6, q0, n1, n2, s1, s2, i7, B0, q1, n3, n4)) w :=
 yCG (fun bm0' c9 c7 d0 d1 d2 d3 d4 d5 c4 c6 c5 c8 b3 b7 b5 a6 b0 a8 w' => bm0' = n0 ∧ c9 = i0 ∧ c7 = s0 ∧ d0 = i1 ∧ d1 = i2 ∧ d2 = i3 ∧ d3 = i4 ∧ d4 = i5 ∧ d5 = i6 ∧ c4 = q0 ∧ c6 = n1 ∧ c5 = n2 ∧ c8 = s1 ∧ b3 = s2 ∧ b7 = i7 ∧ b5 = B0 ∧ a6 = q1 ∧ b0 = n3 ∧ a8 = n4 ∧ w' = w) ⟨rfl, rfl, rfl, rfl, rfl, rfl, rfl, rfl, rfl, rfl, rfl, rfl, rfl, rfl, rfl, rfl, rfl, rfl, rfl, rfl⟩ (by rintro bm0' c9 c7 d0 d1 d2 d3 d4 d5 c4 c6 c5 c8 b3 b7 b5 a6 b0 a8 w' ⟨rfl, rfl, rfl, rfl, rfl, rfl, rfl, rfl, rfl, rfl, rfl, rfl, rfl, rfl, rfl, rfl, rfl, rfl, rfl, rfl⟩; exact h)
theorem yH0 {b2 : BA} {b0 a3 : BA} (h :
 ∀ b1, w.heap.size ≤ b1 →
 brB (decide (i0 < 0)) (
 ∀ w2, Adv [] [b1] w w2 →
 R (.int .i64 41) w2)
 (
 brB (decide (i0 > 12)) (
 ∀ w3, Adv [] [b1] w w3 →
 R (.int .i64 41) w3)
 (
 ∀ w4, Adv [] [b1] w w4 →
 Calls pP 101 #[.int .i64 i0] w4 fun e w5 => ∃ s6, e = .returned (.string s6) ∧ yaE [b1] w4 w5 ∧
 Calls pP 123 #[(.agg (Z1 i0 b2 i1 i2 i3 i4 i5 i6 q0 n0 n1 b0 a3 i7 B0 q1 n2 n3))] w5 fun e w7 => ∃ t8, e = .returned (.bool t8) ∧ yaE [b1] w5 w7 ∧
 brB (!t8) (
 R (.int .i64 40) w7)
 (
 Calls pP 124 #[.string s6, .int .u8 112] w7 fun e w9 => ∃ h0, e = .returned (.bool h0) ∧ yaE [b1] w7 w9 ∧
 brB h0 (
 Calls pP 104 #[.string b2] w9 fun e d4 => ∃ h1, e = .returned (.bool h1) ∧ yaE [b1] w9 d4 ∧
 brB (!h1) (
 R (.int .i64 40) d4)
 (
 Calls pP 124 #[.string s6, .int .u8 103] d4 fun e c2 => ∃ h2, e = .returned (.bool h2) ∧ yaE [b1] d4 c2 ∧
 brB h2 (
 Calls pP 104 #[.string b0] c2 fun e d5 => ∃ h3, e = .returned (.bool h3) ∧ yaE [b1] c2 d5 ∧
 brB (!h3) (
 R (.int .i64 40) d5)
 (
 Calls pP 124 #[.string s6, .int .u8 109] d5 fun e c3 => ∃ h4, e = .returned (.bool h4) ∧ yaE [b1] d5 c3 ∧
 brB h4 (
 Calls pP 104 #[.string a3] c3 fun e d6 => ∃ h5, e = .returned (.bool h5) ∧ yaE [b1] c3 d6 ∧
 brB (!h5) (
 R (.int .i64 40) d6)
 (
 Calls pP 124 #[.string s6, .int .u8 108] d6 fun e d7 => ∃ h6, e = .returned (.bool h6) ∧ yaE [b1] d6 d7 ∧
 brB h6 (
 Calls pP 125 #[.slice q1 n2 n3] d7 fun e g0 => ∃ h7, e = .returned (.bool h7) ∧ yaE [b1] d7 g0 ∧
 brB (!h7) (
 R (.int .i64 40) g0)
 (
 yaS ybC ((yc7 396 [1, 1, 1, 1]) (yc8 [1, 1, 1] [] R)) (ybW (b1, i0, b2, i1, i2, i3, i4, i5, i6, q0, n0, n1, b0, a3, i7, B0, q1, n2, n3)) g0))
 (
 yaS ybC ((yc7 396 [1, 1, 1, 1]) (yc8 [1, 1, 1] [] R)) (ybW (b1, i0, b2, i1, i2, i3, i4, i5, i6, q0, n0, n1, b0, a3, i7, B0, q1, n2, n3)) d7)))
 (
 Calls pP 124 #[.string s6, .int .u8 108] c3 fun e d8 => ∃ h8, e = .returned (.bool h8) ∧ yaE [b1] c3 d8 ∧
 brB h8 (
 Calls pP 125 #[.slice q1 n2 n3] d8 fun e g1 => ∃ h9, e = .returned (.bool h9) ∧ yaE [b1] d8 g1 ∧
 brB (!h9) (
 R (.int .i64 40) g1)
 (
 yaS ybC ((yc7 396 [1, 1, 1, 1]) (yc8 [1, 1, 1] [] R)) (ybW (b1, i0, b2, i1, i2, i3, i4, i5, i6, q0, n0, n1, b0, a3, i7, B0, q1, n2, n3)) g1))
 (
 yaS ybC ((yc7 396 [1, 1, 1, 1]) (yc8 [1, 1, 1] [] R)) (ybW (b1, i0, b2, i1, i2, i3, i4, i5, i6, q0, n0, n1, b0, a3, i7, B0, q1, n2, n3)) d8))))
 (
 Calls pP 124 #[.string s6, .int .u8 109] c2 fun e c4 => ∃ u0, e = .returned (.bool u0) ∧ yaE [b1] c2 c4 ∧
 brB u0 (
 Calls pP 104 #[.string a3] c4 fun e d9 => ∃ u1, e = .returned (.bool u1) ∧ yaE [b1] c4 d9 ∧
 brB (!u1) (
 R (.int .i64 40) d9)
 (
 Calls pP 124 #[.string s6, .int .u8 108] d9 fun e e0 => ∃ u2, e = .returned (.bool u2) ∧ yaE [b1] d9 e0 ∧
 brB u2 (
 Calls pP 125 #[.slice q1 n2 n3] e0 fun e g2 => ∃ u3, e = .returned (.bool u3) ∧ yaE [b1] e0 g2 ∧
 brB (!u3) (
 R (.int .i64 40) g2)
 (
 yaS ybC ((yc7 396 [1, 1, 1, 1]) (yc8 [1, 1, 1] [] R)) (ybW (b1, i0, b2, i1, i2, i3, i4, i5, i6, q0, n0, n1, b0, a3, i7, B0, q1, n2, n3)) g2))
 (
 yaS ybC ((yc7 396 [1, 1, 1, 1]) (yc8 [1, 1, 1] [] R)) (ybW (b1, i0, b2, i1, i2, i3, i4, i5, i6, q0, n0, n1, b0, a3, i7, B0, q1, n2, n3)) e0)))
 (
 Calls pP 124 #[.string s6, .int .u8 108] c4 fun e e1 => ∃ u4, e = .returned (.bool u4) ∧ yaE [b1] c4 e1 ∧
 brB u4 (
 Calls pP 125 #[.slice q1 n2 n3] e1 fun e g3 => ∃ u5, e = .returned (.bool u5) ∧ yaE [b1] e1 g3 ∧
 brB (!u5) (
 R (.int .i64 40) g3)
 (
 yaS ybC ((yc7 396 [1, 1, 1, 1]) (yc8 [1, 1, 1] [] R)) (ybW (b1, i0, b2, i1, i2, i3, i4, i5, i6, q0, n0, n1, b0, a3, i7, B0, q1, n2, n3)) g3))
 (
 yaS ybC ((yc7 396 [1, 1, 1, 1]) (yc8 [1, 1, 1] [] R)) (ybW (b1, i0, b2, i1, i2, i3, i4, i5, i6, q0, n0, n1, b0, a3, i7, B0, q1, n2, n3)) e1)))))
 (
 Calls pP 124 #[.string s6, .int .u8 116] w9 fun e c5 => ∃ u6, e = .returned (.bool u6) ∧ yaE [b1] w9 c5 ∧
 brB u6 (
 Calls pP 104 #[.string b2] c5 fun e e2 => ∃ u7, e = .returned (.bool u7) ∧ yaE [b1] c5 e2 ∧
 brB (!u7) (
 R (.int .i64 40) e2)
 (
 Calls pP 124 #[.string s6, .int .u8 103] e2 fun e c6 => ∃ u9, e = .returned (.bool u9) ∧ yaE [b1] e2 c6 ∧
 brB u9 (
 Calls pP 104 #[.string b0] c6 fun e e3 => ∃ v0, e = .returned (.bool v0) ∧ yaE [b1] c6 e3 ∧
 brB (!v0) (
 R (.int .i64 40) e3)
 (
 Calls pP 124 #[.string s6, .int .u8 109] e3 fun e c7 => ∃ v1, e = .returned (.bool v1) ∧ yaE [b1] e3 c7 ∧
 brB v1 (
 Calls pP 104 #[.string a3] c7 fun e e4 => ∃ v2, e = .returned (.bool v2) ∧ yaE [b1] c7 e4 ∧
 brB (!v2) (
 R (.int .i64 40) e4)
 (
 Calls pP 124 #[.string s6, .int .u8 108] e4 fun e e5 => ∃ v3, e = .returned (.bool v3) ∧ yaE [b1] e4 e5 ∧
 brB v3 (
 Calls pP 125 #[.slice q1 n2 n3] e5 fun e g4 => ∃ v4, e = .returned (.bool v4) ∧ yaE [b1] e5 g4 ∧
 brB (!v4) (
 R (.int .i64 40) g4)
 (
 yaS ybC ((yc7 396 [1, 1, 1, 1]) (yc8 [1, 1, 1] [] R)) (ybW (b1, i0, b2, i1, i2, i3, i4, i5, i6, q0, n0, n1, b0, a3, i7, B0, q1, n2, n3)) g4))
 (
 yaS ybC ((yc7 396 [1, 1, 1, 1]) (yc8 [1, 1, 1] [] R)) (ybW (b1, i0, b2, i1, i2, i3, i4, i5, i6, q0, n0, n1, b0, a3, i7, B0, q1, n2, n3)) e5)))
 (
 Calls pP 124 #[.string s6, .int .u8 108] c7 fun e e6 => ∃ v5, e = .returned (.bool v5) ∧ yaE [b1] c7 e6 ∧
 brB v5 (
 Calls pP 125 #[.slice q1 n2 n3] e6 fun e g5 => ∃ v6, e = .returned (.bool v6) ∧ yaE [b1] e6 g5 ∧
 brB (!v6) (
 R (.int .i64 40) g5)
 (
 yaS ybC ((yc7 396 [1, 1, 1, 1]) (yc8 [1, 1, 1] [] R)) (ybW (b1, i0, b2, i1, i2, i3, i4, i5, i6, q0, n0, n1, b0, a3, i7, B0, q1, n2, n3)) g5))
 (
 yaS ybC ((yc7 396 [1, 1, 1, 1]) (yc8 [1, 1, 1] [] R)) (ybW (b1, i0, b2, i1, i2, i3, i4, i5, i6, q0, n0, n1, b0, a3, i7, B0, q1, n2, n3)) e6))))
 (
 Calls pP 124 #[.string s6, .int .u8 109] c6 fun e c8 => ∃ v7, e = .returned (.bool v7) ∧ yaE [b1] c6 c8 ∧
 brB v7 (
 Calls pP 104 #[.string a3] c8 fun e e7 => ∃ v8, e = .returned (.bool v8) ∧ yaE [b1] c8 e7 ∧
 brB (!v8) (
 R (.int .i64 40) e7)
 (
 Calls pP 124 #[.string s6, .int .u8 108] e7 fun e e8 => ∃ v9, e = .returned (.bool v9) ∧ yaE [b1] e7 e8 ∧
 brB v9 (
 Calls pP 125 #[.slice q1 n2 n3] e8 fun e g6 => ∃ w0, e = .returned (.bool w0) ∧ yaE [b1] e8 g6 ∧
 brB (!w0) (
 R (.int .i64 40) g6)
 (
 yaS ybC ((yc7 396 [1, 1, 1, 1]) (yc8 [1, 1, 1] [] R)) (ybW (b1, i0, b2, i1, i2, i3, i4, i5, i6, q0, n0, n1, b0, a3, i7, B0, q1, n2, n3)) g6))
 (
 yaS ybC ((yc7 396 [1, 1, 1, 1]) (yc8 [1, 1, 1] [] R)) (ybW (b1, i0, b2, i1, i2, i3, i4, i5, i6, q0, n0, n1, b0, a3, i7, B0, q1, n2, n3)) e8)))
 (
 Calls pP 124 #[.string s6, .int .u8 108] c8 fun e e9 => ∃ w1, e = .returned (.bool w1) ∧ yaE [b1] c8 e9 ∧
 brB w1 (
 Calls pP 125 #[.slice q1 n2 n3] e9 fun e g7 => ∃ w6, e = .returned (.bool w6) ∧ yaE [b1] e9 g7 ∧
 brB (!w6) (
 R (.int .i64 40) g7)
 (
 yaS ybC ((yc7 396 [1, 1, 1, 1]) (yc8 [1, 1, 1] [] R)) (ybW (b1, i0, b2, i1, i2, i3, i4, i5, i6, q0, n0, n1, b0, a3, i7, B0, q1, n2, n3)) g7))
 (
 yaS ybC ((yc7 396 [1, 1, 1, 1]) (yc8 [1, 1, 1] [] R)) (ybW (b1, i0, b2, i1, i2, i3, i4, i5, i6, q0, n0, n1, b0, a3, i7, B0, q1, n2, n3)) e9)))))
 (
 Calls pP 124 #[.string s6, .int .u8 103] c5 fun e c9 => ∃ w8, e = .returned (.bool w8) ∧ yaE [b1] c5 c9 ∧
 brB w8 (
 Calls pP 104 #[.string b0] c9 fun e f0 => ∃ x0, e = .returned (.bool x0) ∧ yaE [b1] c9 f0 ∧
 brB (!x0) (
 R (.int .i64 40) f0)
 (
 Calls pP 124 #[.string s6, .int .u8 109] f0 fun e d0 => ∃ x1, e = .returned (.bool x1) ∧ yaE [b1] f0 d0 ∧
 brB x1 (
 Calls pP 104 #[.string a3] d0 fun e f1 => ∃ x2, e = .returned (.bool x2) ∧ yaE [b1] d0 f1 ∧
 brB (!x2) (
 R (.int .i64 40) f1)
 (
 Calls pP 124 #[.string s6, .int .u8 108] f1 fun e f2 => ∃ x3, e = .returned (.bool x3) ∧ yaE [b1] f1 f2 ∧
 brB x3 (
 Calls pP 125 #[.slice q1 n2 n3] f2 fun e g8 => ∃ x4, e = .returned (.bool x4) ∧ yaE [b1] f2 g8 ∧
 brB (!x4) (
 R (.int .i64 40) g8)
 (
 yaS ybC ((yc7 396 [1, 1, 1, 1]) (yc8 [1, 1, 1] [] R)) (ybW (b1, i0, b2, i1, i2, i3, i4, i5, i6, q0, n0, n1, b0, a3, i7, B0, q1, n2, n3)) g8))
 (
 yaS ybC ((yc7 396 [1, 1, 1, 1]) (yc8 [1, 1, 1] [] R)) (ybW (b1, i0, b2, i1, i2, i3, i4, i5, i6, q0, n0, n1, b0, a3, i7, B0, q1, n2, n3)) f2)))
 (
 Calls pP 124 #[.string s6, .int .u8 108] d0 fun e f3 => ∃ x5, e = .returned (.bool x5) ∧ yaE [b1] d0 f3 ∧
 brB x5 (
 Calls pP 125 #[.slice q1 n2 n3] f3 fun e g9 => ∃ x6, e = .returned (.bool x6) ∧ yaE [b1] f3 g9 ∧
 brB (!x6) (
 R (.int .i64 40) g9)
 (
 yaS ybC ((yc7 396 [1, 1, 1, 1]) (yc8 [1, 1, 1] [] R)) (ybW (b1, i0, b2, i1, i2, i3, i4, i5, i6, q0, n0, n1, b0, a3, i7, B0, q1, n2, n3)) g9))
 (
 yaS ybC ((yc7 396 [1, 1, 1, 1]) (yc8 [1, 1, 1] [] R)) (ybW (b1, i0, b2, i1, i2, i3, i4, i5, i6, q0, n0, n1, b0, a3, i7, B0, q1, n2, n3)) f3))))
 (
 Calls pP 124 #[.string s6, .int .u8 109] c9 fun e d1 => ∃ f4, e = .returned (.bool f4) ∧ yaE [b1] c9 d1 ∧
 brB f4 (
 Calls pP 104 #[.string a3] d1 fun e b9 => ∃ f5, e = .returned (.bool f5) ∧ yaE [b1] d1 b9 ∧
 brB (!f5) (
 R (.int .i64 40) b9)
 (
 Calls pP 124 #[.string s6, .int .u8 108] b9 fun e c0 => ∃ f6, e = .returned (.bool f6) ∧ yaE [b1] b9 c0 ∧
 brB f6 (
 Calls pP 125 #[.slice q1 n2 n3] c0 fun e d2 => ∃ f7, e = .returned (.bool f7) ∧ yaE [b1] c0 d2 ∧
 brB (!f7) (
 R (.int .i64 40) d2)
 (
 yaS ybC ((yc7 396 [1, 1, 1, 1]) (yc8 [1, 1, 1] [] R)) (ybW (b1, i0, b2, i1, i2, i3, i4, i5, i6, q0, n0, n1, b0, a3, i7, B0, q1, n2, n3)) d2))
 (
 yaS ybC ((yc7 396 [1, 1, 1, 1]) (yc8 [1, 1, 1] [] R)) (ybW (b1, i0, b2, i1, i2, i3, i4, i5, i6, q0, n0, n1, b0, a3, i7, B0, q1, n2, n3)) c0)))
 (
 Calls pP 124 #[.string s6, .int .u8 108] d1 fun e c1 => ∃ f8, e = .returned (.bool f8) ∧ yaE [b1] d1 c1 ∧
 brB f8 (
 Calls pP 125 #[.slice q1 n2 n3] c1 fun e d3 => ∃ f9, e = .returned (.bool f9) ∧ yaE [b1] c1 d3 ∧
 brB (!f9) (
 R (.int .i64 40) d3)
 (
 yaS ybC ((yc7 396 [1, 1, 1, 1]) (yc8 [1, 1, 1] [] R)) (ybW (b1, i0, b2, i1, i2, i3, i4, i5, i6, q0, n0, n1, b0, a3, i7, B0, q1, n2, n3)) d3))
 (
 yaS ybC ((yc7 396 [1, 1, 1, 1]) (yc8 [1, 1, 1] [] R)) (ybW (b1, i0, b2, i1, i2, i3, i4, i5, i6, q0, n0, n1, b0, a3, i7, B0, q1, n2, n3)) c1))))))))) :
 CR pP 100 #[(.agg (Z1 i0 b2 i1 i2 i3 i4 i5 i6 q0 n0 n1 b0 a3 i7 B0 q1 n2 n3))] w R :=
 yaA Tryz.wide_mixed (an := ytZ) Tryz.func100 rfl rfl (by kernel_rfl) rfl (Eq.mpr (by kernel_rfl) h)
def yrZ : LA := ⟨[0, 0, 1, 0, 1, 1], [0, 1, 5], [], 0, []⟩
def yt0 : List LA := [yrZ]
abbrev yH1 := dnF pP yt0 (code Tryz.f109)
abbrev yLd := yaO pP yt0 (code Tryz.f109)
abbrev yH2 (p : List Nat) (K : List Kh) (R : VWP) := yaO pP yt0 (code Tryz.f109) p K (ya4 pP Tryz.f109 [] R)
def ylS (a0 : OA) (a4 a2 : Nat) (a1 : OA) (a5 a3 : Nat) : Int → List Value × List TB := fun a6 => ([.slice a0 a4 a2, .slice a1 a5 a3, .int .i64 a6], [])
abbrev yDP (a0 : OA) (a4 a2 : Nat) (a1 : OA) (a5 a3 : Nat) (I : Nat → Int → World → Prop) (m : Nat) : Kh := KG (ylS a0 a4 a2 a1 a5 a3) (U1 I) m
theorem yz9 {I : Nat → Int → World → Prop} (m' : Nat) (h1 : m' < m) (h2 : I m' i0 w) : KS (yDP q0 n0 n1 q1 n2 n3 I m) (ylS q0 n0 n1 q1 n2 n3 i0) w := ⟨m', h1, _, rfl, rfl, h2⟩
theorem yAa {a2 : OA} {a3 : OA} (I : Nat → Int → World → Prop) (m0 : Nat) (h0 : I m0 i0 w0)
 (hr : ∀ m a0 w, I m a0 w →
 brB (decide (a0 < (n0 : Int))) (
 ixA a2 n0 a0 1 fun q1 =>
 yaQ w q1 fun s2 =>
 ixA a3 n2 a0 1 fun q3 =>
 yaQ w q3 fun s4 =>
 brB (!(s2.toList == s4.toList)) (
 ∀ w5, Adv [] [] w w5 →
 R (.bool false) w5)
 (
 ∀ w6, Adv [] [] w w6 →
 KS (yDP a2 n0 n1 a3 n2 n3 I m) (ylS a2 n0 n1 a3 n2 n3 (IntKind.wrap .i64 (a0 + 1))) w6))
 (
 R (.bool true) w)) :
 yaK yrZ (yH1 396 [0, 0, 1, 0, 1, 1]) (yH2 [1, 1, 0, 1, 0] [] R) (ylS a2 n0 n1 a3 n2 n3 i0) w0 :=
 lrule (ylS a2 n0 n1 a3 n2 n3) (U1 I) h0 (by rintro m a0 w h; exact ⟨by kernel_rfl, by kernel_rfl, fun js => Eq.mpr (by kernel_rfl) (hr m a0 w h)⟩)
theorem yH3 (h :
 brB ((n0 : Int) != (n2 : Int)) (
 R (.bool false) w)
 (
 yaK yrZ (yH1 396 [0, 0, 1, 0, 1, 1]) (yH2 [1, 1, 0, 1, 0] [] R) (ylS q0 n0 n1 q1 n2 n3 0) w)) :
 CR pP 109 #[.slice q0 n0 n1, .slice q1 n2 n3] w R :=
 yaA Tryz.wide_mixed (an := yt0) Tryz.func109 rfl rfl (by kernel_rfl) rfl (Eq.mpr (by kernel_rfl) h)
theorem yH4 {a6 : BA} {d0 b8 : BA} {b3 : BA} {d7 c1 : BA} (h :
 ∀ b1, w.heap.size ≤ b1 →
 ∀ b2, w.heap.size ≤ b2 →
 brB (i0 == i8) (
 ∀ w3, Adv [] [b2, b1] w w3 →
 ∃ t4, (∀ w', Mod [] w3 w' → Sem.run pP (do eqGuard .eql 43 (.tmp 12) (.tmp 14) (.agg #[.string a6, .int .i64 i1]) (.agg #[.string b3, .int .i64 i9]); Go.binOp .eql 43 (.agg #[.string a6, .int .i64 i1]) (.agg #[.string b3, .int .i64 i9])) w' = .ok (.bool t4) w') ∧
 brB t4 (
 brB (i2 == j0) (
 brB (i3 == j1) (
 Calls pP 108 #[(.agg (Z8 i4 i5 i6 q0 n0 n1)), (.agg (Z8 j2 j3 j4 q2 n4 n5))] w3 fun e w5 => ∃ t6, e = .returned (.bool t6) ∧ yaE [b1, b2] w3 w5 ∧
 brB t6 (
 brB (d0.toList == d7.toList) (
 brB (b8.toList == c1.toList) (
 brB (i7 == j5) (
 brB (B0 == B1) (
 Calls pP 109 #[.slice q1 n2 n3, .slice q3 n6 n7] w5 fun e w7 => ∃ t8, e = .returned (.bool t8) ∧ yaE [b1, b2] w5 w7 ∧
 R (.bool t8) w7)
 (
 R (.bool false) w5))
 (
 R (.bool false) w5))
 (
 R (.bool false) w5))
 (
 R (.bool false) w5))
 (
 R (.bool false) w5))
 (
 R (.bool false) w3))
 (
 R (.bool false) w3))
 (
 R (.bool false) w3))
 (
 ∀ w9, Adv [] [b2, b1] w w9 →
 R (.bool false) w9)) :
 CR pP 75 #[(.agg (Z1 i0 a6 i1 i2 i3 i4 i5 i6 q0 n0 n1 d0 b8 i7 B0 q1 n2 n3)), (.agg (Z1 i8 b3 i9 j0 j1 j2 j3 j4 q2 n4 n5 d7 c1 j5 B1 q3 n6 n7))] w R :=
 yaA Tryz.wide_mixed (an := []) Tryz.func75 rfl rfl (by kernel_rfl) rfl (Eq.mpr (by kernel_rfl) h)
theorem yH5 (h :
 ∀ b1, w.heap.size ≤ b1 →
 ∀ b2, w.heap.size ≤ b2 →
 brB (i0 == i3) (
 brB (i1 == i4) (
 brB (i2 == i5) (
 ∀ w3, Adv [] [b2, b1] w w3 →
 Calls pP 129 #[.slice q0 n0 n1, .slice q1 n2 n3] w3 fun e w4 => ∃ t5, e = .returned (.bool t5) ∧ yaE [b1, b2] w3 w4 ∧
 R (.bool t5) w4)
 (
 ∀ w6, Adv [] [b2, b1] w w6 →
 R (.bool false) w6))
 (
 ∀ w7, Adv [] [b2, b1] w w7 →
 R (.bool false) w7))
 (
 ∀ w8, Adv [] [b2, b1] w w8 →
 R (.bool false) w8)) :
 CR pP 106 #[(.agg (Z8 i0 i1 i2 q0 n0 n1)), (.agg (Z8 i3 i4 i5 q1 n2 n3))] w R :=
 yaA Tryz.wide_mixed (an := []) Tryz.func106 rfl rfl (by kernel_rfl) rfl (Eq.mpr (by kernel_rfl) h)
theorem yH6 {a6 : BA} {d0 b8 : BA} {b3 : BA} {d7 c1 : BA} (h :
 ∀ b1, w.heap.size ≤ b1 →
 ∀ b2, w.heap.size ≤ b2 →
 brB (i0 == i8) (
 ∀ w3, Adv [] [b2, b1] w w3 →
 ∃ t4, (∀ w', Mod [] w3 w' → Sem.run pP (do eqGuard .eql 43 (.tmp 13) (.tmp 15) (.agg #[.string a6, .int .i64 i1]) (.agg #[.string b3, .int .i64 i9]); Go.binOp .eql 43 (.agg #[.string a6, .int .i64 i1]) (.agg #[.string b3, .int .i64 i9])) w' = .ok (.bool t4) w') ∧
 brB t4 (
 brB (i2 == j0) (
 brB (i3 == j1) (
 brB (d0.toList == d7.toList) (
 brB (b8.toList == c1.toList) (
 brB (i7 == j5) (
 brB (B0 == B1) (
 Calls pP 106 #[(.agg (Z8 i4 i5 i6 q0 n0 n1)), (.agg (Z8 j2 j3 j4 q2 n4 n5))] w3 fun e w5 => ∃ t6, e = .returned (.bool t6) ∧ yaE [b1, b2] w3 w5 ∧
 brB t6 (
 Calls pP 107 #[.slice q1 n2 n3, .slice q3 n6 n7] w5 fun e w7 => ∃ t8, e = .returned (.bool t8) ∧ yaE [b1, b2] w5 w7 ∧
 R (.bool t8) w7)
 (
 R (.bool false) w5))
 (
 R (.bool false) w3))
 (
 R (.bool false) w3))
 (
 R (.bool false) w3))
 (
 R (.bool false) w3))
 (
 R (.bool false) w3))
 (
 R (.bool false) w3))
 (
 R (.bool false) w3))
 (
 ∀ w9, Adv [] [b2, b1] w w9 →
 R (.bool false) w9)) :
 CR pP 72 #[(.agg (Z1 i0 a6 i1 i2 i3 i4 i5 i6 q0 n0 n1 d0 b8 i7 B0 q1 n2 n3)), (.agg (Z1 i8 b3 i9 j0 j1 j2 j3 j4 q2 n4 n5 d7 c1 j5 B1 q3 n6 n7))] w R :=
 yaA Tryz.wide_mixed (an := []) Tryz.func72 rfl rfl (by kernel_rfl) rfl (Eq.mpr (by kernel_rfl) h)
def yr0 : LA := ⟨[0, 0, 1, 0, 1, 1], [0, 1, 12, 13], [], 0, []⟩
def yt1 : List LA := [yr0]
abbrev yH7 := dnF pP yt1 (code Tryz.f107)
abbrev yLe := yaO pP yt1 (code Tryz.f107)
abbrev yH8 (p : List Nat) (K : List Kh) (R : VWP) := yaO pP yt1 (code Tryz.f107) p K (ya4 pP Tryz.f107 [] R)
def ylT (a2 : OA) (a6 a4 : Nat) (a3 : OA) (a7 a5 : Nat) (a0 : Int) : Int → List Value × List TB := fun a1 => ([.slice a2 a6 a4, .slice a3 a7 a5, .int .i64 a0, .int .i64 a1], [])
abbrev yDQ (a1 : OA) (a5 a3 : Nat) (a2 : OA) (a6 a4 : Nat) (a0 : Int) (I : Nat → Int → World → Prop) (m : Nat) : Kh := KG (ylT a1 a5 a3 a2 a6 a4 a0) (U1 I) m
theorem yAb {I : Nat → Int → World → Prop} (m' : Nat) (h1 : m' < m) (h2 : I m' i1 w) : KS (yDQ q0 n0 n1 q1 n2 n3 i0 I m) (ylT q0 n0 n1 q1 n2 n3 i0 i1) w := ⟨m', h1, _, rfl, rfl, h2⟩
theorem yAc {a2 : OA} {a3 : OA} (I : Nat → Int → World → Prop) (m0 : Nat) (h0 : I m0 i1 w0)
 (hr : ∀ m a0 w, I m a0 w →
 brB (decide (a0 < i0)) (
 ixA a2 n0 a0 1 fun q1 =>
 yaQ w q1 fun s2 =>
 ixA a3 n2 a0 1 fun q3 =>
 yaQ w q3 fun s4 =>
 brB (!(s2.toList == s4.toList)) (
 ∀ w5, Adv [] [] w w5 →
 R (.bool false) w5)
 (
 ∀ w6, Adv [] [] w w6 →
 KS (yDQ a2 n0 n1 a3 n2 n3 i0 I m) (ylT a2 n0 n1 a3 n2 n3 i0 (IntKind.wrap .i64 (a0 + 1))) w6))
 (
 R (.bool true) w)) :
 yaK yr0 (yH7 396 [0, 0, 1, 0, 1, 1]) (yH8 [1, 1, 0, 1, 0] [] R) (ylT a2 n0 n1 a3 n2 n3 i0 i1) w0 :=
 lrule (ylT a2 n0 n1 a3 n2 n3 i0) (U1 I) h0 (by rintro m a0 w h; exact ⟨by kernel_rfl, by kernel_rfl, fun js => Eq.mpr (by kernel_rfl) (hr m a0 w h)⟩)
theorem yH9 (h :
 brB ((n0 : Int) != (n2 : Int)) (
 R (.bool false) w)
 (
 yaK yr0 (yH7 396 [0, 0, 1, 0, 1, 1]) (yH8 [1, 1, 0, 1, 0] [] R) (ylT q0 n0 n1 q1 n2 n3 (n0 : Int) 0) w)) :
 CR pP 107 #[.slice q0 n0 n1, .slice q1 n2 n3] w R :=
 yaA Tryz.wide_mixed (an := yt1) Tryz.func107 rfl rfl (by kernel_rfl) rfl (Eq.mpr (by kernel_rfl) h)
def yr1 : LA := ⟨[0, 0, 1, 0, 1, 1], [0, 1, 12, 13], [], 0, []⟩
def yt2 : List LA := [yr1]
abbrev yIa := dnF pP yt2 (code Tryz.f129)
abbrev yLf := yaO pP yt2 (code Tryz.f129)
abbrev yIb (p : List Nat) (K : List Kh) (R : VWP) := yaO pP yt2 (code Tryz.f129) p K (ya4 pP Tryz.f129 [] R)
def ylU (a2 : OA) (a6 a4 : Nat) (a3 : OA) (a7 a5 : Nat) (a0 : Int) : Int → List Value × List TB := fun a1 => ([.slice a2 a6 a4, .slice a3 a7 a5, .int .i64 a0, .int .i64 a1], [])
abbrev yDR (a1 : OA) (a5 a3 : Nat) (a2 : OA) (a6 a4 : Nat) (a0 : Int) (I : Nat → Int → World → Prop) (m : Nat) : Kh := KG (ylU a1 a5 a3 a2 a6 a4 a0) (U1 I) m
theorem yAd {I : Nat → Int → World → Prop} (m' : Nat) (h1 : m' < m) (h2 : I m' i1 w) : KS (yDR q0 n0 n1 q1 n2 n3 i0 I m) (ylU q0 n0 n1 q1 n2 n3 i0 i1) w := ⟨m', h1, _, rfl, rfl, h2⟩
theorem yAe {a2 : OA} {a3 : OA} (I : Nat → Int → World → Prop) (m0 : Nat) (h0 : I m0 i1 w0)
 (hr : ∀ m a0 w, I m a0 w →
 brB (decide (a0 < i0)) (
 ixA a2 n0 a0 4 fun q1 =>
 yaT w q1 fun t2 => yaQ w (Addr.add q1 1) fun s3 => yaT w (Addr.add q1 2) fun t4 => yaQ w (Addr.add q1 3) fun s5 =>
 ixA a3 n2 a0 4 fun q6 =>
 yaT w q6 fun t7 => yaQ w (Addr.add q6 1) fun s8 => yaT w (Addr.add q6 2) fun t9 => yaQ w (Addr.add q6 3) fun a9 =>
 ∃ b0, (∀ w', Mod [] w w' → Sem.run pP (do eqGuard .neq 53 (.tmp 19) (.tmp 23) (.agg (Z7 t2 s3 t4 s5)) (.agg (Z7 t7 s8 t9 a9)); Go.binOp .neq 53 (.agg (Z7 t2 s3 t4 s5)) (.agg (Z7 t7 s8 t9 a9))) w' = .ok (.bool b0) w') ∧
 brB b0 (
 ∀ b1, Adv [] [] w b1 →
 R (.bool false) b1)
 (
 ∀ b2, Adv [] [] w b2 →
 KS (yDR a2 n0 n1 a3 n2 n3 i0 I m) (ylU a2 n0 n1 a3 n2 n3 i0 (IntKind.wrap .i64 (a0 + 1))) b2))
 (
 R (.bool true) w)) :
 yaK yr1 (yIa 396 [0, 0, 1, 0, 1, 1]) (yIb [1, 1, 0, 1, 0] [] R) (ylU a2 n0 n1 a3 n2 n3 i0 i1) w0 :=
 lrule (ylU a2 n0 n1 a3 n2 n3 i0) (U1 I) h0 (by rintro m a0 w h; exact ⟨by kernel_rfl, by kernel_rfl, fun js => Eq.mpr (by kernel_rfl) (hr m a0 w h)⟩)
theorem yIc (h :
 brB ((n0 : Int) != (n2 : Int)) (
 R (.bool false) w)
 (
 yaK yr1 (yIa 396 [0, 0, 1, 0, 1, 1]) (yIb [1, 1, 0, 1, 0] [] R) (ylU q0 n0 n1 q1 n2 n3 (n0 : Int) 0) w)) :
 CR pP 129 #[.slice q0 n0 n1, .slice q1 n2 n3] w R :=
 yaA Tryz.wide_mixed (an := yt2) Tryz.func129 rfl rfl (by kernel_rfl) rfl (Eq.mpr (by kernel_rfl) h)
theorem yId {a2 a1 : Nat} (h :
 brB (Option.isNone q0) (
 R (.slice none 0 0) w)
 (
 al w (.cells #[] 9) fun b1 w2 =>
 yc6 pP (Builtin.append_ #[47, 47] 47 #[(.slice (some ⟨b1, 0, none⟩) 0 0), .slice q0 a2 a1]) w2 fun a4 n5 c6 w3 =>
 R (.slice a4 n5 c6) w3)) :
 CR pP 48 #[.slice q0 a2 a1] w R :=
 yaA Tryz.wide_mixed (an := []) Tryz.func48 rfl rfl (by kernel_rfl) rfl (Eq.mpr (by kernel_rfl) h)
theorem yIe {a2 a1 : Nat} (h :
 brB (Option.isNone q0) (
 R (.slice none 0 0) w)
 (
 al w (.cells #[] 53) fun b1 w2 =>
 yc6 pP (Builtin.append_ #[44, 44] 44 #[(.slice (some ⟨b1, 0, none⟩) 0 0), .slice q0 a2 a1]) w2 fun a4 n5 c6 w3 =>
 R (.slice a4 n5 c6) w3)) :
 CR pP 49 #[.slice q0 a2 a1] w R :=
 yaA Tryz.wide_mixed (an := []) Tryz.func49 rfl rfl (by kernel_rfl) rfl (Eq.mpr (by kernel_rfl) h)
end
section
set_option maxRecDepth 100000
variable {R : VWP} {w w0 : World} {m : Nat} {i0 i1 i2 i3 i4 i5 i6 i7 i8 i9 j0 j1 j2 j3 j4 j5 j6 j7 j8 j9 k0 k1 k2 k3 k4 k5 k6 k7 k8 k9 l0 l1 l2 l3 l4 l5 l6 l7 l8 l9 : Int} {s0 s1 s2 s3 s4 s5 s6 s7 s8 s9 t0 t1 t2 t3 t4 t5 t6 t7 t8 t9 : BA} {n0 n1 n2 n3 n4 n5 n6 n7 n8 n9 o0 o1 o2 o3 o4 o5 o6 o7 o8 o9 p0 p1 p2 p3 p4 p5 p6 p7 p8 p9 : Nat} {q0 q1 q2 q3 q4 q5 q6 q7 q8 q9 r0 r1 r2 r3 r4 r5 r6 r7 r8 r9 : OA} {B0 B1 B2 B3 B4 B5 B6 B7 B8 B9 : Bool} {M0 M1 M2 M3 : Option Nat} {V0 V1 V2 V3 V4 V5 : Value} {A0 A1 A2 : Addr}
theorem yIf (h :
 yaT w (Addr.add A0 1) fun t1 =>
 brB t1 (
 st w (Addr.add A0 1) [.bool true] fun w2 =>
 st w2 A1 [.int .i64 0] fun w3 =>
 R (.tuple #[]) w3)
 (
 yaI .i64 w A1 fun x4 =>
 Calls pP 94 #[.int .i64 x4] w fun e w5 => ∃ t6, e = .returned (.bool t6) ∧
 st w5 (Addr.add A0 1) [(.bool (!t6))] fun w7 =>
 st w7 A1 [.int .i64 0] fun w8 =>
 R (.tuple #[]) w8)) :
 CR pP 176 #[(.pointer (some A0)), (.pointer (some A1))] w R :=
 yaA Tryz.wide_mixed (an := []) Tryz.func176 rfl rfl (by kernel_rfl) rfl (Eq.mpr (by kernel_rfl) h)
theorem yIg (h :
 yaT w A0 fun t1 =>
 brB t1 (
 st w A0 [.bool true] fun w2 =>
 st w2 A1 [(.string (⟨#[]⟩ : BA))] fun w3 =>
 R (.tuple #[]) w3)
 (
 yaQ w A1 fun s4 =>
 Calls pP 96 #[.string s4] w fun e w5 => ∃ t6, e = .returned (.bool t6) ∧
 st w5 A0 [(.bool (!t6))] fun w7 =>
 st w7 A1 [(.string (⟨#[]⟩ : BA))] fun w8 =>
 R (.tuple #[]) w8)) :
 CR pP 174 #[(.pointer (some A0)), (.pointer (some A1))] w R :=
 yaA Tryz.wide_mixed (an := []) Tryz.func174 rfl rfl (by kernel_rfl) rfl (Eq.mpr (by kernel_rfl) h)
theorem yIh (h :
 st w A1 [.bool false] fun w1 =>
 R (.tuple #[]) w1) :
 CR pP 173 #[(.pointer (some A0)), (.pointer (some A1))] w R :=
 yaA Tryz.wide_mixed (an := []) Tryz.func173 rfl rfl (by kernel_rfl) rfl (Eq.mpr (by kernel_rfl) h)
theorem yIi (h :
 yaI .i64 w A1 fun x1 => yaI .i64 w (Addr.add A1 1) fun x2 => yaI .i64 w (Addr.add A1 2) fun x3 => yaU w (Addr.add A1 3) fun a4 n5 c6 =>
 Calls pP 163 #[(.agg (Z8 x1 x2 x3 a4 n5 c6))] w fun e w7 => ∃ x8, e = .returned (.int .i64 x8) ∧
 st w7 (Addr.add A0 2) [.int .i64 x8] fun w9 =>
 st w9 A1 [.int .i64 0, .int .i64 0, .int .i64 0, .slice none 0 0] fun a2 =>
 R (.tuple #[]) a2) :
 CR pP 172 #[(.pointer (some A0)), (.pointer (some A1))] w R :=
 yaA Tryz.wide_mixed (an := []) Tryz.func172 rfl rfl (by kernel_rfl) rfl (Eq.mpr (by kernel_rfl) h)
def yr2 : LA := ⟨[0, 0, 1, 0, 1], [0, 1, 4, 5], [], 0, []⟩
def yt3 : List LA := [yr2]
abbrev yIj := dnF pP yt3 (code Tryz.f175)
abbrev yLg := yaO pP yt3 (code Tryz.f175)
abbrev yIk (p : List Nat) (K : List Kh) (R : VWP) := yaO pP yt3 (code Tryz.f175) p K (ya4 pP Tryz.f175 [] R)
def yj4 (a0 : Addr) (a1 : Addr) : Bool × Int → List Value × List TB := fun (a2, a3) => ([(.pointer (some a0)), (.pointer (some a1)), .bool a2, .int .i64 a3], [])
abbrev yAf (a0 : Addr) (a1 : Addr) (I : Nat → Bool → Int → World → Prop) (m : Nat) : Kh := KG (yj4 a0 a1) (U2 I) m
theorem yp5 {I : Nat → Bool → Int → World → Prop} (m' : Nat) (h1 : m' < m) (h2 : I m' B0 i0 w) : KS (yAf A0 A1 I m) (yj4 A0 A1 (B0, i0)) w := ⟨m', h1, _, rfl, rfl, h2⟩
theorem yAg (I : Nat → Bool → Int → World → Prop) (m0 : Nat) (h0 : I m0 B0 i0 w0)
 (hr : ∀ m a6 a5 w, I m a6 a5 w →
 yaU w A1 fun a1 n2 c3 =>
 brB (decide (a5 < (n2 : Int))) (
 brB a6 (
 yaU w A1 fun a4 n5 c6 =>
 ixA a4 n5 (IntKind.wrap .i64 (a5 - 1)) 1 fun q7 =>
 yaQ w q7 fun s8 =>
 yaU w A1 fun a9 b5 d6 =>
 ixA a9 b5 a5 1 fun b9 =>
 yaQ w b9 fun c0 =>
 ∀ b1, Adv [] [] w b1 →
 KS (yAf A0 A1 I m) (yj4 A0 A1 ((Op.bytesLess s8.toList c0.toList), (IntKind.wrap .i64 (a5 + 1)))) b1)
 (
 ∀ b2, Adv [] [] w b2 →
 KS (yAf A0 A1 I m) (yj4 A0 A1 (false, (IntKind.wrap .i64 (a5 + 1)))) b2))
 (
 yaU w A1 fun b3 b6 b4 =>
 Calls pP 177 #[.slice b3 b6 b4, (.func (.func 178) #[] #[])] w fun e a3 => ∃ b0, e = .returned (.bool b0) ∧
 yaT a3 A0 fun c1 =>
 brB c1 (
 st a3 A0 [.bool true] fun c2 =>
 st c2 A1 [.slice none 0 0] fun c4 =>
 R (.tuple #[]) c4)
 (
 yaU a3 A1 fun d4 b7 d7 =>
 brB ((b7 : Int) == 0) (
 st a3 A0 [.bool true] fun c5 =>
 st c5 A1 [.slice none 0 0] fun c7 =>
 R (.tuple #[]) c7)
 (
 yaU a3 A1 fun d5 b8 d8 =>
 brB (decide ((b8 : Int) > 8)) (
 st a3 A0 [.bool true] fun c8 =>
 st c8 A1 [.slice none 0 0] fun c9 =>
 R (.tuple #[]) c9)
 (
 brB b0 (
 st a3 A0 [.bool true] fun d0 =>
 st d0 A1 [.slice none 0 0] fun d1 =>
 R (.tuple #[]) d1)
 (
 st a3 A0 [(.bool (!a6))] fun d2 =>
 st d2 A1 [.slice none 0 0] fun d3 =>
 R (.tuple #[]) d3)))))) :
 yaK yr2 (yIj 397 [0, 0, 1, 0, 1]) (yIk [1, 0, 1, 0] [] R) (yj4 A0 A1 (B0, i0)) w0 :=
 lrule (yj4 A0 A1) (U2 I) h0 (by rintro m ⟨a6, a5⟩ w h; exact ⟨by kernel_rfl, by kernel_rfl, fun js => Eq.mpr (by kernel_rfl) (hr m a6 a5 w h)⟩)
theorem yIl (h :
 yaK yr2 (yIj 397 [0, 0, 1, 0, 1]) (yIk [1, 0, 1, 0] [] R) (yj4 A0 A1 (true, 1)) w) :
 CR pP 175 #[(.pointer (some A0)), (.pointer (some A1))] w R :=
 yaA Tryz.wide_mixed (an := yt3) Tryz.func175 rfl rfl (by kernel_rfl) rfl (Eq.mpr (by kernel_rfl) h)
theorem yIm {a0 : BA} (h :
 Calls pP 96 #[.string a0] w fun e w1 => ∃ t2, e = .returned (.bool t2) ∧
 R (.bool (!t2)) w1) :
 CR pP 178 #[.string a0] w R :=
 yaA Tryz.wide_mixed (an := []) Tryz.func178 rfl rfl (by kernel_rfl) rfl (Eq.mpr (by kernel_rfl) h)
theorem yIn (h :
 Calls pP 179 #[.slice q0 n0 n1, (.func (.func 178) #[] #[])] w fun e w1 => ∃ x2, e = .returned (.int .i64 x2) ∧
 R (.bool (decide (x2 ≥ 0))) w1) :
 CR pP 177 #[.slice q0 n0 n1, (.func (.func 178) #[] #[])] w R :=
 yaA Tryz.wide_mixed (an := []) Tryz.func177 rfl rfl (by kernel_rfl) rfl (Eq.mpr (by kernel_rfl) h)
def yr3 : LA := ⟨[0, 0, 1, 0, 1], [0, 1, 7, 8], [], 0, []⟩
def yt4 : List LA := [yr3]
abbrev yIo := dnF pP yt4 (code Tryz.f179)
abbrev yLh := yaO pP yt4 (code Tryz.f179)
abbrev yIp (p : List Nat) (K : List Kh) (R : VWP) := yaO pP yt4 (code Tryz.f179) p K (ya4 pP Tryz.f179 [] R)
def ylV (a0 : OA) (a2 a1 : Nat) (a3 : Int) : Int → List Value × List TB := fun a4 => ([.slice a0 a2 a1, (.func (.func 178) #[] #[]), .int .i64 a3, .int .i64 a4], [])
abbrev yDS (a0 : OA) (a2 a1 : Nat) (a3 : Int) (I : Nat → Int → World → Prop) (m : Nat) : Kh := KG (ylV a0 a2 a1 a3) (U1 I) m
theorem yAh {I : Nat → Int → World → Prop} (m' : Nat) (h1 : m' < m) (h2 : I m' i1 w) : KS (yDS q0 n0 n1 i0 I m) (ylV q0 n0 n1 i0 i1) w := ⟨m', h1, _, rfl, rfl, h2⟩
theorem yAi {a1 : OA} (I : Nat → Int → World → Prop) (m0 : Nat) (h0 : I m0 i1 w0)
 (hr : ∀ m a0 w, I m a0 w →
 brB (decide (a0 < i0)) (
 ixA a1 n0 a0 1 fun q1 =>
 yaQ w q1 fun s2 =>
 Calls pP 178 #[.string s2] w fun e w3 => ∃ t4, e = .returned (.bool t4) ∧
 brB t4 (
 R (.int .i64 a0) w3)
 (
 KS (yDS a1 n0 n1 i0 I m) (ylV a1 n0 n1 i0 (IntKind.wrap .i64 (a0 + 1))) w3))
 (
 R (.int .i64 (-1)) w)) :
 yaK yr3 (yIo 397 [0, 0, 1, 0, 1]) (yIp [1, 0, 1, 0] [] R) (ylV a1 n0 n1 i0 i1) w0 :=
 lrule (ylV a1 n0 n1 i0) (U1 I) h0 (by rintro m a0 w h; exact ⟨by kernel_rfl, by kernel_rfl, fun js => Eq.mpr (by kernel_rfl) (hr m a0 w h)⟩)
theorem yIq (h :
 yaK yr3 (yIo 397 [0, 0, 1, 0, 1]) (yIp [1, 0, 1, 0] [] R) (ylV q0 n0 n1 (n0 : Int) 0) w) :
 CR pP 179 #[.slice q0 n0 n1, (.func (.func 178) #[] #[])] w R :=
 yaA Tryz.wide_mixed (an := yt4) Tryz.func179 rfl rfl (by kernel_rfl) rfl (Eq.mpr (by kernel_rfl) h)
theorem yIr (h :
 ∀ w1, Adv [] [] w w1 →
 Calls pP 174 #[(.pointer (some A1)), (.pointer (some A0))] w1 fun e w2 => e = .returned (.tuple #[]) ∧
 ∀ w3, Adv [] [] w2 w3 →
 Calls pP 176 #[(.pointer (some A1)), (.pointer (some (Addr.add A0 1)))] w3 fun e w4 => e = .returned (.tuple #[]) ∧
 R (.tuple #[]) w4) :
 CR pP 60 #[(.iface 158 (.pointer (some A1))), (.pointer (some A0))] w R :=
 yaA Tryz.wide_mixed (an := []) Tryz.func60 rfl rfl (by kernel_rfl) rfl (Eq.mpr (by kernel_rfl) h)
theorem yIs (h :
 ∀ w1, Adv [] [] w w1 →
 Calls pP 174 #[(.pointer (some A1)), (.pointer (some (Addr.add A0 9)))] w1 fun e w2 => e = .returned (.tuple #[]) ∧
 ∀ w3, Adv [] [] w2 w3 →
 Calls pP 174 #[(.pointer (some A1)), (.pointer (some (Addr.add A0 10)))] w3 fun e w4 => e = .returned (.tuple #[]) ∧
 R (.tuple #[]) w4) :
 CR pP 118 #[(.iface 158 (.pointer (some A1))), (.pointer (some A0))] w R :=
 yaA Tryz.wide_mixed (an := []) Tryz.func118 rfl rfl (by kernel_rfl) rfl (Eq.mpr (by kernel_rfl) h)
theorem yIt (h :
 yaI .i64 w A0 fun x1 =>
 brB (x1 == 0) (
 ∀ w2, Adv [] [] w w2 →
 Calls pP 174 #[(.pointer (some A1)), (.pointer (some (Addr.add A0 1)))] w2 fun e w3 => e = .returned (.tuple #[]) ∧
 ∀ w4, Adv [] [] w3 w4 →
 Calls pP 176 #[(.pointer (some A1)), (.pointer (some (Addr.add A0 3)))] w4 fun e w5 => e = .returned (.tuple #[]) ∧
 R (.tuple #[]) w5)
 (
 brB (x1 == 1) (
 brB (x1 == 1) (
 ∀ w6, Adv [] [] w w6 →
 Calls pP 176 #[(.pointer (some A1)), (.pointer (some (Addr.add A0 3)))] w6 fun e w7 => e = .returned (.tuple #[]) ∧
 R (.tuple #[]) w7)
 (
 brB (x1 == 2) (
 Calls pP 60 #[(.iface 158 (.pointer (some A1))), (.pointer (some (Addr.add A0 1)))] w fun e w8 => e = .returned (.tuple #[]) ∧
 ∀ w9, Adv [] [] w8 w9 →
 Calls pP 172 #[(.pointer (some A1)), (.pointer (some (Addr.add A0 5)))] w9 fun e f3 => e = .returned (.tuple #[]) ∧
 R (.tuple #[]) f3)
 (
 brB (x1 == 3) (
 Calls pP 60 #[(.iface 158 (.pointer (some A1))), (.pointer (some (Addr.add A0 1)))] w fun e f4 => e = .returned (.tuple #[]) ∧
 ∀ a9, Adv [] [] f4 a9 →
 Calls pP 176 #[(.pointer (some A1)), (.pointer (some (Addr.add A0 4)))] a9 fun e f5 => e = .returned (.tuple #[]) ∧
 ∀ b0, Adv [] [] f5 b0 →
 Calls pP 176 #[(.pointer (some A1)), (.pointer (some (Addr.add A0 3)))] b0 fun e f6 => e = .returned (.tuple #[]) ∧
 R (.tuple #[]) f6)
 (
 brB (x1 == 4) (
 Calls pP 60 #[(.iface 158 (.pointer (some A1))), (.pointer (some (Addr.add A0 1)))] w fun e f7 => e = .returned (.tuple #[]) ∧
 ∀ b1, Adv [] [] f7 b1 →
 Calls pP 176 #[(.pointer (some A1)), (.pointer (some (Addr.add A0 4)))] b1 fun e f8 => e = .returned (.tuple #[]) ∧
 R (.tuple #[]) f8)
 (
 brB (x1 == 5) (
 Calls pP 60 #[(.iface 158 (.pointer (some A1))), (.pointer (some (Addr.add A0 1)))] w fun e f9 => e = .returned (.tuple #[]) ∧
 R (.tuple #[]) f9)
 (
 brB (x1 == 6) (
 Calls pP 118 #[(.iface 158 (.pointer (some A1))), (.pointer (some A0))] w fun e g0 => e = .returned (.tuple #[]) ∧
 ∀ b2, Adv [] [] g0 b2 →
 Calls pP 176 #[(.pointer (some A1)), (.pointer (some (Addr.add A0 3)))] b2 fun e g1 => e = .returned (.tuple #[]) ∧
 ∀ b3, Adv [] [] g1 b3 →
 Calls pP 173 #[(.pointer (some A1)), (.pointer (some (Addr.add A0 12)))] b3 fun e g2 => e = .returned (.tuple #[]) ∧
 ∀ b4, Adv [] [] g2 b4 →
 Calls pP 175 #[(.pointer (some A1)), (.pointer (some (Addr.add A0 13)))] b4 fun e g3 => e = .returned (.tuple #[]) ∧
 R (.tuple #[]) g3)
 (
 brB (x1 == 7) (
 brB (x1 == 7) (
 Calls pP 118 #[(.iface 158 (.pointer (some A1))), (.pointer (some A0))] w fun e g4 => e = .returned (.tuple #[]) ∧
 ∀ b5, Adv [] [] g4 b5 →
 Calls pP 176 #[(.pointer (some A1)), (.pointer (some (Addr.add A0 11)))] b5 fun e g5 => e = .returned (.tuple #[]) ∧
 R (.tuple #[]) g5)
 (
 brB (x1 == 10) (
 Calls pP 118 #[(.iface 158 (.pointer (some A1))), (.pointer (some A0))] w fun e g6 => e = .returned (.tuple #[]) ∧
 ∀ b6, Adv [] [] g6 b6 →
 Calls pP 176 #[(.pointer (some A1)), (.pointer (some (Addr.add A0 11)))] b6 fun e g7 => e = .returned (.tuple #[]) ∧
 Calls pP 60 #[(.iface 158 (.pointer (some A1))), (.pointer (some (Addr.add A0 1)))] g7 fun e g8 => e = .returned (.tuple #[]) ∧
 ∀ b7, Adv [] [] g8 b7 →
 Calls pP 176 #[(.pointer (some A1)), (.pointer (some (Addr.add A0 4)))] b7 fun e g9 => e = .returned (.tuple #[]) ∧
 R (.tuple #[]) g9)
 (
 brB (x1 == 11) (
 ∀ b8, Adv [] [] w b8 →
 Calls pP 174 #[(.pointer (some A1)), (.pointer (some (Addr.add A0 9)))] b8 fun e h0 => e = .returned (.tuple #[]) ∧
 Calls pP 60 #[(.iface 158 (.pointer (some A1))), (.pointer (some (Addr.add A0 1)))] h0 fun e h1 => e = .returned (.tuple #[]) ∧
 R (.tuple #[]) h1)
 (
 R (.tuple #[]) w))))
 (
 brB (x1 == 8) (
 brB (x1 == 8) (
 Calls pP 118 #[(.iface 158 (.pointer (some A1))), (.pointer (some A0))] w fun e h2 => e = .returned (.tuple #[]) ∧
 ∀ b9, Adv [] [] h2 b9 →
 Calls pP 176 #[(.pointer (some A1)), (.pointer (some (Addr.add A0 11)))] b9 fun e h3 => e = .returned (.tuple #[]) ∧
 R (.tuple #[]) h3)
 (
 brB (x1 == 10) (
 Calls pP 118 #[(.iface 158 (.pointer (some A1))), (.pointer (some A0))] w fun e h4 => e = .returned (.tuple #[]) ∧
 ∀ c0, Adv [] [] h4 c0 →
 Calls pP 176 #[(.pointer (some A1)), (.pointer (some (Addr.add A0 11)))] c0 fun e h5 => e = .returned (.tuple #[]) ∧
 Calls pP 60 #[(.iface 158 (.pointer (some A1))), (.pointer (some (Addr.add A0 1)))] h5 fun e h6 => e = .returned (.tuple #[]) ∧
 ∀ c1, Adv [] [] h6 c1 →
 Calls pP 176 #[(.pointer (some A1)), (.pointer (some (Addr.add A0 4)))] c1 fun e h7 => e = .returned (.tuple #[]) ∧
 R (.tuple #[]) h7)
 (
 brB (x1 == 11) (
 ∀ c2, Adv [] [] w c2 →
 Calls pP 174 #[(.pointer (some A1)), (.pointer (some (Addr.add A0 9)))] c2 fun e h8 => e = .returned (.tuple #[]) ∧
 Calls pP 60 #[(.iface 158 (.pointer (some A1))), (.pointer (some (Addr.add A0 1)))] h8 fun e h9 => e = .returned (.tuple #[]) ∧
 R (.tuple #[]) h9)
 (
 R (.tuple #[]) w))))
 (
 brB (x1 == 9) (
 Calls pP 118 #[(.iface 158 (.pointer (some A1))), (.pointer (some A0))] w fun e u0 => e = .returned (.tuple #[]) ∧
 ∀ c3, Adv [] [] u0 c3 →
 Calls pP 176 #[(.pointer (some A1)), (.pointer (some (Addr.add A0 11)))] c3 fun e u1 => e = .returned (.tuple #[]) ∧
 R (.tuple #[]) u1)
 (
 brB (x1 == 10) (
 Calls pP 118 #[(.iface 158 (.pointer (some A1))), (.pointer (some A0))] w fun e u2 => e = .returned (.tuple #[]) ∧
 ∀ c4, Adv [] [] u2 c4 →
 Calls pP 176 #[(.pointer (some A1)), (.pointer (some (Addr.add A0 11)))] c4 fun e u3 => e = .returned (.tuple #[]) ∧
 Calls pP 60 #[(.iface 158 (.pointer (some A1))), (.pointer (some (Addr.add A0 1)))] u3 fun e u4 => e = .returned (.tuple #[]) ∧
 ∀ c5, Adv [] [] u4 c5 →
 Calls pP 176 #[(.pointer (some A1)), (.pointer (some (Addr.add A0 4)))] c5 fun e u5 => e = .returned (.tuple #[]) ∧
 R (.tuple #[]) u5)
 (
 brB (x1 == 11) (
 ∀ c6, Adv [] [] w c6 →
 Calls pP 174 #[(.pointer (some A1)), (.pointer (some (Addr.add A0 9)))] c6 fun e u6 => e = .returned (.tuple #[]) ∧
 Calls pP 60 #[(.iface 158 (.pointer (some A1))), (.pointer (some (Addr.add A0 1)))] u6 fun e u7 => e = .returned (.tuple #[]) ∧
 R (.tuple #[]) u7)
 (
 R (.tuple #[]) w))))))))))))
 (
 brB (x1 == 12) (
 ∀ c7, Adv [] [] w c7 →
 Calls pP 176 #[(.pointer (some A1)), (.pointer (some (Addr.add A0 3)))] c7 fun e u9 => e = .returned (.tuple #[]) ∧
 R (.tuple #[]) u9)
 (
 brB (x1 == 2) (
 Calls pP 60 #[(.iface 158 (.pointer (some A1))), (.pointer (some (Addr.add A0 1)))] w fun e v0 => e = .returned (.tuple #[]) ∧
 ∀ c8, Adv [] [] v0 c8 →
 Calls pP 172 #[(.pointer (some A1)), (.pointer (some (Addr.add A0 5)))] c8 fun e v1 => e = .returned (.tuple #[]) ∧
 R (.tuple #[]) v1)
 (
 brB (x1 == 3) (
 Calls pP 60 #[(.iface 158 (.pointer (some A1))), (.pointer (some (Addr.add A0 1)))] w fun e v2 => e = .returned (.tuple #[]) ∧
 ∀ c9, Adv [] [] v2 c9 →
 Calls pP 176 #[(.pointer (some A1)), (.pointer (some (Addr.add A0 4)))] c9 fun e v3 => e = .returned (.tuple #[]) ∧
 ∀ d0, Adv [] [] v3 d0 →
 Calls pP 176 #[(.pointer (some A1)), (.pointer (some (Addr.add A0 3)))] d0 fun e v4 => e = .returned (.tuple #[]) ∧
 R (.tuple #[]) v4)
 (
 brB (x1 == 4) (
 Calls pP 60 #[(.iface 158 (.pointer (some A1))), (.pointer (some (Addr.add A0 1)))] w fun e v5 => e = .returned (.tuple #[]) ∧
 ∀ d1, Adv [] [] v5 d1 →
 Calls pP 176 #[(.pointer (some A1)), (.pointer (some (Addr.add A0 4)))] d1 fun e v6 => e = .returned (.tuple #[]) ∧
 R (.tuple #[]) v6)
 (
 brB (x1 == 5) (
 Calls pP 60 #[(.iface 158 (.pointer (some A1))), (.pointer (some (Addr.add A0 1)))] w fun e v7 => e = .returned (.tuple #[]) ∧
 R (.tuple #[]) v7)
 (
 brB (x1 == 6) (
 Calls pP 118 #[(.iface 158 (.pointer (some A1))), (.pointer (some A0))] w fun e v8 => e = .returned (.tuple #[]) ∧
 ∀ d2, Adv [] [] v8 d2 →
 Calls pP 176 #[(.pointer (some A1)), (.pointer (some (Addr.add A0 3)))] d2 fun e v9 => e = .returned (.tuple #[]) ∧
 ∀ d3, Adv [] [] v9 d3 →
 Calls pP 173 #[(.pointer (some A1)), (.pointer (some (Addr.add A0 12)))] d3 fun e w0 => e = .returned (.tuple #[]) ∧
 ∀ d4, Adv [] [] w0 d4 →
 Calls pP 175 #[(.pointer (some A1)), (.pointer (some (Addr.add A0 13)))] d4 fun e w1 => e = .returned (.tuple #[]) ∧
 R (.tuple #[]) w1)
 (
 brB (x1 == 7) (
 brB (x1 == 7) (
 Calls pP 118 #[(.iface 158 (.pointer (some A1))), (.pointer (some A0))] w fun e x0 => e = .returned (.tuple #[]) ∧
 ∀ d5, Adv [] [] x0 d5 →
 Calls pP 176 #[(.pointer (some A1)), (.pointer (some (Addr.add A0 11)))] d5 fun e x2 => e = .returned (.tuple #[]) ∧
 R (.tuple #[]) x2)
 (
 brB (x1 == 10) (
 Calls pP 118 #[(.iface 158 (.pointer (some A1))), (.pointer (some A0))] w fun e x3 => e = .returned (.tuple #[]) ∧
 ∀ d6, Adv [] [] x3 d6 →
 Calls pP 176 #[(.pointer (some A1)), (.pointer (some (Addr.add A0 11)))] d6 fun e x4 => e = .returned (.tuple #[]) ∧
 Calls pP 60 #[(.iface 158 (.pointer (some A1))), (.pointer (some (Addr.add A0 1)))] x4 fun e x5 => e = .returned (.tuple #[]) ∧
 ∀ d7, Adv [] [] x5 d7 →
 Calls pP 176 #[(.pointer (some A1)), (.pointer (some (Addr.add A0 4)))] d7 fun e x6 => e = .returned (.tuple #[]) ∧
 R (.tuple #[]) x6)
 (
 brB (x1 == 11) (
 ∀ d8, Adv [] [] w d8 →
 Calls pP 174 #[(.pointer (some A1)), (.pointer (some (Addr.add A0 9)))] d8 fun e x7 => e = .returned (.tuple #[]) ∧
 Calls pP 60 #[(.iface 158 (.pointer (some A1))), (.pointer (some (Addr.add A0 1)))] x7 fun e x8 => e = .returned (.tuple #[]) ∧
 R (.tuple #[]) x8)
 (
 R (.tuple #[]) w))))
 (
 brB (x1 == 8) (
 brB (x1 == 8) (
 Calls pP 118 #[(.iface 158 (.pointer (some A1))), (.pointer (some A0))] w fun e x9 => e = .returned (.tuple #[]) ∧
 ∀ d9, Adv [] [] x9 d9 →
 Calls pP 176 #[(.pointer (some A1)), (.pointer (some (Addr.add A0 11)))] d9 fun e y0 => e = .returned (.tuple #[]) ∧
 R (.tuple #[]) y0)
 (
 brB (x1 == 10) (
 Calls pP 118 #[(.iface 158 (.pointer (some A1))), (.pointer (some A0))] w fun e y1 => e = .returned (.tuple #[]) ∧
 ∀ a2, Adv [] [] y1 a2 →
 Calls pP 176 #[(.pointer (some A1)), (.pointer (some (Addr.add A0 11)))] a2 fun e e0 => e = .returned (.tuple #[]) ∧
 Calls pP 60 #[(.iface 158 (.pointer (some A1))), (.pointer (some (Addr.add A0 1)))] e0 fun e e1 => e = .returned (.tuple #[]) ∧
 ∀ a3, Adv [] [] e1 a3 →
 Calls pP 176 #[(.pointer (some A1)), (.pointer (some (Addr.add A0 4)))] a3 fun e e2 => e = .returned (.tuple #[]) ∧
 R (.tuple #[]) e2)
 (
 brB (x1 == 11) (
 ∀ a4, Adv [] [] w a4 →
 Calls pP 174 #[(.pointer (some A1)), (.pointer (some (Addr.add A0 9)))] a4 fun e e3 => e = .returned (.tuple #[]) ∧
 Calls pP 60 #[(.iface 158 (.pointer (some A1))), (.pointer (some (Addr.add A0 1)))] e3 fun e e4 => e = .returned (.tuple #[]) ∧
 R (.tuple #[]) e4)
 (
 R (.tuple #[]) w))))
 (
 brB (x1 == 9) (
 Calls pP 118 #[(.iface 158 (.pointer (some A1))), (.pointer (some A0))] w fun e e5 => e = .returned (.tuple #[]) ∧
 ∀ a5, Adv [] [] e5 a5 →
 Calls pP 176 #[(.pointer (some A1)), (.pointer (some (Addr.add A0 11)))] a5 fun e e6 => e = .returned (.tuple #[]) ∧
 R (.tuple #[]) e6)
 (
 brB (x1 == 10) (
 Calls pP 118 #[(.iface 158 (.pointer (some A1))), (.pointer (some A0))] w fun e e7 => e = .returned (.tuple #[]) ∧
 ∀ a6, Adv [] [] e7 a6 →
 Calls pP 176 #[(.pointer (some A1)), (.pointer (some (Addr.add A0 11)))] a6 fun e e8 => e = .returned (.tuple #[]) ∧
 Calls pP 60 #[(.iface 158 (.pointer (some A1))), (.pointer (some (Addr.add A0 1)))] e8 fun e e9 => e = .returned (.tuple #[]) ∧
 ∀ a7, Adv [] [] e9 a7 →
 Calls pP 176 #[(.pointer (some A1)), (.pointer (some (Addr.add A0 4)))] a7 fun e f0 => e = .returned (.tuple #[]) ∧
 R (.tuple #[]) f0)
 (
 brB (x1 == 11) (
 ∀ a8, Adv [] [] w a8 →
 Calls pP 174 #[(.pointer (some A1)), (.pointer (some (Addr.add A0 9)))] a8 fun e f1 => e = .returned (.tuple #[]) ∧
 Calls pP 60 #[(.iface 158 (.pointer (some A1))), (.pointer (some (Addr.add A0 1)))] f1 fun e f2 => e = .returned (.tuple #[]) ∧
 R (.tuple #[]) f2)
 (
 R (.tuple #[]) w)))))))))))))) :
 CR pP 93 #[(.iface 158 (.pointer (some A1))), (.pointer (some A0))] w R :=
 yaA Tryz.wide_mixed (an := []) Tryz.func93 rfl rfl (by kernel_rfl) rfl (Eq.mpr (by kernel_rfl) h)
theorem yIu {b0 : BA} {b9 a7 : BA} (h :
 ∀ b1, w.heap.size ≤ b1 →
 brB (decide (i0 < 0)) (
 ∀ w2, Adv [] [b1] w w2 →
 R (.int .i64 41) w2)
 (
 brB (decide (i0 ≥ 13)) (
 ∀ w3, Adv [] [b1] w w3 →
 R (.int .i64 41) w3)
 (
 ∀ b4, w.heap.size ≤ b4 →
 ∀ w5, Adv [] [b4, b1] w w5 → w5.heap[b1]? = some (.cells (Z1 i0 b0 i1 i2 i3 i4 i5 i6 q0 n0 n1 b9 a7 i7 B0 q1 n2 n3) 49) →
 w5.heap[b4]? = some (.cells #[.bool false, .bool false, .int .i64 0] 160) →
 Calls pP 93 #[(.iface 158 (.pointer (some ⟨b4, 0, none⟩))), (.pointer (some ⟨b1, 0, none⟩))] w5 fun e w6 => e = .returned (.tuple #[]) ∧ ∃ x7 s8 x9 d3 d4 d5 d6 d7 c1 c5 c3 c7 c8 d8 c9 c2 c6 c4, w6.heap[b1]? = some (.cells (Z1 x7 s8 x9 d3 d4 d5 d6 d7 c1 c5 c3 c7 c8 d8 c9 c2 c6 c4) 49) ∧ ∃ d0 d9 e0, w6.heap[b4]? = some (.cells #[.bool d0, .bool d9, .int .i64 e0] 160) ∧
 brB d0 (
 ∀ d1, Adv [b1] [] w6 d1 → d1.heap[b1]? = some (.cells (Z1 0 s8 x9 d3 d4 d5 d6 d7 c1 c5 c3 c7 c8 d8 c9 c2 c6 c4) 49) →
 d1.heap[b4]? = some (.cells #[.bool d0, .bool d9, .int .i64 e0] 160) →
 R (.int .i64 40) d1)
 (
 ∀ d2, Adv [b1] [] w6 d2 → d2.heap[b1]? = some (.cells (Z1 0 s8 x9 d3 d4 d5 d6 d7 c1 c5 c3 c7 c8 d8 c9 c2 c6 c4) 49) →
 d2.heap[b4]? = some (.cells #[.bool d0, .bool d9, .int .i64 e0] 160) →
 Calls pP 72 #[(.agg (Z1 0 s8 x9 d3 d4 d5 d6 d7 c1 c5 c3 c7 c8 d8 c9 c2 c6 c4)), (.agg (Z1 0 ByteArray.empty 0 0 0 0 0 0 none 0 0 ByteArray.empty ByteArray.empty 0 false none 0 0))] d2 fun e c0 => ∃ e1, e = .returned (.bool e1) ∧ ∃ f5 f0 f6 f7 f8 f9 g0 g1 e4 e8 e6 f1 f2 g2 f3 e5 e9 e7, c0.heap[b1]? = some (.cells (Z1 f5 f0 f6 f7 f8 f9 g0 g1 e4 e8 e6 f1 f2 g2 f3 e5 e9 e7) 49) ∧ ∃ f4 e2 e3, c0.heap[b4]? = some (.cells #[.bool f4, .bool e2, .int .i64 e3] 160) ∧
 brB (!e1) (
 R (.int .i64 40) c0)
 (
 brB e2 (
 R (.int .i64 1) c0)
 (
 R (.int .i64 e3) c0)))))) :
 CR pP 92 #[(.agg (Z1 i0 b0 i1 i2 i3 i4 i5 i6 q0 n0 n1 b9 a7 i7 B0 q1 n2 n3))] w R :=
 yaA Tryz.wide_mixed (an := []) Tryz.func92 rfl rfl (by kernel_rfl) rfl (Eq.mpr (by kernel_rfl) h)
end
theorem yIv {w : World} {a1 a2 : Option Addr} {n1 c1 n2 c2 : Nat} {l1 l2 : List ByteArray} (h1 : yb3 w 1 yiO a1 n1 l1) (h2 : yb3 w 1 yiO a2 n2 l2) (hl : l1.length ≤ 1000000) :
  Calls pP 107 #[.slice a1 n1 c1, .slice a2 n2 c2] w fun e w' => e = .returned (.bool (decide (l1 = l2))) ∧ Mod [] w w' := by
 refine yaP (yH9 ?_)
 have e1 := h1.1
 have e2 := h2.1
 refine yaB (fun h => ⟨congrArg Value.bool (decide_eq_false fun e => ?_).symm, Mod.refl _⟩) fun h => ?_
 ·subst e
  rw [e1, e2] at h
  simp at h
 have hlen : l1.length = l2.length := by
  simp at h
  omega
 refine yAc (fun mm x w' => ∃ k : Nat, x = k ∧ k ≤ l1.length ∧ l1.take k = l2.take k ∧ Mod [] w w' ∧ mm = l1.length - k) l1.length ⟨0, rfl, by omega, by simp, Mod.refl _, rfl⟩ ?_
 rintro mm x w1 ⟨k, rfl, hk, ht, M, rfl⟩
 refine yaC (fun hlt => ?_) fun hge => ?_
 ·have g1 : k < l1.length := by omega
  have g2 : k < l2.length := by omega
  obtain ⟨x, hx⟩ : ∃ x, l1[k]? = some x := ⟨_, List.getElem?_eq_getElem g1⟩
  obtain ⟨y, hy⟩ : ∃ y, l2[k]? = some y := ⟨_, List.getElem?_eq_getElem g2⟩
  refine (h1.keep0 M).ix hx fun q hq => yaG (by simpa [add_zero] using hq 0 _ rfl) ?_
  refine (h2.keep0 M).ix hy fun q hq => yaG (by simpa [add_zero] using hq 0 _ rfl) ?_
  rw [yf2 x y]
  refine yaB (fun hne => ?_) fun heq => ?_
  rotate_left
  rotate_right
  ·intro w2 A2
   refine ⟨congrArg Value.bool (decide_eq_false fun e => (show ¬ x = y by simpa using hne) ?_).symm, M.go0 A2.mod (by simp)⟩
   subst e
   rw [hx] at hy
   exact Option.some.inj hy
  ·intro w2 A2
   have he : x = y := by simpa using heq
   subst he
   exact yAb (l1.length - (k + 1)) (by omega) ⟨k + 1, by rw [yaH (by omega) (by omega)]; omega, by omega, ycB ht hx hy, M.go0 A2.mod (by simp), rfl⟩
 ·have hk : k = l1.length := by omega
  subst hk
  rw [List.take_length, hlen, List.take_length] at ht
  exact ⟨congrArg Value.bool (decide_eq_true ht).symm, M⟩
theorem neR (x y : PRec) (o1 o2 : Operand) (w : World) : Sem.run pP (do eqGuard .neq 53 o1 o2 x.v y.v; Go.binOp .neq 53 x.v y.v) w = .ok (.bool (decide (x ≠ y))) w := by
 obtain ⟨a, b, c, d⟩ := x
 obtain ⟨a', b', c', d'⟩ := y
 simp [go_sem, Sem.run_bind, PRec.v]
 by_cases h1 : a = a' <;> by_cases h2 : b = b' <;> by_cases h3 : c = c' <;> by_cases h4 : d = d' <;> simp [h1, h2, h3, h4, ydM]
theorem yKz (x y : PPart) (o1 o2 : Operand) (w : World) : Sem.run pP (do eqGuard .eql 43 o1 o2 x.v y.v; Go.binOp .eql 43 x.v y.v) w = .ok (.bool (decide (x = y))) w := by
 obtain ⟨a, b⟩ := x
 obtain ⟨a', b'⟩ := y
 simp [go_sem, Sem.run_bind, PPart.v]
 by_cases h1 : a = a' <;> by_cases h2 : b = b' <;> simp [h1, h2, ydM]
theorem yIw {w : World} {a1 a2 : Option Addr} {n1 c1 n2 c2 : Nat} {l1 l2 : List PRec} (h1 : yb3 w 4 ye7 a1 n1 l1) (h2 : yb3 w 4 ye7 a2 n2 l2) (hl : l1.length ≤ 1000000) :
  Calls pP 129 #[.slice a1 n1 c1, .slice a2 n2 c2] w fun e w' => e = .returned (.bool (decide (l1 = l2))) ∧ Mod [] w w' := by
 refine yaP (yIc ?_)
 have e1 := h1.1
 have e2 := h2.1
 refine yaB (fun h => ⟨congrArg Value.bool (decide_eq_false fun e => ?_).symm, Mod.refl _⟩) fun h => ?_
 ·subst e
  rw [e1, e2] at h
  simp at h
 have hlen : l1.length = l2.length := by
  simp at h
  omega
 refine yAe (fun mm x w' => ∃ k : Nat, x = k ∧ k ≤ l1.length ∧ l1.take k = l2.take k ∧ Mod [] w w' ∧ mm = l1.length - k) l1.length ⟨0, rfl, by omega, by simp, Mod.refl _, rfl⟩ ?_
 rintro mm x w1 ⟨k, rfl, hk, ht, M, rfl⟩
 refine yaC (fun hlt => ?_) fun hge => ?_
 ·have g1 : k < l1.length := by omega
  have g2 : k < l2.length := by omega
  obtain ⟨x, hx⟩ : ∃ x, l1[k]? = some x := ⟨_, List.getElem?_eq_getElem g1⟩
  obtain ⟨y, hy⟩ : ∃ y, l2[k]? = some y := ⟨_, List.getElem?_eq_getElem g2⟩
  refine (h1.keep0 M).ix hx fun q hq => yaN (by simpa [add_zero] using hq 0 _ rfl) (yaG (hq 1 _ rfl) (yaN (hq 2 _ rfl) (yaG (hq 3 _ rfl) ?_)))
  refine (h2.keep0 M).ix hy fun q hq => yaN (by simpa [add_zero] using hq 0 _ rfl) (yaG (hq 1 _ rfl) (yaN (hq 2 _ rfl) (yaG (hq 3 _ rfl) ?_)))
  refine ⟨_, fun w' _ => neR x y _ _ w', ?_⟩
  refine yaC (fun hne => ?_) fun heq => ?_
  ·intro w2 A2
   refine ⟨congrArg Value.bool (decide_eq_false fun e => hne ?_).symm, M.go0 A2.mod (by simp)⟩
   subst e
   rw [hx] at hy
   exact Option.some.inj hy
  ·intro w2 A2
   have he : x = y := Decidable.not_not.1 heq
   subst he
   exact yAd (l1.length - (k + 1)) (by omega) ⟨k + 1, by rw [yaH (by omega) (by omega)]; omega, by omega, ycB ht hx hy, M.go0 A2.mod (by simp), rfl⟩
 ·have hk : k = l1.length := by omega
  subst hk
  rw [List.take_length, hlen, List.take_length] at ht
  exact ⟨congrArg Value.bool (decide_eq_true ht).symm, M⟩
def PBatch.v (b : PBatch) (rs : Sl) : Value := .agg #[.int .i64 b.prod, .int .i64 b.epoch, .int .i64 b.seq, .slice rs.a rs.n rs.c]
theorem yvU {w : World} {x y : PBatch} {s t : Sl} (h1 : yb3 w 4 ye7 s.a s.n x.recs) (h2 : yb3 w 4 ye7 t.a t.n y.recs) (hl : x.recs.length ≤ 1000000) :
  Calls pP 106 #[x.v s, y.v t] w fun e w' => e = .returned (.bool (decide (x = y))) ∧ Mod [] w w' := by
 obtain ⟨a1, a2, a3, a4⟩ := x
 obtain ⟨b1, b2, b3, b4⟩ := y
 refine yaP (yH5 ?_)
 intro c1 f1 c2 f2
 simp only [PBatch.mk.injEq]
 refine yaB (fun g1 => ?_) fun g1 => ?_
 ·have g1 : a1 = b1 := by simpa using g1
  refine yaB (fun g2 => ?_) fun g2 => ?_
  ·have g2 : a2 = b2 := by simpa using g2
   refine yaB (fun g3 => ?_) fun g3 => ?_
   ·have g3 : a3 = b3 := by simpa using g3
    intro w1 A1
    refine (yIw (h1.keep0 A1.mod) (h2.keep0 A1.mod) hl).mono ?_
    rintro e w2 ⟨rfl, M2⟩
    exact ⟨_, rfl, yaE.of0 M2, by simp [g1, g2, g3], A1.mod.go0 M2 (by simp)⟩
   ·intro w1 A1
    exact ⟨congrArg Value.bool (decide_eq_false (by simp at g3; rintro ⟨_, _, h, _⟩; exact g3 h)).symm, A1.mod⟩
  ·intro w1 A1
   exact ⟨congrArg Value.bool (decide_eq_false (by simp at g2; rintro ⟨_, h, _⟩; exact g2 h)).symm, A1.mod⟩
 ·intro w1 A1
  exact ⟨congrArg Value.bool (decide_eq_false (by simp at g1; rintro ⟨h, _⟩; exact g1 h)).symm, A1.mod⟩
theorem yp6 {w : World} {x y : POp} {rs ts rs' ts' : Sl} (h1 : OpAt w x rs ts) (h2 : OpAt w y rs' ts') :
  Calls pP 72 #[x.v rs ts, y.v rs' ts'] w fun e w' => e = .returned (.bool (decide (x = y))) ∧ Mod [] w w' := by
 obtain ⟨k1, p1, n1, o1, b1, g1, m1, e1, r1, t1⟩ := x
 obtain ⟨k2, p2, n2, o2, b2, g2, m2, e2, r2, t2⟩ := y
 refine yaP (yH6 ?_)
 intro c1 f1 c2 f2
 simp only [POp.mk.injEq]
 have no : ∀ {P : Prop} [Decidable P] {w' : World}, ¬ P → Mod [] w w' → (Value.bool false = Value.bool (decide P) ∧ Mod [] w w') := fun hn M => ⟨congrArg Value.bool (decide_eq_false hn).symm, M⟩
 refine yaB (fun q1 => ?_) fun q1 => ?_
 rotate_left
 ·intro w1 A1
  exact no (by simp at q1; rintro ⟨h, _⟩; exact q1 h) A1.mod
 have q1 : k1 = k2 := by simpa using q1
 intro w1 A1
 have M1 := A1.mod
 refine ⟨_, fun w' _ => yKz p1 p2 _ _ w', yaB (fun q2 => ?_) fun q2 => no (by simp at q2; rintro ⟨_, h, _⟩; exact q2 h) M1⟩
 have q2 : p1 = p2 := by simpa using q2
 refine yaB (fun q3 => ?_) fun q3 => no (by simp at q3; rintro ⟨_, _, h, _⟩; exact q3 h) M1
 have q3 : n1 = n2 := by simpa using q3
 refine yaB (fun q4 => ?_) fun q4 => no (by simp at q4; rintro ⟨_, _, _, h, _⟩; exact q4 h) M1
 have q4 : o1 = o2 := by simpa using q4
 rw [yf2, yf2]
 refine yaB (fun q5 => ?_) fun q5 => no (by simp at q5; rintro ⟨_, _, _, _, _, h, _⟩; exact q5 h) M1
 have q5 : g1 = g2 := by simpa using q5
 refine yaB (fun q6 => ?_) fun q6 => no (by simp at q6; rintro ⟨_, _, _, _, _, _, h, _⟩; exact q6 h) M1
 have q6 : m1 = m2 := by simpa using q6
 refine yaB (fun q7 => ?_) fun q7 => no (by simp at q7; rintro ⟨_, _, _, _, _, _, _, h, _⟩; exact q7 h) M1
 have q7 : e1 = e2 := by simpa using q7
 refine yaB (fun q8 => ?_) fun q8 => no (by simp at q8; rintro ⟨_, _, _, _, _, _, _, _, h, _⟩; exact q8 h) M1
 have q8 : r1 = r2 := by simpa using q8
 refine (yvU (x := b1) (y := b2) (s := rs) (t := rs') (h1.recs.keep0 M1) (h2.recs.keep0 M1) h1.lr).mono ?_
 rintro e w2 ⟨rfl, M2⟩
 have N2 := M1.go0 M2 (by simp)
 refine ⟨_, rfl, yaE.of0 M2, yaB (fun q9 => ?_) fun q9 => no (by simp at q9; rintro ⟨_, _, _, _, h, _⟩; exact q9 h) N2⟩
 have q9 : b1 = b2 := by simpa using q9
 refine (yIv (h1.topics.keep0 N2) (h2.topics.keep0 N2) h1.lt).mono ?_
 rintro e w3 ⟨rfl, M3⟩
 exact ⟨_, rfl, yaE.of0 M3, by simp [q1, q2, q3, q4, q5, q6, q7, q8, q9], N2.go0 M3 (by simp)⟩
theorem yj5 (n : Int) (w : World) : Calls pP 164 #[.int .i64 n] w fun e w' => e = .returned (.bool (num n)) ∧ w' = w :=
 yaP (yHE (yaC (fun h => ⟨by simp [num]; omega, rfl⟩) (fun h => ⟨by simp [num]; omega, rfl⟩)))
theorem yp7 {l : List PRec} {k : Nat} {x : PRec} (hx : l[k]? = some x) (h : ∀ y ∈ l.take k, yfQ y = 0) (hne : yfQ x ≠ 0) : (l.find? fun r => yfQ r ≠ 0) = some x := by
 have hk : k < l.length := (List.getElem?_eq_some_iff.1 hx).1
 have e : l = l.take k ++ x :: l.drop (k + 1) := by
  have h2 : l[k] = x := (List.getElem?_eq_some_iff.1 hx).2
  conv => lhs; rw [← List.take_append_drop k l, List.drop_eq_getElem_cons hk, h2]
 rw [e, List.find?_append, List.find?_eq_none.2 (by intro y hy; simp [h y hy])]
 simp [hne]
theorem yp8 {w : World} {b : PBatch} {rs : Sl} (h : yb3 w 4 ye7 rs.a rs.n b.recs) (hl : b.recs.length ≤ 1000000) :
  Calls pP 163 #[b.v rs] w fun e w' => e = .returned (.int .i64 (ybD b)) ∧ Mod [] w w' := by
 refine yaP (yHH ?_)
 have hn := h.1
 intro b1 f1 w1 A1
 have l1 := A1.lt b1 (by simp)
 have bad : ∀ {k : Int} {w' : World}, ybD b = k → Mod [] w w' → (Value.int .i64 k = Value.int .i64 (ybD b) ∧ Mod [] w w') := fun e M => ⟨by rw [e], M⟩
 refine (yj5 b.prod w1).mono ?_
 rintro e w2 ⟨rfl, rfl⟩
 refine ⟨_, rfl, yaE.of0 (Mod.refl _), yaB (fun q1 => bad (by rw [ybD, if_pos (by rw [yi1 q1]; rfl)]) A1.mod) fun q1 => ?_⟩
 refine (yj5 b.epoch w2).mono ?_
 rintro e w3 ⟨rfl, rfl⟩
 refine ⟨_, rfl, yaE.of0 (Mod.refl _), yaB (fun q2 => bad (by rw [ybD, if_pos (by rw [yi1 q2]; simp)]) A1.mod) fun q2 => ?_⟩
 refine (yj5 b.seq w3).mono ?_
 rintro e w4 ⟨rfl, rfl⟩
 refine ⟨_, rfl, yaE.of0 (Mod.refl _), yaB (fun q3 => bad (by rw [ybD, if_pos (by rw [yi1 q3]; simp)]) A1.mod) fun q3 => ?_⟩
 have e0 : ybD b = if b.recs.length = 0 then 30 else if b.recs.length > 16 then 2 else match b.recs.find? fun r => yfQ r ≠ 0 with | none => 0 | some r => yfQ r := by
  rw [ybD, if_neg (by rw [yhJ q1, yhJ q2, yhJ q3]; decide)] <;> rfl
 refine yaB (fun q4 => bad (by rw [e0, if_pos (by simp at q4; omega)]) A1.mod) fun q4 => ?_
 rw [if_neg (by simp at q4; omega)] at e0
 refine yaC (fun q5 => bad (by rw [e0, if_pos (by omega)]) A1.mod) fun q5 => ?_
 rw [if_neg (by omega)] at e0
 refine yzS (fun mm x w' => ∃ k : Nat, x = k ∧ k ≤ b.recs.length ∧ (∀ y ∈ b.recs.take k, yfQ y = 0) ∧ Mod [] w w' ∧ mm = b.recs.length - k) b.recs.length ⟨0, rfl, by omega, by simp, A1.mod, rfl⟩ ?_
 rintro mm x w5 ⟨k, rfl, hk, hz, M5, rfl⟩
 refine yaC (fun hlt => ?_) fun hge => ?_
 ·obtain ⟨y, hy⟩ : ∃ y, b.recs[k]? = some y := ⟨_, List.getElem?_eq_getElem (by omega)⟩
  refine (h.keep0 M5).ix hy fun q hq => yaN (by simpa [add_zero] using hq 0 _ rfl) (yaG (hq 1 _ rfl) (yaN (hq 2 _ rfl) (yaG (hq 3 _ rfl) ?_)))
  intro b6 f6 w6 A6
  refine (yeZ y w6).mono ?_
  rintro e w7 ⟨rfl, M7⟩
  have N7 := (M5.go0 A6.mod (by simp)).go0 M7 (by simp)
  refine ⟨_, rfl, yaE.of0 M7, yaB (fun q6 => ?_) fun q6 => ?_⟩
  ·have q6 : yfQ y ≠ 0 := by simpa using q6
   exact bad (by rw [e0, yp7 hy hz q6]) N7
  ·have q6 : yfQ y = 0 := by simpa using q6
   refine yzR (b.recs.length - (k + 1)) (by omega) ⟨k + 1, by rw [yaH (by omega) (by omega)]; omega, by omega, ?_, N7, rfl⟩
   rw [List.take_add_one, hy]
   intro z hz'
   rcases List.mem_append.1 hz' with h | h
   ·exact hz z h
   ·simp at h; subst h; exact q6
 ·have : k = b.recs.length := by omega
  subst this
  rw [List.take_length] at hz
  refine bad ?_ M5
  rw [e0, List.find?_eq_none.2 (by intro y hy; simp [hz y hy])]
structure ChSt (w0 w : World) (bc bo : Nat) (F A : Bool) (E : Int) (cs : List Value) : Prop where
 c : w.heap[bc]? = some (.cells #[.bool F, .bool A, .int .i64 E] 160)
 o : w.heap[bo]? = some (.cells cs.toArray 49)
 m : Mod [bc, bo] w0 w
 ne : bc ≠ bo
theorem ChSt.adv {w0 w w' : World} {bc bo : Nat} {F A : Bool} {E : Int} {cs : List Value} (h : ChSt w0 w bc bo F A E cs) {N : List Nat} (M : Adv [] N w w') : ChSt w0 w' bc bo F A E cs :=
 ⟨M.mod.keep0 h.c, M.mod.keep0 h.o, (h.m.trans M.mod).less (by simp), h.ne⟩
theorem ChSt.m0 {w0 w w' : World} {bc bo : Nat} {F A : Bool} {E : Int} {cs : List Value} (h : ChSt w0 w bc bo F A E cs) (M : Mod [] w w') : ChSt w0 w' bc bo F A E cs :=
 ⟨M.keep0 h.c, M.keep0 h.o, (h.m.trans M).less (by simp), h.ne⟩
theorem ChSt.setC {w0 w w' : World} {bc bo : Nat} {F A F' A' : Bool} {E E' : Int} {cs : List Value} (h : ChSt w0 w bc bo F A E cs) (hc : w'.heap[bc]? = some (.cells #[.bool F', .bool A', .int .i64 E'] 160)) (M : Mod [bc] w w') : ChSt w0 w' bc bo F' A' E' cs :=
 ⟨hc, M.keep h.o (by simpa using h.ne.symm), (h.m.trans M).less (by simp), h.ne⟩
theorem ChSt.setO {w0 w w' : World} {bc bo : Nat} {F A : Bool} {E : Int} {cs cs' : List Value} (h : ChSt w0 w bc bo F A E cs) (ho : w'.heap[bo]? = some (.cells cs'.toArray 49)) (M : Mod [bo] w w') : ChSt w0 w' bc bo F A E cs' :=
 ⟨M.keep h.c (by simpa using h.ne), ho, (h.m.trans M).less (by simp), h.ne⟩
theorem yGu {cs : List Value} {off : Nat} {v : Value} : ycJ cs.toArray off [v] = (cs.set off v).toArray := by simp [ycJ]
theorem ylW {w0 w : World} {bc bo off : Nat} {F A : Bool} {E x : Int} {cs : List Value} {R : World → Prop} (H : ChSt w0 w bc bo F A E cs) (hc : cs[off]? = some (.int .i64 x)) (k : ∀ w', ChSt w0 w' bc bo F (A || !num x) E (cs.set off (.int .i64 0)) → R w') :
  Calls pP 176 #[.pointer (some ⟨bc, 0, none⟩), .pointer (some ⟨bo, off, none⟩)] w fun e w' => e = .returned (.tuple #[]) ∧ R w' := by
 have hlt : off < cs.length := (List.getElem?_eq_some_iff.1 hc).1
 refine yaP (yIf ?_)
 refine yjG (b := bc) (i := 1) H.c rfl ?_
 refine yaB (fun g => ?_) fun g => ?_
 ·subst g
  refine ydR (b := bc) (o := 1) H.c rfl (by simp) fun w1 h1 M1 => ?_
  have H1 := H.setC (F' := F) (A' := true) (E' := E) h1 M1
  refine ydR (b := bo) (o := off) H1.o rfl (by simp; omega) fun w2 h2 M2 => ?_
  exact ⟨rfl, k w2 (H1.setO (by rw [h2, yGu]) M2)⟩
 ·subst g
  refine yfO (b := bo) (i := off) H.o (by simpa using hc) ?_
  refine (yc3 x w).mono ?_
  rintro e w1 ⟨rfl, rfl⟩
  refine ⟨_, rfl, ?_⟩
  refine ydR (b := bc) (o := 1) H.c rfl (by simp) fun w2 h2 M2 => ?_
  have H2 := H.setC (F' := F) (A' := !num x) (E' := E) h2 M2
  refine ydR (b := bo) (o := off) H2.o rfl (by simp; omega) fun w3 h3 M3 => ?_
  exact ⟨rfl, k w3 (H2.setO (by rw [h3, yGu]) M3)⟩
theorem ye0 {w0 w : World} {bc bo off : Nat} {F A : Bool} {E : Int} {x : ByteArray} {cs : List Value} {R : World → Prop} (H : ChSt w0 w bc bo F A E cs) (hc : cs[off]? = some (.string x)) (k : ∀ w', ChSt w0 w' bc bo (F || !ybO x) A E (cs.set off (.string es)) → R w') :
  Calls pP 174 #[.pointer (some ⟨bc, 0, none⟩), .pointer (some ⟨bo, off, none⟩)] w fun e w' => e = .returned (.tuple #[]) ∧ R w' := by
 have hlt : off < cs.length := (List.getElem?_eq_some_iff.1 hc).1
 refine yaP (yIg ?_)
 refine yjG (b := bc) (i := 0) H.c rfl ?_
 refine yaB (fun g => ?_) fun g => ?_
 ·subst g
  refine ydR (b := bc) (o := 0) H.c rfl (by simp) fun w1 h1 M1 => ?_
  have H1 := H.setC (F' := true) (A' := A) (E' := E) h1 M1
  refine ydR (b := bo) (o := off) H1.o rfl (by simp; omega) fun w2 h2 M2 => ?_
  exact ⟨rfl, k w2 (H1.setO (by rw [h2, yGu]; rfl) M2)⟩
 ·subst g
  refine yB6 (b := bo) (i := off) H.o (by simpa using hc) ?_
  refine (yrI x w).mono ?_
  rintro e w1 ⟨rfl, M1⟩
  have H1 := H.m0 M1
  refine ⟨_, rfl, ?_⟩
  refine ydR (b := bc) (o := 0) H1.c rfl (by simp) fun w2 h2 M2 => ?_
  have H2 := H1.setC (F' := !ybO x) (A' := A) (E' := E) h2 M2
  refine ydR (b := bo) (o := off) H2.o rfl (by simp; omega) fun w3 h3 M3 => ?_
  exact ⟨rfl, k w3 (H2.setO (by rw [h3, yGu]; rfl) M3)⟩
theorem yr4 {w0 w : World} {bc bo off : Nat} {F A : Bool} {E : Int} {x : Bool} {cs : List Value} {R : World → Prop} (H : ChSt w0 w bc bo F A E cs) (hc : cs[off]? = some (.bool x)) (k : ∀ w', ChSt w0 w' bc bo F A E (cs.set off (.bool false)) → R w') :
  Calls pP 173 #[.pointer (some ⟨bc, 0, none⟩), .pointer (some ⟨bo, off, none⟩)] w fun e w' => e = .returned (.tuple #[]) ∧ R w' := by
 have hlt : off < cs.length := (List.getElem?_eq_some_iff.1 hc).1
 refine yaP (yIh ?_)
 refine ydR (b := bo) (o := off) H.o rfl (by simp; omega) fun w2 h2 M2 => ?_
 exact ⟨rfl, k w2 (H.setO (by rw [h2, yGu]) M2)⟩
theorem yp9 {w0 w : World} {bc bo : Nat} {F A : Bool} {E : Int} {b : PBatch} {rs : Sl} {cs : List Value} {R : World → Prop} (H : ChSt w0 w bc bo F A E cs) (h5 : cs[5]? = some (.int .i64 b.prod)) (h6 : cs[6]? = some (.int .i64 b.epoch)) (h7 : cs[7]? = some (.int .i64 b.seq)) (h8 : cs[8]? = some (.slice rs.a rs.n rs.c))
  (hs : yb3 w 4 ye7 rs.a rs.n b.recs) (hl : b.recs.length ≤ 1000000) (k : ∀ w', ChSt w0 w' bc bo F A (ybD b) ((((cs.set 5 (.int .i64 0)).set 6 (.int .i64 0)).set 7 (.int .i64 0)).set 8 (.slice none 0 0)) → R w') :
  Calls pP 172 #[.pointer (some ⟨bc, 0, none⟩), .pointer (some ⟨bo, 5, none⟩)] w fun e w' => e = .returned (.tuple #[]) ∧ R w' := by
 have hlt : 8 < cs.length := (List.getElem?_eq_some_iff.1 h8).1
 refine yaP (yIi ?_)
 refine yfO (b := bo) (i := 5) H.o (by simpa using h5) (yfO (b := bo) (i := 6) H.o (by simpa using h6) (yfO (b := bo) (i := 7) H.o (by simpa using h7) (yc0 (b := bo) (i := 8) H.o (by simpa using h8) ?_)))
 refine (yp8 (b := b) (rs := rs) hs hl).mono ?_
 rintro e w1 ⟨rfl, M1⟩
 have H1 := H.m0 M1
 refine ⟨_, rfl, ?_⟩
 refine ydR (b := bc) (o := 2) H1.c rfl (by simp) fun w2 h2 M2 => ?_
 have H2 := H1.setC (F' := F) (A' := A) (E' := ybD b) h2 M2
 refine ydR (b := bo) (o := 5) H2.o rfl (by simp; omega) fun w3 h3 M3 => ?_
 exact ⟨rfl, k w3 (H2.setO (by rw [h3]; simp [ycJ]) M3)⟩
theorem yIx (s : ByteArray) (w : World) : Calls pP 178 #[.string s] w fun e w' => e = .returned (.bool (!ybO s)) ∧ Mod [] w w' := by
 refine yaP (yIm ?_)
 refine (yrI s w).mono ?_
 rintro e w1 ⟨rfl, M1⟩
 exact ⟨_, rfl, rfl, M1⟩
theorem yr5 {w : World} {a : Option Addr} {n c : Nat} {l : List ByteArray} (h : yb3 w 1 yiO a n l) (hl : l.length ≤ 1000000) :
  Calls pP 179 #[.slice a n c, .func (.func 178) #[] #[]] w fun e w' => ∃ v, e = .returned v ∧ ∃ x : Int, v = .int .i64 x ∧ (0 ≤ x ↔ l.all ybO = false) ∧ Mod [] w w' := by
 refine yIq ?_
 have hn := h.1
 refine yAi (fun mm x w' => ∃ k : Nat, x = k ∧ k ≤ l.length ∧ (l.take k).all ybO = true ∧ Mod [] w w' ∧ mm = l.length - k) l.length ⟨0, rfl, by omega, by simp, Mod.refl _, rfl⟩ ?_
 rintro mm x w1 ⟨k, rfl, hk, ha, M1, rfl⟩
 refine yaC (fun hlt => ?_) fun hge => ?_
 ·obtain ⟨y, hy⟩ : ∃ y, l[k]? = some y := ⟨_, List.getElem?_eq_getElem (by omega)⟩
  refine (h.keep0 M1).ix hy fun q hq => yaG (by simpa [add_zero] using hq 0 _ rfl) ?_
  refine (yIx y w1).mono ?_
  rintro e w2 ⟨rfl, M2⟩
  have N2 := M1.go0 M2 (by simp)
  refine ⟨_, rfl, yaB (fun g => ?_) fun g => ?_⟩
  ·refine ⟨_, rfl, ⟨fun _ => ?_, fun _ => by omega⟩, N2⟩
   rw [List.all_eq_false]
   exact ⟨y, List.mem_of_getElem? hy, by simpa using g⟩
  ·refine yAh (l.length - (k + 1)) (by omega) ⟨k + 1, by rw [yaH (by omega) (by omega)]; omega, by omega, ?_, N2, rfl⟩
   rw [yb6 hy, ha]; simpa using g
 ·have : k = l.length := by omega
  subst this
  rw [List.take_length] at ha
  exact ⟨_, rfl, ⟨fun h => by omega, fun h => by rw [ha] at h; cases h⟩, M1⟩
theorem ykX {w : World} {a : Option Addr} {n c : Nat} {l : List ByteArray} (h : yb3 w 1 yiO a n l) (hl : l.length ≤ 1000000) :
  Calls pP 177 #[.slice a n c, .func (.func 178) #[] #[]] w fun e w' => e = .returned (.bool (!l.all ybO)) ∧ Mod [] w w' := by
 refine yaP (yIn ?_)
 refine (yr5 h hl).mono ?_
 rintro e w1 ⟨_, rfl, x, rfl, hx, M1⟩
 refine ⟨_, rfl, congrArg Value.bool ?_, M1⟩
 cases ha : l.all ybO
 ·exact decide_eq_true (hx.2 ha)
 ·exact decide_eq_false fun h => by have := hx.1 h; rw [ha] at this; cases this
theorem ylX : ∀ (l : List ByteArray) (x y : ByteArray), yeI (l ++ [x, y]) = (yeI (l ++ [x]) && yrS x y)
 | [], x, y => by simp [yeI]
 | [a], x, y => by simp [yeI, Bool.and_assoc]
 | a :: b :: r, x, y => by
  have := ylX (b :: r) x y
  simp only [List.cons_append] at this ⊢
  rw [yeI, yeI, this, Bool.and_assoc]
theorem yfF {l : List ByteArray} {k : Nat} {x y : ByteArray} (hx : l[k]? = some x) (hy : l[k + 1]? = some y) : yeI (l.take (k + 2)) = (yeI (l.take (k + 1)) && yrS x y) := by
 have e1 : l.take (k + 1) = l.take k ++ [x] := by rw [List.take_add_one, hx]; rfl
 have e2 : l.take (k + 2) = l.take k ++ [x, y] := by rw [List.take_add_one, hy, e1]; simp
 rw [e1, e2, ylX]
theorem yqA {w0 w : World} {bc bo : Nat} {F A : Bool} {E : Int} {l : List ByteArray} {ts : Sl} {cs : List Value} {R : World → Prop} (H : ChSt w0 w bc bo F A E cs) (hc : cs[13]? = some (.slice ts.a ts.n ts.c))
  (hs : yb3 w 1 yiO ts.a ts.n l) (hl : l.length ≤ 1000000) (k : ∀ w', ChSt w0 w' bc bo (F || !ycC l) A E (cs.set 13 (.slice none 0 0)) → R w') :
  Calls pP 175 #[.pointer (some ⟨bc, 0, none⟩), .pointer (some ⟨bo, 13, none⟩)] w fun e w' => e = .returned (.tuple #[]) ∧ R w' := by
 have hlt : 13 < cs.length := (List.getElem?_eq_some_iff.1 hc).1
 have hn := hs.1
 refine yaP (yIl ?_)
 refine yAg (fun mm t x w' => ∃ j : Nat, x = ((j + 1 : Nat) : Int) ∧ j ≤ l.length ∧ t = yeI (l.take (j + 1)) ∧ Mod [] w w' ∧ mm = l.length - j) l.length ⟨0, rfl, by omega, ?_, Mod.refl _, rfl⟩ ?_
 ·cases l <;> simp [yeI]
 rintro mm t x w1 ⟨j, rfl, hj, rfl, M1, rfl⟩
 have H1 := H.m0 M1
 have hcell : cs.toArray[13]? = some (.slice ts.a ts.n ts.c) := by simpa using hc
 refine yc0 (b := bo) (i := 13) H1.o hcell ?_
 refine yaC (fun hlt2 => ?_) fun hge => ?_
 ·have g1 : j + 1 < l.length := by omega
  obtain ⟨x, hx⟩ : ∃ x, l[j]? = some x := ⟨_, List.getElem?_eq_getElem (by omega)⟩
  obtain ⟨y, hy⟩ : ∃ y, l[j + 1]? = some y := ⟨_, List.getElem?_eq_getElem g1⟩
  have ew : IntKind.wrap .i64 (((j + 1 : Nat) : Int) + 1) = ((j + 1 + 1 : Nat) : Int) := by rw [yaH (by omega) (by omega)]; omega
  have em : IntKind.wrap .i64 (((j + 1 : Nat) : Int) - 1) = (j : Int) := by rw [yaH (by omega) (by omega)]; omega
  refine yaB (fun g => ?_) fun g => ?_
  ·refine yc0 (b := bo) (i := 13) H1.o hcell ?_
   rw [em]
   refine (hs.keep0 M1).ix hx fun q hq => yaG (x := x) (by simpa [add_zero] using hq 0 _ rfl) ?_
   refine yc0 (b := bo) (i := 13) H1.o hcell ?_
   refine (hs.keep0 M1).ix hy fun q hq => yaG (x := y) (by simpa [add_zero] using hq 0 _ rfl) ?_
   intro w2 A2
   refine yp5 (l.length - (j + 1)) (by omega) ⟨j + 1, ew, by omega, ?_, M1.go0 A2.mod (by simp), rfl⟩
   rw [yfF hx hy, g]; rfl
  ·intro w2 A2
   refine yp5 (l.length - (j + 1)) (by omega) ⟨j + 1, ew, by omega, ?_, M1.go0 A2.mod (by simp), rfl⟩
   rw [yfF hx hy, g]; rfl
 ·rw [List.take_of_length_le (by omega)]
  refine yc0 (b := bo) (i := 13) H1.o hcell ?_
  refine (ykX (hs.keep0 M1) hl).mono ?_
  rintro e w2 ⟨rfl, M2⟩
  have H2 := H1.m0 M2
  refine ⟨_, rfl, ?_⟩
  have fin : ∀ {f : Bool}, (F || !ycC l) = f → st w2 ⟨bc, 0, none⟩ [.bool f] fun w3 => st w3 ⟨bo, 13, none⟩ [.slice none 0 0] fun w4 => (Value.tuple #[] = Value.tuple #[] ∧ R w4) := fun {f} hf => by
   refine ydR (b := bc) (o := 0) H2.c rfl (by simp) fun w3 h3 M3 => ?_
   have H3 := H2.setC (F' := f) (A' := A) (E' := E) h3 M3
   refine ydR (b := bo) (o := 13) H3.o rfl (by simp; omega) fun w4 h4 M4 => ?_
   refine ⟨rfl, k w4 ?_⟩
   rw [hf]
   exact H3.setO (by rw [h4, yGu]) M4
  refine yjG (b := bc) (i := 0) H2.c rfl ?_
  refine yaB (fun g => fin (by rw [g]; rfl)) fun g => ?_
  subst g
  refine yc0 (b := bo) (i := 13) H2.o hcell ?_
  refine yaB (fun g => fin ?_) fun g => ?_
  ·have : l.length = 0 := by simp at g; omega
   simp [ycC, this]
  refine yc0 (b := bo) (i := 13) H2.o hcell ?_
  refine yaC (fun g2 => fin ?_) fun g2 => ?_
  ·have : ¬ (l.length ≤ 8) := by omega
   simp [ycC, this]
  have hl8 : decide (1 ≤ l.length ∧ l.length ≤ 8) = true := decide_eq_true (by simp at g; omega)
  refine yaB (fun g3 => fin ?_) fun g3 => fin ?_
  ·rw [ycC, yi1 g3]; simp
  ·rw [ycC, yhJ g3, hl8]; simp
theorem yr6 {w0 w : World} {bc bo : Nat} {F A : Bool} {E x : Int} {t : ByteArray} {cs : List Value} {R : World → Prop} (H : ChSt w0 w bc bo F A E cs) (h1 : cs[1]? = some (.string t)) (h2 : cs[2]? = some (.int .i64 x)) (k : ∀ w', ChSt w0 w' bc bo (F || !ybO t) (A || !num x) E ((cs.set 1 (.string es)).set 2 (.int .i64 0)) → R w') :
  Calls pP 60 #[.iface 158 (.pointer (some ⟨bc, 0, none⟩)), .pointer (some ⟨bo, 1, none⟩)] w fun e w' => e = .returned (.tuple #[]) ∧ R w' := by
 refine yaP (yIr ?_)
 intro w1 A1
 refine ye0 (off := 1) (H.adv A1) h1 fun w2 H => ?_
 intro w3 A3
 refine ylW (off := 2) (x := x) (H.adv A3) (by rw [List.getElem?_set_ne (by decide)]; exact h2) fun w4 H => ?_
 exact ⟨rfl, k w4 H⟩
theorem ynM {w0 w : World} {bc bo : Nat} {F A : Bool} {E : Int} {g m : ByteArray} {cs : List Value} {R : World → Prop} (H : ChSt w0 w bc bo F A E cs) (h1 : cs[9]? = some (.string g)) (h2 : cs[10]? = some (.string m)) (k : ∀ w', ChSt w0 w' bc bo ((F || !ybO g) || !ybO m) A E ((cs.set 9 (.string es)).set 10 (.string es)) → R w') :
  Calls pP 118 #[.iface 158 (.pointer (some ⟨bc, 0, none⟩)), .pointer (some ⟨bo, 0, none⟩)] w fun e w' => e = .returned (.tuple #[]) ∧ R w' := by
 refine yaP (yIs ?_)
 intro w1 A1
 refine ye0 (off := 9) (H.adv A1) h1 fun w2 H => ?_
 intro w3 A3
 refine ye0 (off := 10) (x := m) (H.adv A3) (by rw [List.getElem?_set_ne (by decide)]; exact h2) fun w4 H => ?_
 exact ⟨rfl, k w4 H⟩
def ybY : Sl := ⟨none, 0, 0⟩
def chR (o : POp) (rs : Sl) : Sl := if ha o.kind 98 then ybY else rs
def chT (o : POp) (ts : Sl) : Sl := if ha o.kind 114 then ybY else ts
set_option maxHeartbeats 2000000 in
theorem yqB {w0 w : World} {bc bo : Nat} {o : POp} {rs ts : Sl} {R : World → Prop} (H : ChSt w0 w bc bo false false 0 (o.cs rs ts)) (h0 : ¬ (o.kind < 0 ∨ o.kind > 12))
  (hop : ∀ w', Mod [bc, bo] w0 w' → OpAt w' o rs ts) (k : ∀ w', ChSt w0 w' bc bo (chF o) (chA o) (chE o) ((chO o).cs (chR o rs) (chT o ts)) → R w') :
  Calls pP 93 #[.iface 158 (.pointer (some ⟨bc, 0, none⟩)), .pointer (some ⟨bo, 0, none⟩)] w fun e w' => e = .returned (.tuple #[]) ∧ R w' := by
 refine yaP (yIt ?_)
 obtain ⟨kd, pt, n, off, b, g, m, gen, robin, topics⟩ := o
 obtain ⟨b1, b2, b3, b4⟩ := b
 simp only at h0
 refine yfO (b := bo) (i := 0) H.o rfl ?_
 have hk : kd = 0 ∨ kd = 1 ∨ kd = 2 ∨ kd = 3 ∨ kd = 4 ∨ kd = 5 ∨ kd = 6 ∨ kd = 7 ∨ kd = 8 ∨ kd = 9 ∨ kd = 10 ∨ kd = 11 ∨ kd = 12 := by omega
 rcases hk with rfl | rfl | rfl | rfl | rfl | rfl | rfl | rfl | rfl | rfl | rfl | rfl | rfl
 all_goals
  repeat (first
   | refine brT rfl ?_
   | refine brF rfl ?_
   | (intro w' A'; have H := H.adv A'; clear A')
   | refine ylW H rfl fun w' H => ?_
   | refine ye0 H rfl fun w' H => ?_
   | refine yr4 H rfl fun w' H => ?_
   | refine yr6 H rfl rfl fun w' H => ?_
   | refine ynM H rfl rfl fun w' H => ?_
   | refine yp9 (b := ⟨b1, b2, b3, b4⟩) (rs := rs) H rfl rfl rfl rfl (hop _ H.m).recs (hop _ H.m).lr fun w' H => ?_
   | refine yqA (ts := ts) H rfl (hop _ H.m).topics (hop _ H.m).lt fun w' H => ?_)
  refine ⟨rfl, k _ ?_⟩
  simpa [chF, chA, chE, chO, chR, chT, ha, ypB, POp.cs, ybY, ybS, Bool.or_comm, Bool.or_left_comm, Bool.or_assoc] using H
theorem yt5 {w : World} {o : POp} {rs ts : Sl} (h : OpAt w o rs ts) :
  Calls pP 92 #[o.v rs ts] w fun e w' => e = .returned (.int .i64 (opE o)) ∧ Mod [] w w' := by
 refine yaP (yIu ?_)
 intro b1 f1
 refine yaC (fun q1 => ?_) fun q1 => ?_
 ·intro w1 A1
  exact ⟨by rw [opE, if_pos (.inl q1)], A1.mod⟩
 refine yaC (fun q2 => ?_) fun q2 => ?_
 ·intro w1 A1
  exact ⟨by rw [opE, if_pos (.inr (by omega))], A1.mod⟩
 have h0 : ¬ (o.kind < 0 ∨ o.kind > 12) := by omega
 intro b4 f4 w5 A5 c1 c4
 have hne : b4 ≠ b1 := by
  rintro rfl
  rw [c1] at c4; cases c4
 have l1 := A5.lt b1 (by simp)
 have l4 := A5.lt b4 (by simp)
 have hop : ∀ w', Mod [b4, b1] w5 w' → OpAt w' o rs ts := fun w' M => h.keep0 (A5.mod.go0 M (by simp; omega))
 refine yqB (o := o) (rs := rs) (ts := ts) ⟨c4, c1, (Mod.refl _).less (by simp), hne⟩ h0 hop fun w6 H => ?_
 have M6 : Mod [] w w6 := A5.mod.go0 H.m (by simp; omega)
 refine ⟨_, _, _, _, _, _, _, _, _, _, _, _, _, _, _, _, _, _, H.o, _, _, _, H.c, ?_⟩
 have law := yzQ o h0
 refine yaB (fun q3 => ?_) fun q3 => ?_
 ·intro w7 A7 _ _
  exact ⟨by rw [law, q3]; rfl, M6.go0 A7.mod (by simpa using f1)⟩
 intro w7 A7 d1 d4
 have M7 : Mod [] w w7 := M6.go0 A7.mod (by simpa using f1)
 have hop7 := h.keep0 M7
 have hA : OpAt w7 { chO o with kind := 0 } (chR o rs) (chT o ts) := by
  refine ⟨?_, ?_, ?_, ?_⟩
  ·unfold chR chO; simp only; split
   ·exact ⟨rfl, fun i x hx => by simp [ybS] at hx⟩
   ·exact hop7.recs
  ·unfold chT chO; simp only; split
   ·exact ⟨rfl, fun i x hx => by simp at hx⟩
   ·exact hop7.topics
  ·unfold chO; simp only; split
   ·simp [ybS]
   ·exact hop7.lr
  ·unfold chO; simp only; split
   ·simp
   ·exact hop7.lt
 have h00 : OpAt w7 op0 ybY ybY := (yrR w7 0).at
 refine (yp6 (x := { chO o with kind := 0 }) (y := op0) hA h00).mono ?_
 rintro e w8 ⟨rfl, M8⟩
 have c8 := M8.keep0 d1
 have e8 := M8.keep0 d4
 refine ⟨_, rfl, _, _, _, _, _, _, _, _, _, _, _, _, _, _, _, _, _, _, c8, _, _, _, e8, ?_⟩
 have M9 := M7.go0 M8 (by simp)
 refine yaB (fun q4 => ?_) fun q4 => ?_
 ·exact ⟨by rw [law, q3, q4]; rfl, M9⟩
 refine yaB (fun q5 => ?_) fun q5 => ?_
 ·exact ⟨by rw [law, q3, q4, q5]; rfl, M9⟩
 ·exact ⟨by rw [law, q3, q4, q5]; rfl, M9⟩
section
set_option maxRecDepth 100000
variable {R : VWP} {w w0 : World} {m : Nat} {i0 i1 i2 i3 i4 i5 i6 i7 i8 i9 j0 j1 j2 j3 j4 j5 j6 j7 j8 j9 k0 k1 k2 k3 k4 k5 k6 k7 k8 k9 l0 l1 l2 l3 l4 l5 l6 l7 l8 l9 : Int} {s0 s1 s2 s3 s4 s5 s6 s7 s8 s9 t0 t1 t2 t3 t4 t5 t6 t7 t8 t9 : BA} {n0 n1 n2 n3 n4 n5 n6 n7 n8 n9 o0 o1 o2 o3 o4 o5 o6 o7 o8 o9 p0 p1 p2 p3 p4 p5 p6 p7 p8 p9 : Nat} {q0 q1 q2 q3 q4 q5 q6 q7 q8 q9 r0 r1 r2 r3 r4 r5 r6 r7 r8 r9 : OA} {B0 B1 B2 B3 B4 B5 B6 B7 B8 B9 : Bool} {M0 M1 M2 M3 : Option Nat} {V0 V1 V2 V3 V4 V5 : Value} {A0 A1 A2 : Addr}
theorem yIy (h :
 ∀ b1, w.heap.size ≤ b1 →
 ∀ w2, Adv [] [b1] w w2 →
 R (.agg (Z4 (some A0) (some (Addr.add A0 1)) (some (Addr.add A0 2)) (some (Addr.add A0 3)) (some (Addr.add A0 4)) (some (Addr.add A0 5)) (some (Addr.add A0 6)) (some (Addr.add A0 7)) (some (Addr.add A0 8)) (some (Addr.add A0 9)))) w2) :
 CR pP 22 #[(.pointer (some A0))] w R :=
 yaA Tryz.wide_mixed (an := []) Tryz.func22 rfl rfl (by kernel_rfl) rfl (Eq.mpr (by kernel_rfl) h)
def yr7 : LA := ⟨[0, 0, 1, 0, 1, 1], [1, 17, 18], [(1, 0, 0)], 1, [0]⟩
def yt6 : List LA := [yr7]
abbrev yIz := dnF pP yt6 (code Tryz.f12)
abbrev yLi := yaO pP yt6 (code Tryz.f12)
abbrev yIA (p : List Nat) (K : List Kh) (R : VWP) := yaO pP yt6 (code Tryz.f12) p K (ya4 pP Tryz.f12 [] R)
def ylY (b3 b4 b5 b6 b7 b8 b9 c0 c1 c2 : OA) (bm0 : Nat) (c3 c4 c5 c6 c7 c8 c9 d0 d1 d2 : Int) (a0 : OA) (a6 a3 : Nat) (a9 b0 b1 b2 : Int) (a1 : OA) (a7 a4 : Nat) (a2 : OA) (a8 a5 : Nat) : Int → List Value × List TB := fun d3 => ([(.pointer (some ⟨bm0, 0, none⟩)), (.agg (Z4 b3 b4 b5 b6 b7 b8 b9 c0 c1 c2)), .int .i64 d3], [⟨bm0, 29, [.int .i64 c3, .int .i64 c4, .int .i64 c5, .int .i64 c6, .int .i64 c7, .int .i64 c8, .int .i64 c9, .int .i64 d0, .int .i64 d1, .int .i64 d2, .slice a0 a6 a3, .int .i64 a9, .int .i64 b0, .int .i64 b1, .int .i64 b2, .slice a1 a7 a4, .slice a2 a8 a5], true⟩])
abbrev yDT (b3 b4 b5 b6 b7 b8 b9 c0 c1 c2 : OA) (bm0 : Nat) (c3 c4 c5 c6 c7 c8 c9 d0 d1 d2 : Int) (a0 : OA) (a6 a3 : Nat) (a9 b0 b1 b2 : Int) (a1 : OA) (a7 a4 : Nat) (a2 : OA) (a8 a5 : Nat) (I : Nat → Int → World → Prop) (m : Nat) : Kh := KG (ylY b3 b4 b5 b6 b7 b8 b9 c0 c1 c2 bm0 c3 c4 c5 c6 c7 c8 c9 d0 d1 d2 a0 a6 a3 a9 b0 b1 b2 a1 a7 a4 a2 a8 a5) (U1 I) m
theorem yAj {I : Nat → Int → World → Prop} (m' : Nat) (h1 : m' < m) (h2 : I m' j4 w) : KS (yDT q0 q1 q2 q3 q4 q5 q6 q7 q8 q9 n0 i0 i1 i2 i3 i4 i5 i6 i7 i8 i9 r0 n1 n2 j0 j1 j2 j3 r1 n3 n4 r2 n5 n6 I m) (ylY q0 q1 q2 q3 q4 q5 q6 q7 q8 q9 n0 i0 i1 i2 i3 i4 i5 i6 i7 i8 i9 r0 n1 n2 j0 j1 j2 j3 r1 n3 n4 r2 n5 n6 j4) w := ⟨m', h1, _, rfl, rfl, h2⟩
theorem yAk (I : Nat → Int → World → Prop) (m0 : Nat) (h0 : I m0 j4 w0)
 (hr : ∀ m d3 w, I m d3 w →
 w.heap[n0]? = some (.cells (Z0 i0 i1 i2 i3 i4 i5 i6 i7 i8 i9 r0 n1 n2 j0 j1 j2 j3 r1 n3 n4 r2 n5 n6) 29) →
 brB (decide (d3 < 10)) (
 ∃ d5, (∀ w' : World, (Instr.index 63 (.agg (Z4 q0 q1 q2 q3 q4 q5 q6 q7 q8 q9)) (.int .i64 d3)).run pP w' = .ok (.pointer d5) w') ∧
 ymV d5 fun g2 =>
 yaI .i64 w g2 fun g6 =>
 brB (decide (g6 < 0)) (
 R (.int .i64 1) w)
 (
 ymV d5 fun g3 =>
 yaI .i64 w g3 fun g7 =>
 brB (decide (g7 > 1099511627776)) (
 R (.int .i64 1) w)
 (
 KS (yDT q0 q1 q2 q3 q4 q5 q6 q7 q8 q9 n0 i0 i1 i2 i3 i4 i5 i6 i7 i8 i9 r0 n1 n2 j0 j1 j2 j3 r1 n3 n4 r2 n5 n6 I m) (ylY q0 q1 q2 q3 q4 q5 q6 q7 q8 q9 n0 i0 i1 i2 i3 i4 i5 i6 i7 i8 i9 r0 n1 n2 j0 j1 j2 j3 r1 n3 n4 r2 n5 n6 (IntKind.wrap .i64 (d3 + 1))) w)))
 (
 Calls pP 25 #[.slice r0 n1 n2] w fun e d6 => ∃ g4 d7, e = .returned (.tuple #[.string g4, .int .i64 d7]) ∧ ∃ g8 g9 h1 h2 h3 h4 h5 h6 h7 h8 f0 f8 f4 e5 e6 e7 e8 d8 e2 e0 d9 e3 e1, d6.heap[n0]? = some (.cells (Z0 g8 g9 h1 h2 h3 h4 h5 h6 h7 h8 f0 f8 f4 e5 e6 e7 e8 d8 e2 e0 d9 e3 e1) 29) ∧
 brB (d7 != 0) (
 R (.int .i64 d7) d6)
 (
 Calls pP 26 #[(.agg (Z3 e5 e6 e7 e8 d8 e2 e0 d9 e3 e1))] d6 fun e e4 => ∃ g5 e9, e = .returned (.tuple #[.string g5, .int .i64 e9]) ∧ ∃ h9 u0 u1 u2 u3 u4 u5 u6 u7 u9 f1 f9 f5 v0 v1 v2 v3 f2 g0 f6 f3 g1 f7, e4.heap[n0]? = some (.cells (Z0 h9 u0 u1 u2 u3 u4 u5 u6 u7 u9 f1 f9 f5 v0 v1 v2 v3 f2 g0 f6 f3 g1 f7) 29) ∧
 R (.int .i64 e9) e4))) :
 yaK yr7 (yIz 396 [0, 0, 1, 0, 1, 1]) (yIA [1, 1, 0, 1, 0] [] R) (ylY q0 q1 q2 q3 q4 q5 q6 q7 q8 q9 n0 i0 i1 i2 i3 i4 i5 i6 i7 i8 i9 r0 n1 n2 j0 j1 j2 j3 r1 n3 n4 r2 n5 n6 j4) w0 :=
 lrule (ylY q0 q1 q2 q3 q4 q5 q6 q7 q8 q9 n0 i0 i1 i2 i3 i4 i5 i6 i7 i8 i9 r0 n1 n2 j0 j1 j2 j3 r1 n3 n4 r2 n5 n6) (U1 I) h0 (by rintro m d3 w h; exact ⟨by kernel_rfl, by kernel_rfl, fun js => Eq.mpr (by kernel_rfl) (hr m d3 w h)⟩)
theorem yIB {a3 a2 : Nat} {a6 a5 : Nat} {a9 a8 : Nat} (h :
 ∀ b1, w.heap.size ≤ b1 →
 brB (decide (i0 < 0)) (
 ∀ w2, Adv [] [b1] w w2 →
 R (.int .i64 180) w2)
 (
 brB (decide (i0 ≥ 12)) (
 ∀ w3, Adv [] [b1] w w3 →
 R (.int .i64 180) w3)
 (
 ∀ w4, Adv [] [b1] w w4 → w4.heap[b1]? = some (.cells (Z0 i0 i1 i2 i3 i4 i5 i6 i7 i8 i9 q0 a3 a2 j0 j1 j2 j3 q1 a6 a5 q2 a9 a8) 29) →
 Calls pP 22 #[(.pointer (some ⟨b1, 0, none⟩))] w4 fun e w5 => ∃ p6 p7 p8 p9 d3 d4 d5 d6 d7 d8, e = .returned (.agg (Z4 p6 p7 p8 p9 d3 d4 d5 d6 d7 d8)) ∧ ∃ d9 e0 e1 e2 e3 e4 e5 e6 e7 e8 c4 d0 c7 e9 f0 f1 f2 c5 d1 c8 c6 d2 c9, w5.heap[b1]? = some (.cells (Z0 d9 e0 e1 e2 e3 e4 e5 e6 e7 e8 c4 d0 c7 e9 f0 f1 f2 c5 d1 c8 c6 d2 c9) 29) ∧
 yaK yr7 (yIz 396 [0, 0, 1, 0, 1, 1]) (yIA [1, 1, 0, 1, 0] [] R) (ylY p6 p7 p8 p9 d3 d4 d5 d6 d7 d8 b1 d9 e0 e1 e2 e3 e4 e5 e6 e7 e8 c4 d0 c7 e9 f0 f1 f2 c5 d1 c8 c6 d2 c9 0) w5))) :
 CR pP 12 #[(.agg (Z0 i0 i1 i2 i3 i4 i5 i6 i7 i8 i9 q0 a3 a2 j0 j1 j2 j3 q1 a6 a5 q2 a9 a8))] w R :=
 yaA Tryz.wide_mixed (an := yt6) Tryz.func12 rfl rfl (by kernel_rfl) rfl (Eq.mpr (by kernel_rfl) h)
def yr8 : LA := ⟨[0, 0, 1, 0, 1, 1], [1, 2, 3, 7, 8, 9], [(1, 0, 0), (2, 1, 0)], 2, []⟩
def yt7 : List LA := [yr8]
abbrev yIC := dnF pP yt7 (code Tryz.f19)
abbrev yLj := yaO pP yt7 (code Tryz.f19)
abbrev yID (p : List Nat) (K : List Kh) (R : VWP) := yaO pP yt7 (code Tryz.f19) p K (ya4 pP Tryz.f19 [] R)
def ylZ (c4 : OA) (c8 c6 : Nat) (c9 : Int) (bm0 : Nat) (b3 b4 b5 b6 b7 b8 b9 c0 c1 c2 : Int) (a0 : OA) (a6 a3 : Nat) (a9 b0 b1 b2 : Int) (a1 : OA) (a7 a4 : Nat) (a2 : OA) (a8 a5 bm1 : Nat) : (Option Addr) × Nat × Nat × Int → List Value × List TB := fun (c3, c7, c5, d0) => ([(.pointer (some ⟨bm0, 0, none⟩)), (.pointer (some ⟨bm1, 0, none⟩)), .slice c3 c7 c5, .slice c4 c8 c6, .int .i64 c9, .int .i64 d0], [⟨bm0, 29, [.int .i64 b3, .int .i64 b4, .int .i64 b5, .int .i64 b6, .int .i64 b7, .int .i64 b8, .int .i64 b9, .int .i64 c0, .int .i64 c1, .int .i64 c2, .slice a0 a6 a3, .int .i64 a9, .int .i64 b0, .int .i64 b1, .int .i64 b2, .slice a1 a7 a4, .slice a2 a8 a5], false⟩, ⟨bm1, 29, [.int .i64 0, .int .i64 0, .int .i64 0, .int .i64 0, .int .i64 0, .int .i64 0, .int .i64 0, .int .i64 0, .int .i64 0, .int .i64 0, .slice none 0 0, .int .i64 0, .int .i64 0, .int .i64 0, .int .i64 0, .slice none 0 0, .slice none 0 0], false⟩])
abbrev yDU (c3 : OA) (c5 c4 : Nat) (c6 : Int) (bm0 : Nat) (b3 b4 b5 b6 b7 b8 b9 c0 c1 c2 : Int) (a0 : OA) (a6 a3 : Nat) (a9 b0 b1 b2 : Int) (a1 : OA) (a7 a4 : Nat) (a2 : OA) (a8 a5 bm1 : Nat) (I : Nat → Option Addr → Nat → Nat → Int → World → Prop) (m : Nat) : Kh := KG (ylZ c3 c5 c4 c6 bm0 b3 b4 b5 b6 b7 b8 b9 c0 c1 c2 a0 a6 a3 a9 b0 b1 b2 a1 a7 a4 a2 a8 a5 bm1) (U4 I) m
theorem yAl {I : Nat → Option Addr → Nat → Nat → Int → World → Prop} (m' : Nat) (h1 : m' < m) (h2 : I m' q4 o0 o1 j5 w) : KS (yDU q0 n0 n1 i0 n2 i1 i2 i3 i4 i5 i6 i7 i8 i9 j0 q1 n3 n4 j1 j2 j3 j4 q2 n5 n6 q3 n7 n8 n9 I m) (ylZ q0 n0 n1 i0 n2 i1 i2 i3 i4 i5 i6 i7 i8 i9 j0 q1 n3 n4 j1 j2 j3 j4 q2 n5 n6 q3 n7 n8 n9 (q4, o0, o1, j5)) w := ⟨m', h1, _, rfl, rfl, h2⟩
theorem yAm {c6 : OA} {c0 : OA} {a3 : OA} {a0 : OA} {d3 : OA} (I : Nat → Option Addr → Nat → Nat → Int → World → Prop) (m0 : Nat) (h0 : I m0 d3 o0 o1 j5 w0)
 (hr : ∀ m c5 c8 c7 c4 w, I m c5 c8 c7 c4 w →
 brB (decide (c4 < i0)) (
 ixA c6 n0 c4 16 fun q3 =>
 yaI .i64 w q3 fun x4 => yaI .i64 w (Addr.add q3 1) fun x5 => yaI .i64 w (Addr.add q3 2) fun x6 => yaQ w (Addr.add q3 3) fun s7 => yaI .i64 w (Addr.add q3 4) fun x8 => yaI .i64 w (Addr.add q3 5) fun x9 => yaI .i64 w (Addr.add q3 6) fun h2 => yaI .i64 w (Addr.add q3 7) fun h3 => yaI .i64 w (Addr.add q3 8) fun h4 => yaI .i64 w (Addr.add q3 9) fun h5 => yaU w (Addr.add q3 10) fun d2 d6 d4 => yaQ w (Addr.add q3 11) fun g8 => yaQ w (Addr.add q3 12) fun g9 => yaI .i64 w (Addr.add q3 13) fun h6 => yaT w (Addr.add q3 14) fun h1 => yaU w (Addr.add q3 15) fun g1 g6 g4 =>
 ∀ c3, w.heap.size ≤ c3 →
 ∀ d8, Adv [] [c3] w d8 →
 Calls pP 48 #[.slice g1 g6 g4] d8 fun e d9 => ∃ e3 f1 e7, e = .returned (.slice e3 f1 e7) ∧ yaE [n2, n9, c3] d8 d9 ∧ (((.slice d2 d6 d4) : Value) = (.slice d2 d6 d4)) ∧
 Calls pP 49 #[.slice d2 d6 d4] d9 fun e f5 => ∃ e4 f2 e8, e = .returned (.slice e4 f2 e8) ∧ yaE [n2, n9, c3] d9 f5 ∧
 ∀ f6, Adv [c3] [] f5 f6 →
 al f6 (.cells (Z5 x4 x5 x6 s7 x8 x9 h2 h3 h4 h5 e4 f2 e8 g8 g9 h6 h1 e3 f1 e7) 51) fun g3 f7 =>
 yc6 pP (Builtin.append_ #[22, 22] 22 #[.slice c5 c8 c7, (.slice (some ⟨g3, 0, none⟩) 1 1)]) f7 fun g2 g7 g5 f8 => yaE [n2, n9, c3] f7 f8 ∧
 KS (yDU c6 n0 n1 i0 n2 i1 i2 i3 i4 i5 i6 i7 i8 i9 j0 c0 n3 n4 j1 j2 j3 j4 a3 n5 n6 a0 n7 n8 n9 I m) (ylZ c6 n0 n1 i0 n2 i1 i2 i3 i4 i5 i6 i7 i8 i9 j0 c0 n3 n4 j1 j2 j3 j4 a3 n5 n6 a0 n7 n8 n9 (g2, g7, g5, (IntKind.wrap .i64 (c4 + 1)))) f8)
 (
 ∀ e0, Adv [n2] [] w e0 →
 Calls pP 50 #[.slice a3 n5 n6] e0 fun e e1 => ∃ e5 f3 e9, e = .returned (.slice e5 f3 e9) ∧ yaE [n2, n9] e0 e1 ∧ (((.slice a0 n7 n8) : Value) = (.slice a0 n7 n8)) ∧
 Calls pP 51 #[.slice a0 n7 n8] e1 fun e f9 => ∃ e6 f4 f0, e = .returned (.slice e6 f4 f0) ∧ yaE [n2, n9] e1 f9 ∧
 ∀ g0, Adv [n9, n2] [] f9 g0 →
 R (.agg (Z0 i1 i2 i3 i4 i5 i6 i7 i8 i9 j0 c5 c8 c7 j1 j2 j3 j4 e5 f3 e9 e6 f4 f0)) g0)) :
 yaK yr8 (yIC 396 [0, 0, 1, 0, 1, 1]) (yID [1, 1, 0, 1, 0] [] R) (ylZ c6 n0 n1 i0 n2 i1 i2 i3 i4 i5 i6 i7 i8 i9 j0 c0 n3 n4 j1 j2 j3 j4 a3 n5 n6 a0 n7 n8 n9 (d3, o0, o1, j5)) w0 :=
 lrule (ylZ c6 n0 n1 i0 n2 i1 i2 i3 i4 i5 i6 i7 i8 i9 j0 c0 n3 n4 j1 j2 j3 j4 a3 n5 n6 a0 n7 n8 n9) (U4 I) h0 (by rintro m ⟨c5, c8, c7, c4⟩ w h; exact ⟨by kernel_rfl, by kernel_rfl, fun js => Eq.mpr (by kernel_rfl) (hr m c5 c8 c7 c4 w h)⟩)
theorem yIE (h :
 ∀ b1, w.heap.size ≤ b1 →
 ∀ b2, w.heap.size ≤ b2 →
 ∀ c5, Adv [] [b2, b1] w c5 →
 yaK yr8 (yIC 396 [0, 0, 1, 0, 1, 1]) (yID [1, 1, 0, 1, 0] [] R) (ylZ q0 n0 n1 (n0 : Int) b1 i0 i1 i2 i3 i4 i5 i6 i7 i8 i9 q0 n0 n1 j0 j1 j2 j3 q1 n2 n3 q2 n4 n5 b2 (none, 0, 0, 0)) c5) :
 CR pP 19 #[(.agg (Z0 i0 i1 i2 i3 i4 i5 i6 i7 i8 i9 q0 n0 n1 j0 j1 j2 j3 q1 n2 n3 q2 n4 n5))] w R :=
 yaA Tryz.wide_mixed (an := yt7) Tryz.func19 rfl rfl (by kernel_rfl) rfl (Eq.mpr (by kernel_rfl) h)
def yr9 : LA := ⟨[0, 0, 1, 0, 1, 1, 1, 1, 1], [5, 23, 24, 25], [(5, 0, 0)], 1, [0]⟩
def yt8 : List LA := [yr9]
abbrev yIF := dnF pP yt8 (code Tryz.f25)
abbrev yLk := yaO pP yt8 (code Tryz.f25)
abbrev yIG (p : List Nat) (K : List Kh) (R : VWP) := yaO pP yt8 (code Tryz.f25) p K (ya4 pP Tryz.f25 [] R)
def yl0 (a4 : OA) (a6 a5 : Nat) (a7 : Int) (bm0 : Nat) : Int × (Option Addr) × (Option Addr) × Nat × Nat → List Value × List TB := fun (a8, a3, a0, a2, a1) => ([(.pointer (some ⟨bm0, 0, none⟩)), .slice a4 a6 a5, .int .i64 a7, .int .i64 a8], [⟨bm0, 61, [.pointer a3, .slice a0 a2 a1], true⟩])
abbrev yDV (a0 : OA) (a2 a1 : Nat) (a3 : Int) (bm0 : Nat) (I : Nat → Int → Option Addr → Option Addr → Nat → Nat → World → Prop) (m : Nat) : Kh := KG (yl0 a0 a2 a1 a3 bm0) (U5 I) m
theorem yAn {I : Nat → Int → Option Addr → Option Addr → Nat → Nat → World → Prop} (m' : Nat) (h1 : m' < m) (h2 : I m' i1 q1 q2 n3 n4 w) : KS (yDV q0 n0 n1 i0 n2 I m) (yl0 q0 n0 n1 i0 n2 (i1, q1, q2, n3, n4)) w := ⟨m', h1, _, rfl, rfl, h2⟩
theorem yAo (I : Nat → Int → Option Addr → Option Addr → Nat → Nat → World → Prop) (m0 : Nat) (h0 : I m0 i1 q1 q2 n3 n4 w0)
 (hr : ∀ m a6 a5 a2 a4 a3 w, I m a6 a5 a2 a4 a3 w →
 w.heap[n2]? = some (.cells #[.pointer a5, .slice a2 a4 a3] 61) →
 brB (decide (a6 < i0)) (
 ixA q0 n0 a6 16 fun a0 =>
 yaI .i64 w a0 fun h4 => yaI .i64 w (Addr.add a0 1) fun c4 => yaI .i64 w (Addr.add a0 2) fun h5 => yaQ w (Addr.add a0 3) fun g6 => yaI .i64 w (Addr.add a0 4) fun h6 => yaI .i64 w (Addr.add a0 5) fun h7 => yaI .i64 w (Addr.add a0 6) fun h8 => yaI .i64 w (Addr.add a0 7) fun h9 => yaI .i64 w (Addr.add a0 8) fun u0 => yaI .i64 w (Addr.add a0 9) fun u1 => yaU w (Addr.add a0 10) fun e0 f4 e7 => yaQ w (Addr.add a0 11) fun g7 => yaQ w (Addr.add a0 12) fun g8 => yaI .i64 w (Addr.add a0 13) fun u2 => yaT w (Addr.add a0 14) fun h2 => yaU w (Addr.add a0 15) fun e1 f5 e8 =>
 ∀ a1, w.heap.size ≤ a1 →
 ∀ b5, Adv [] [a1] w b5 → b5.heap[n2]? = some (.cells #[.pointer a5, .slice a2 a4 a3] 61) →
 Calls pP 56 #[(.agg (Z1 h5 g6 h6 h7 h8 h9 u0 u1 e0 f4 e7 g7 g8 u2 h2 e1 f5 e8))] b5 fun e c2 => ∃ d3 u3, e = .returned (.tuple #[.string d3, .int .i64 u3]) ∧ ya2 [n2] [(a1, 51)] [a1] b5 c2 ∧ ∃ d1 c5 c9 c7, c2.heap[n2]? = some (.cells #[.pointer d1, .slice c5 c9 c7] 61) ∧
 ∀ b6, Adv [] [] c2 b6 → b6.heap[n2]? = some (.cells #[.pointer d1, .slice c5 c9 c7] 61) →
 Calls pP 24 #[(.int .u64 (IntKind.wrap .u64 h4))] b6 fun e b7 => ∃ d4, e = .returned (.string d4) ∧ ya2 [n2] [(a1, 51)] [a1] b6 b7 ∧ ∃ g1 e2 f6 e9, b7.heap[n2]? = some (.cells #[.pointer g1, .slice e2 f6 e9] 61) ∧ (((.int .i64 c4) : Value) = (.int .i64 c4)) ∧
 Calls pP 24 #[(.int .u64 (IntKind.wrap .u64 c4))] b7 fun e b8 => ∃ d5, e = .returned (.string d5) ∧ ya2 [n2] [(a1, 51)] [a1] b7 b8 ∧ ∃ g2 e3 f7 f0, b8.heap[n2]? = some (.cells #[.pointer g2, .slice e3 f7 f0] 61) ∧
 yeS d4 d5 fun g9 =>
 Calls pP 28 #[.string d3] b8 fun e b9 => ∃ d6, e = .returned (.string d6) ∧ ya2 [n2] [(a1, 51)] [a1] b8 b9 ∧ ∃ g3 e4 f8 f1, b9.heap[n2]? = some (.cells #[.pointer g3, .slice e4 f8 f1] 61) ∧
 yeS g9 d6 fun h1 =>
 Calls pP 29 #[.string h1] b9 fun e c0 => ∃ d7, e = .returned (.string d7) ∧ ya2 [n2] [(a1, 51)] [a1] b9 c0 ∧ ∃ g4 e5 f9 f2, c0.heap[n2]? = some (.cells #[.pointer g4, .slice e5 f9 f2] 61) ∧
 Calls pP 23 #[(.pointer (some ⟨n2, 0, none⟩)), .string d7] c0 fun e c3 => ∃ u4 h3, e = .returned (.tuple #[.int .i64 u4, h3]) ∧ ya2 [n2] [(a1, 51)] [a1] c0 c3 ∧ ∃ d2 c6 d0 c8, c3.heap[n2]? = some (.cells #[.pointer d2, .slice c6 d0 c8] 61) ∧
 KS (yDV q0 n0 n1 i0 n2 I m) (yl0 q0 n0 n1 i0 n2 ((IntKind.wrap .i64 (a6 + 1)), d2, c6, d0, c8)) c3)
 (
 Calls pP 27 #[(.pointer (some ⟨n2, 0, none⟩))] w fun e d9 => ∃ d8, e = .returned (.string d8) ∧ ∃ g5 e6 g0 f3, d9.heap[n2]? = some (.cells #[.pointer g5, .slice e6 g0 f3] 61) ∧
 R (.tuple #[.string d8, .int .i64 0]) d9)) :
 yaK yr9 (yIF 393 [0, 0, 1, 0, 1, 1, 1, 1, 1]) (yIG [1, 1, 1, 1, 1, 0, 1, 0] [] R) (yl0 q0 n0 n1 i0 n2 (i1, q1, q2, n3, n4)) w0 :=
 lrule (yl0 q0 n0 n1 i0 n2) (U5 I) h0 (by rintro m ⟨a6, a5, a2, a4, a3⟩ w h; exact ⟨by kernel_rfl, by kernel_rfl, fun js => Eq.mpr (by kernel_rfl) (hr m a6 a5 a2 a4 a3 w h)⟩)
theorem yIH (h :
 brB (decide ((n0 : Int) > 4096)) (
 R (.tuple #[(.string (⟨#[]⟩ : BA)), .int .i64 2]) w)
 (
 Calls pP 55 #[.slice q0 n0 n1] w fun e w1 => ∃ x2, e = .returned (.int .i64 x2) ∧
 brB (x2 != 0) (
 R (.tuple #[(.string (⟨#[]⟩ : BA)), .int .i64 x2]) w1)
 (
 ∀ b3, w1.heap.size ≤ b3 →
 ∀ w4, Adv [] [b3] w1 w4 →
 Calls pP 24 #[(.int .u64 (IntKind.wrap .u64 (n0 : Int)))] w4 fun e w5 => ∃ s6, e = .returned (.string s6) ∧ yaE [b3] w4 w5 ∧
 ∀ w7, Adv [] [] w5 w7 → w7.heap[b3]? = some (.cells #[.pointer none, .slice none 0 0] 61) →
 Calls pP 23 #[(.pointer (some ⟨b3, 0, none⟩)), .string s6] w7 fun e w8 => ∃ x9 a7, e = .returned (.tuple #[.int .i64 x9, a7]) ∧ ∃ a6 a3 a5 a4, w8.heap[b3]? = some (.cells #[.pointer a6, .slice a3 a5 a4] 61) ∧
 yaK yr9 (yIF 393 [0, 0, 1, 0, 1, 1, 1, 1, 1]) (yIG [1, 1, 1, 1, 1, 0, 1, 0] [] R) (yl0 q0 n0 n1 (n0 : Int) b3 (0, a6, a3, a5, a4)) w8))) :
 CR pP 25 #[.slice q0 n0 n1] w R :=
 yaA Tryz.wide_mixed (an := yt8) Tryz.func25 rfl rfl (by kernel_rfl) rfl (Eq.mpr (by kernel_rfl) h)
def ysA : LA := ⟨[0, 0, 1, 0, 1, 1, 1], [10, 11, 12], [], 1, [0]⟩
def yt9 : List LA := [ysA]
abbrev yII := dnF pP yt9 (code Tryz.f55)
abbrev yLl := yaO pP yt9 (code Tryz.f55)
abbrev yIJ (p : List Nat) (K : List Kh) (R : VWP) := yaO pP yt9 (code Tryz.f55) p K (ya4 pP Tryz.f55 [] R)
def yl1 (a1 : OA) (a3 a2 : Nat) (a4 : Int) (bm0 : Nat) : Int × Value → List Value × List TB := fun (a5, a0) => ([.slice a1 a3 a2, .int .i64 a4, .int .i64 a5], [⟨bm0, 78, [a0], true⟩])
abbrev yDW (a0 : OA) (a2 a1 : Nat) (a3 : Int) (bm0 : Nat) (I : Nat → Int → VWP) (m : Nat) : Kh := KG (yl1 a0 a2 a1 a3 bm0) (U2 I) m
theorem yAp {I : Nat → Int → VWP} (m' : Nat) (h1 : m' < m) (h2 : I m' i1 V0 w) : KS (yDW q0 n0 n1 i0 n2 I m) (yl1 q0 n0 n1 i0 n2 (i1, V0)) w := ⟨m', h1, _, rfl, rfl, h2⟩
theorem yAq {a2 : OA} (I : Nat → Int → VWP) (m0 : Nat) (h0 : I m0 i1 V0 w0)
 (hr : ∀ m a1 a0 w, I m a1 a0 w →
 w.heap[n2]? = some (.cells #[a0] 78) →
 brB (decide (a1 < i0)) (
 ixA a2 n0 a1 16 fun q6 =>
 yaI .i64 w q6 fun x7 => yaI .i64 w (Addr.add q6 1) fun x8 => yaI .i64 w (Addr.add q6 2) fun x9 => yaQ w (Addr.add q6 3) fun b9 => yaI .i64 w (Addr.add q6 4) fun c3 => yaI .i64 w (Addr.add q6 5) fun c4 => yaI .i64 w (Addr.add q6 6) fun c5 => yaI .i64 w (Addr.add q6 7) fun c6 => yaI .i64 w (Addr.add q6 8) fun c7 => yaI .i64 w (Addr.add q6 9) fun c8 => yaU w (Addr.add q6 10) fun b3 b7 b5 => yaQ w (Addr.add q6 11) fun c0 => yaQ w (Addr.add q6 12) fun c1 => yaI .i64 w (Addr.add q6 13) fun c9 => yaT w (Addr.add q6 14) fun c2 => yaU w (Addr.add q6 15) fun b4 b8 b6 =>
 ∀ a7, w.heap.size ≤ a7 →
 ∀ a8, Adv [] [a7] w a8 → a8.heap[n2]? = some (.cells #[a0] 78) →
 Calls pP 92 #[(.agg (Z1 x9 b9 c3 c4 c5 c6 c7 c8 b3 b7 b5 c0 c1 c9 c2 b4 b8 b6))] a8 fun e a9 => ∃ b1, e = .returned (.int .i64 b1) ∧ ya2 [n2] [(a7, 51)] [a7] a8 a9 ∧ ∃ b2, a9.heap[n2]? = some (.cells #[b2] 78) ∧
 brB (b1 != 0) (
 R (.int .i64 b1) a9)
 (
 KS (yDW a2 n0 n1 i0 n2 I m) (yl1 a2 n0 n1 i0 n2 ((IntKind.wrap .i64 (a1 + 1)), b2)) a9))
 (
 R (.int .i64 0) w)) :
 yaK ysA (yII 395 [0, 0, 1, 0, 1, 1, 1]) (yIJ [1, 1, 1, 0, 1, 0] [] R) (yl1 a2 n0 n1 i0 n2 (i1, V0)) w0 :=
 lrule (yl1 a2 n0 n1 i0 n2) (U2 I) h0 (by rintro m ⟨a1, a0⟩ w h; exact ⟨by kernel_rfl, by kernel_rfl, fun js => Eq.mpr (by kernel_rfl) (hr m a1 a0 w h)⟩)
theorem yIK (h :
 ∀ b1, w.heap.size ≤ b1 →
 ∀ w2, Adv [] [b1] w w2 → w2.heap[b1]? = some (.cells #[(.func (.func 89) #[] #[])] 78) →
 Calls pP 90 #[.slice q0 n0 n1, (.func (.func 91) #[] #[(.pointer (some ⟨b1, 0, none⟩))])] w2 fun e w3 => ∃ t4, e = .returned (.bool t4) ∧ ∃ v5, w3.heap[b1]? = some (.cells #[v5] 78) ∧
 brB t4 (
 R (.int .i64 1) w3)
 (
 yaK ysA (yII 395 [0, 0, 1, 0, 1, 1, 1]) (yIJ [1, 1, 1, 0, 1, 0] [] R) (yl1 q0 n0 n1 (n0 : Int) b1 (0, v5)) w3)) :
 CR pP 55 #[.slice q0 n0 n1] w R :=
 yaA Tryz.wide_mixed (an := yt9) Tryz.func55 rfl rfl (by kernel_rfl) rfl (Eq.mpr (by kernel_rfl) h)
theorem yIL (h :
 brB (decide (i0 < 1)) (
 R (.bool true) w)
 (
 R (.bool (decide (i0 > 1099511627776))) w)) :
 CR pP 89 #[.int .i64 i0] w R :=
 yaA Tryz.wide_mixed (an := []) Tryz.func89 rfl rfl (by kernel_rfl) rfl (Eq.mpr (by kernel_rfl) h)
theorem yIM (h :
 Calls pP 117 #[.slice q0 n0 n1, (.func (.func 91) #[] #[(.pointer (some A0))])] w fun e w1 => ∃ x2, e = .returned (.int .i64 x2) ∧
 R (.bool (decide (x2 ≥ 0))) w1) :
 CR pP 90 #[.slice q0 n0 n1, (.func (.func 91) #[] #[(.pointer (some A0))])] w R :=
 yaA Tryz.wide_mixed (an := []) Tryz.func90 rfl rfl (by kernel_rfl) rfl (Eq.mpr (by kernel_rfl) h)
def ysB : LA := ⟨[0, 0, 1, 0, 1], [0, 1, 7, 8], [], 0, []⟩
def yuA : List LA := [ysB]
abbrev yIN := dnF pP yuA (code Tryz.f117)
abbrev yLm := yaO pP yuA (code Tryz.f117)
abbrev yIO (p : List Nat) (K : List Kh) (R : VWP) := yaO pP yuA (code Tryz.f117) p K (ya4 pP Tryz.f117 [] R)
def yl2 (a1 : OA) (a3 a2 : Nat) (a0 : Addr) (a4 : Int) : Int → List Value × List TB := fun a5 => ([.slice a1 a3 a2, (.func (.func 91) #[] #[(.pointer (some a0))]), .int .i64 a4, .int .i64 a5], [])
abbrev yDX (a1 : OA) (a3 a2 : Nat) (a0 : Addr) (a4 : Int) (I : Nat → Int → World → Prop) (m : Nat) : Kh := KG (yl2 a1 a3 a2 a0 a4) (U1 I) m
theorem yAr {I : Nat → Int → World → Prop} (m' : Nat) (h1 : m' < m) (h2 : I m' i1 w) : KS (yDX q0 n0 n1 A0 i0 I m) (yl2 q0 n0 n1 A0 i0 i1) w := ⟨m', h1, _, rfl, rfl, h2⟩
theorem yAs {a2 : OA} (I : Nat → Int → World → Prop) (m0 : Nat) (h0 : I m0 i1 w0)
 (hr : ∀ m a1 w, I m a1 w →
 brB (decide (a1 < i0)) (
 ixA a2 n0 a1 16 fun q1 =>
 yaI .i64 w q1 fun x2 => yaI .i64 w (Addr.add q1 1) fun x3 => yaI .i64 w (Addr.add q1 2) fun x4 => yaQ w (Addr.add q1 3) fun s5 => yaI .i64 w (Addr.add q1 4) fun x6 => yaI .i64 w (Addr.add q1 5) fun x7 => yaI .i64 w (Addr.add q1 6) fun x8 => yaI .i64 w (Addr.add q1 7) fun x9 => yaI .i64 w (Addr.add q1 8) fun b8 => yaI .i64 w (Addr.add q1 9) fun b9 => yaU w (Addr.add q1 10) fun a9 b3 b1 => yaQ w (Addr.add q1 11) fun b5 => yaQ w (Addr.add q1 12) fun b6 => yaI .i64 w (Addr.add q1 13) fun c0 => yaT w (Addr.add q1 14) fun b7 => yaU w (Addr.add q1 15) fun b0 b4 b2 =>
 Calls pP 91 #[(.agg (Z5 x2 x3 x4 s5 x6 x7 x8 x9 b8 b9 a9 b3 b1 b5 b6 c0 b7 b0 b4 b2)), (.pointer (some A0))] w fun e a8 => ∃ a7, e = .returned (.bool a7) ∧
 brB a7 (
 R (.int .i64 a1) a8)
 (
 KS (yDX a2 n0 n1 A0 i0 I m) (yl2 a2 n0 n1 A0 i0 (IntKind.wrap .i64 (a1 + 1))) a8))
 (
 R (.int .i64 (-1)) w)) :
 yaK ysB (yIN 397 [0, 0, 1, 0, 1]) (yIO [1, 0, 1, 0] [] R) (yl2 a2 n0 n1 A0 i0 i1) w0 :=
 lrule (yl2 a2 n0 n1 A0 i0) (U1 I) h0 (by rintro m a1 w h; exact ⟨by kernel_rfl, by kernel_rfl, fun js => Eq.mpr (by kernel_rfl) (hr m a1 w h)⟩)
theorem yIP (h :
 yaK ysB (yIN 397 [0, 0, 1, 0, 1]) (yIO [1, 0, 1, 0] [] R) (yl2 q0 n0 n1 A0 (n0 : Int) 0) w) :
 CR pP 117 #[.slice q0 n0 n1, (.func (.func 91) #[] #[(.pointer (some A0))])] w R :=
 yaA Tryz.wide_mixed (an := yuA) Tryz.func117 rfl rfl (by kernel_rfl) rfl (Eq.mpr (by kernel_rfl) h)
theorem yIQ (h :
 ∀ b1, w.heap.size ≤ b1 →
 ∀ w2, Adv [] [b1] w w2 →
 al w2 (.cells #[.int .i64 i0, .int .i64 i1, .int .i64 i2, .int .i64 i3, .int .i64 i4, .int .i64 i5, .int .i64 i6, .int .i64 i7, .int .i64 i8, .int .i64 i9] 3) fun b3 w4 =>
 R (.slice (some ⟨b3, 0, none⟩) 10 10) w4) :
 CR pP 30 #[(.agg (Z0 i0 i1 i2 i3 i4 i5 i6 i7 i8 i9 q0 n0 n1 j0 j1 j2 j3 q1 n2 n3 q2 n4 n5))] w R :=
 yaA Tryz.wide_mixed (an := []) Tryz.func30 rfl rfl (by kernel_rfl) rfl (Eq.mpr (by kernel_rfl) h)
def ysC : LA := ⟨[0, 0, 1, 0, 1, 1], [2, 3, 5, 6, 7], [(2, 0, 0), (3, 1, 0)], 2, []⟩
def yuB : List LA := [ysC]
abbrev yIR := dnF pP yuB (code Tryz.f15)
abbrev yLn := yaO pP yuB (code Tryz.f15)
abbrev yIS (p : List Nat) (K : List Kh) (R : VWP) := yaO pP yuB (code Tryz.f15) p K (ya4 pP Tryz.f15 [] R)
def yl3 (e6 : OA) (f0 e8 : Nat) (e7 : OA) (f1 e9 bm0 : Nat) (c6 c7 c8 c9 d0 d1 d2 d3 d4 d5 : Int) (a0 : OA) (b2 a6 : Nat) (b8 b9 c0 c1 : Int) (a1 : OA) (b3 a7 : Nat) (a2 : OA) (b4 a8 bm1 : Nat) (d6 d7 d8 d9 e0 e1 e2 e3 e4 e5 : Int) (a3 : OA) (b5 a9 : Nat) (c2 c3 c4 c5 : Int) (a4 : OA) (b6 b0 : Nat) (a5 : OA) (b7 b1 : Nat) : Int → List Value × List TB := fun f2 => ([(.pointer (some ⟨bm0, 0, none⟩)), (.pointer (some ⟨bm1, 0, none⟩)), .slice e6 f0 e8, .slice e7 f1 e9, .int .i64 f2], [⟨bm0, 29, [.int .i64 c6, .int .i64 c7, .int .i64 c8, .int .i64 c9, .int .i64 d0, .int .i64 d1, .int .i64 d2, .int .i64 d3, .int .i64 d4, .int .i64 d5, .slice a0 b2 a6, .int .i64 b8, .int .i64 b9, .int .i64 c0, .int .i64 c1, .slice a1 b3 a7, .slice a2 b4 a8], false⟩, ⟨bm1, 29, [.int .i64 d6, .int .i64 d7, .int .i64 d8, .int .i64 d9, .int .i64 e0, .int .i64 e1, .int .i64 e2, .int .i64 e3, .int .i64 e4, .int .i64 e5, .slice a3 b5 a9, .int .i64 c2, .int .i64 c3, .int .i64 c4, .int .i64 c5, .slice a4 b6 b0, .slice a5 b7 b1], false⟩])
abbrev yDY (e6 : OA) (f0 e8 : Nat) (e7 : OA) (f1 e9 bm0 : Nat) (c6 c7 c8 c9 d0 d1 d2 d3 d4 d5 : Int) (a0 : OA) (b2 a6 : Nat) (b8 b9 c0 c1 : Int) (a1 : OA) (b3 a7 : Nat) (a2 : OA) (b4 a8 bm1 : Nat) (d6 d7 d8 d9 e0 e1 e2 e3 e4 e5 : Int) (a3 : OA) (b5 a9 : Nat) (c2 c3 c4 c5 : Int) (a4 : OA) (b6 b0 : Nat) (a5 : OA) (b7 b1 : Nat) (I : Nat → Int → World → Prop) (m : Nat) : Kh := KG (yl3 e6 f0 e8 e7 f1 e9 bm0 c6 c7 c8 c9 d0 d1 d2 d3 d4 d5 a0 b2 a6 b8 b9 c0 c1 a1 b3 a7 a2 b4 a8 bm1 d6 d7 d8 d9 e0 e1 e2 e3 e4 e5 a3 b5 a9 c2 c3 c4 c5 a4 b6 b0 a5 b7 b1) (U1 I) m
theorem yAt {I : Nat → Int → World → Prop} (m' : Nat) (h1 : m' < m) (h2 : I m' k8 w) : KS (yDY q0 n0 n1 q1 n2 n3 n4 i0 i1 i2 i3 i4 i5 i6 i7 i8 i9 q2 n5 n6 j0 j1 j2 j3 q3 n7 n8 q4 n9 o0 o1 j4 j5 j6 j7 j8 j9 k0 k1 k2 k3 q5 o2 o3 k4 k5 k6 k7 q6 o4 o5 q7 o6 o7 I m) (yl3 q0 n0 n1 q1 n2 n3 n4 i0 i1 i2 i3 i4 i5 i6 i7 i8 i9 q2 n5 n6 j0 j1 j2 j3 q3 n7 n8 q4 n9 o0 o1 j4 j5 j6 j7 j8 j9 k0 k1 k2 k3 q5 o2 o3 k4 k5 k6 k7 q6 o4 o5 q7 o6 o7 k8) w := ⟨m', h1, _, rfl, rfl, h2⟩
theorem yAu (I : Nat → Int → World → Prop) (m0 : Nat) (h0 : I m0 k8 w0)
 (hr : ∀ m e6 w, I m e6 w →
 brB (decide (e6 < (n0 : Int))) (
 ixA q0 n0 e6 1 fun g0 =>
 yaI .i64 w g0 fun g2 =>
 ixA q1 n2 e6 1 fun g1 =>
 yaI .i64 w g1 fun g3 =>
 brB (g2 != g3) (
 ∀ f7, Adv [] [] w f7 →
 R (.bool false) f7)
 (
 ∀ f8, Adv [] [] w f8 →
 KS (yDY q0 n0 n1 q1 n2 n3 n4 i0 i1 i2 i3 i4 i5 i6 i7 i8 i9 q2 n5 n6 j0 j1 j2 j3 q3 n7 n8 q4 n9 o0 o1 j4 j5 j6 j7 j8 j9 k0 k1 k2 k3 q5 o2 o3 k4 k5 k6 k7 q6 o4 o5 q7 o6 o7 I m) (yl3 q0 n0 n1 q1 n2 n3 n4 i0 i1 i2 i3 i4 i5 i6 i7 i8 i9 q2 n5 n6 j0 j1 j2 j3 q3 n7 n8 q4 n9 o0 o1 j4 j5 j6 j7 j8 j9 k0 k1 k2 k3 q5 o2 o3 k4 k5 k6 k7 q6 o4 o5 q7 o6 o7 (IntKind.wrap .i64 (e6 + 1))) f8))
 (
 Calls pP 39 #[.slice q2 n5 n6, .slice q5 o2 o3] w fun e f3 => ∃ f5, e = .returned (.bool f5) ∧ yaE [n4, o1] w f3 ∧
 brB f5 (
 Calls pP 40 #[(.agg (Z3 j0 j1 j2 j3 q3 n7 n8 q4 n9 o0)), (.agg (Z3 k4 k5 k6 k7 q6 o4 o5 q7 o6 o7))] f3 fun e f9 => ∃ f6, e = .returned (.bool f6) ∧ yaE [n4, o1] f3 f9 ∧
 R (.bool f6) f9)
 (
 R (.bool false) f3))) :
 yaK ysC (yIR 396 [0, 0, 1, 0, 1, 1]) (yIS [1, 1, 0, 1, 0] [] R) (yl3 q0 n0 n1 q1 n2 n3 n4 i0 i1 i2 i3 i4 i5 i6 i7 i8 i9 q2 n5 n6 j0 j1 j2 j3 q3 n7 n8 q4 n9 o0 o1 j4 j5 j6 j7 j8 j9 k0 k1 k2 k3 q5 o2 o3 k4 k5 k6 k7 q6 o4 o5 q7 o6 o7 k8) w0 :=
 lrule (yl3 q0 n0 n1 q1 n2 n3 n4 i0 i1 i2 i3 i4 i5 i6 i7 i8 i9 q2 n5 n6 j0 j1 j2 j3 q3 n7 n8 q4 n9 o0 o1 j4 j5 j6 j7 j8 j9 k0 k1 k2 k3 q5 o2 o3 k4 k5 k6 k7 q6 o4 o5 q7 o6 o7) (U1 I) h0 (by rintro m e6 w h; exact ⟨by kernel_rfl, by kernel_rfl, fun js => Eq.mpr (by kernel_rfl) (hr m e6 w h)⟩)
theorem yIT {b9 b8 : Nat} {c2 c1 : Nat} {c5 c4 : Nat} {a2 a1 : Nat} {a6 a4 : Nat} {b0 a8 : Nat} (h :
 ∀ b1, w.heap.size ≤ b1 →
 ∀ b2, w.heap.size ≤ b2 →
 ∀ w3, Adv [] [b2, b1] w w3 →
 Calls pP 30 #[(.agg (Z0 i0 i1 i2 i3 i4 i5 i6 i7 i8 i9 q0 b9 b8 j0 j1 j2 j3 q1 c2 c1 q2 c5 c4))] w3 fun e w4 => ∃ a5 n6 c7, e = .returned (.slice a5 n6 c7) ∧ yaE [b1, b2] w3 w4 ∧ (((.agg (Z0 j4 j5 j6 j7 j8 j9 k0 k1 k2 k3 q3 a2 a1 k4 k5 k6 k7 q4 a6 a4 q5 b0 a8)) : Value) = (.agg (Z0 j4 j5 j6 j7 j8 j9 k0 k1 k2 k3 q3 a2 a1 k4 k5 k6 k7 q4 a6 a4 q5 b0 a8))) ∧
 Calls pP 30 #[(.agg (Z0 j4 j5 j6 j7 j8 j9 k0 k1 k2 k3 q3 a2 a1 k4 k5 k6 k7 q4 a6 a4 q5 b0 a8))] w4 fun e w8 => ∃ a9 f2 f1, e = .returned (.slice a9 f2 f1) ∧ yaE [b1, b2] w4 w8 ∧
 yaK ysC (yIR 396 [0, 0, 1, 0, 1, 1]) (yIS [1, 1, 0, 1, 0] [] R) (yl3 a5 n6 c7 a9 f2 f1 b1 i0 i1 i2 i3 i4 i5 i6 i7 i8 i9 q0 b9 b8 j0 j1 j2 j3 q1 c2 c1 q2 c5 c4 b2 j4 j5 j6 j7 j8 j9 k0 k1 k2 k3 q3 a2 a1 k4 k5 k6 k7 q4 a6 a4 q5 b0 a8 0) w8) :
 CR pP 15 #[(.agg (Z0 i0 i1 i2 i3 i4 i5 i6 i7 i8 i9 q0 b9 b8 j0 j1 j2 j3 q1 c2 c1 q2 c5 c4)), (.agg (Z0 j4 j5 j6 j7 j8 j9 k0 k1 k2 k3 q3 a2 a1 k4 k5 k6 k7 q4 a6 a4 q5 b0 a8))] w R :=
 yaA Tryz.wide_mixed (an := yuB) Tryz.func15 rfl rfl (by kernel_rfl) rfl (Eq.mpr (by kernel_rfl) h)
def ysD : LA := ⟨[0, 0, 1, 0, 1, 1], [0, 1, 5], [], 0, []⟩
def yuC : List LA := [ysD]
abbrev yIU := dnF pP yuC (code Tryz.f39)
abbrev yLo := yaO pP yuC (code Tryz.f39)
abbrev yIV (p : List Nat) (K : List Kh) (R : VWP) := yaO pP yuC (code Tryz.f39) p K (ya4 pP Tryz.f39 [] R)
def yl4 (a0 : OA) (a4 a2 : Nat) (a1 : OA) (a5 a3 : Nat) : Int → List Value × List TB := fun a6 => ([.slice a0 a4 a2, .slice a1 a5 a3, .int .i64 a6], [])
abbrev yDZ (a0 : OA) (a4 a2 : Nat) (a1 : OA) (a5 a3 : Nat) (I : Nat → Int → World → Prop) (m : Nat) : Kh := KG (yl4 a0 a4 a2 a1 a5 a3) (U1 I) m
theorem yAv {I : Nat → Int → World → Prop} (m' : Nat) (h1 : m' < m) (h2 : I m' i0 w) : KS (yDZ q0 n0 n1 q1 n2 n3 I m) (yl4 q0 n0 n1 q1 n2 n3 i0) w := ⟨m', h1, _, rfl, rfl, h2⟩
theorem yAw {a4 : OA} {a5 : OA} (I : Nat → Int → World → Prop) (m0 : Nat) (h0 : I m0 i0 w0)
 (hr : ∀ m a2 w, I m a2 w →
 brB (decide (a2 < (n0 : Int))) (
 ixA a4 n0 a2 16 fun q1 =>
 ∀ w2, Adv [] [] w w2 →
 yaI .i64 w2 q1 fun x3 =>
 ixA a5 n2 a2 16 fun q4 =>
 yaI .i64 w2 q4 fun x5 =>
 brB (x3 != x5) (
 R (.bool false) w2)
 (
 ixA a4 n0 a2 16 fun q6 =>
 yaI .i64 w2 (Addr.add q6 1) fun x7 =>
 ixA a5 n2 a2 16 fun q8 =>
 yaI .i64 w2 (Addr.add q8 1) fun x9 =>
 brB (x7 != x9) (
 R (.bool false) w2)
 (
 ixA a4 n0 a2 16 fun a0 =>
 yaI .i64 w2 (Addr.add a0 2) fun d2 => yaQ w2 (Addr.add (Addr.add a0 2) 1) fun c4 => yaI .i64 w2 (Addr.add (Addr.add a0 2) 2) fun d3 => yaI .i64 w2 (Addr.add (Addr.add a0 2) 3) fun d4 => yaI .i64 w2 (Addr.add (Addr.add a0 2) 4) fun d5 => yaI .i64 w2 (Addr.add (Addr.add a0 2) 5) fun d6 => yaI .i64 w2 (Addr.add (Addr.add a0 2) 6) fun d7 => yaI .i64 w2 (Addr.add (Addr.add a0 2) 7) fun d8 => yaU w2 (Addr.add (Addr.add a0 2) 8) fun b2 c0 b6 => yaQ w2 (Addr.add (Addr.add a0 2) 9) fun c5 => yaQ w2 (Addr.add (Addr.add a0 2) 10) fun c6 => yaI .i64 w2 (Addr.add (Addr.add a0 2) 11) fun d9 => yaT w2 (Addr.add (Addr.add a0 2) 12) fun d0 => yaU w2 (Addr.add (Addr.add a0 2) 13) fun b3 c1 b7 =>
 ixA a5 n2 a2 16 fun a1 =>
 yaI .i64 w2 (Addr.add a1 2) fun e0 => yaQ w2 (Addr.add (Addr.add a1 2) 1) fun c7 => yaI .i64 w2 (Addr.add (Addr.add a1 2) 2) fun e1 => yaI .i64 w2 (Addr.add (Addr.add a1 2) 3) fun e2 => yaI .i64 w2 (Addr.add (Addr.add a1 2) 4) fun e3 => yaI .i64 w2 (Addr.add (Addr.add a1 2) 5) fun e4 => yaI .i64 w2 (Addr.add (Addr.add a1 2) 6) fun e5 => yaI .i64 w2 (Addr.add (Addr.add a1 2) 7) fun e6 => yaU w2 (Addr.add (Addr.add a1 2) 8) fun b4 c2 b8 => yaQ w2 (Addr.add (Addr.add a1 2) 9) fun c8 => yaQ w2 (Addr.add (Addr.add a1 2) 10) fun c9 => yaI .i64 w2 (Addr.add (Addr.add a1 2) 11) fun e7 => yaT w2 (Addr.add (Addr.add a1 2) 12) fun d1 => yaU w2 (Addr.add (Addr.add a1 2) 13) fun b5 c3 b9 =>
 Calls pP 75 #[(.agg (Z1 d2 c4 d3 d4 d5 d6 d7 d8 b2 c0 b6 c5 c6 d9 d0 b3 c1 b7)), (.agg (Z1 e0 c7 e1 e2 e3 e4 e5 e6 b4 c2 b8 c8 c9 e7 d1 b5 c3 b9))] w2 fun e b1 => ∃ b0, e = .returned (.bool b0) ∧
 brB (!b0) (
 R (.bool false) b1)
 (
 KS (yDZ a4 n0 n1 a5 n2 n3 I m) (yl4 a4 n0 n1 a5 n2 n3 (IntKind.wrap .i64 (a2 + 1))) b1))))
 (
 R (.bool true) w)) :
 yaK ysD (yIU 396 [0, 0, 1, 0, 1, 1]) (yIV [1, 1, 0, 1, 0] [] R) (yl4 a4 n0 n1 a5 n2 n3 i0) w0 :=
 lrule (yl4 a4 n0 n1 a5 n2 n3) (U1 I) h0 (by rintro m a2 w h; exact ⟨by kernel_rfl, by kernel_rfl, fun js => Eq.mpr (by kernel_rfl) (hr m a2 w h)⟩)
theorem yIW (h :
 brB ((n0 : Int) != (n2 : Int)) (
 R (.bool false) w)
 (
 yaK ysD (yIU 396 [0, 0, 1, 0, 1, 1]) (yIV [1, 1, 0, 1, 0] [] R) (yl4 q0 n0 n1 q1 n2 n3 0) w)) :
 CR pP 39 #[.slice q0 n0 n1, .slice q1 n2 n3] w R :=
 yaA Tryz.wide_mixed (an := yuC) Tryz.func39 rfl rfl (by kernel_rfl) rfl (Eq.mpr (by kernel_rfl) h)
end
structure CV where
 x : PCall
 rs : Sl
 ts : Sl
def CV.cs (q : CV) : List Value := [.int .i64 q.x.c, .int .i64 q.x.n, .int .i64 q.x.op.kind, .string q.x.op.part.t, .int .i64 q.x.op.part.n, .int .i64 q.x.op.n, .int .i64 q.x.op.off, .int .i64 q.x.op.b.prod, .int .i64 q.x.op.b.epoch, .int .i64 q.x.op.b.seq, .slice q.rs.a q.rs.n q.rs.c, .string q.x.op.g, .string q.x.op.m, .int .i64 q.x.op.gen, .bool q.x.op.robin, .slice q.ts.a q.ts.n q.ts.c]
def CV.v (q : CV) : Value := .agg #[.int .i64 q.x.c, .int .i64 q.x.n, .int .i64 q.x.op.kind, .string q.x.op.part.t, .int .i64 q.x.op.part.n, .int .i64 q.x.op.n, .int .i64 q.x.op.off, .int .i64 q.x.op.b.prod, .int .i64 q.x.op.b.epoch, .int .i64 q.x.op.b.seq, .slice q.rs.a q.rs.n q.rs.c, .string q.x.op.g, .string q.x.op.m, .int .i64 q.x.op.gen, .bool q.x.op.robin, .slice q.ts.a q.ts.n q.ts.c]
theorem CV.cs_len (q : CV) : q.cs.length = 16 := rfl
theorem CV.cs_one (q : CV) : ∀ u ∈ q.cs, u.oneCell' = true := by simp [CV.cs, Value.oneCell']
structure PMail where
 kind : Int
 fr : Int
 to : Int
 view : Int
 normal : Int
 last : Int
 commit : Int
 nonce : Int
 base : Int
 n : Int
 calls : List PCall
 r : PRep
 deriving DecidableEq
def PMail.v (m : PMail) (s f p : Sl) : Value := .agg #[.int .i64 m.kind, .int .i64 m.fr, .int .i64 m.to, .int .i64 m.view, .int .i64 m.normal, .int .i64 m.last, .int .i64 m.commit, .int .i64 m.nonce, .int .i64 m.base, .int .i64 m.n, .slice s.a s.n s.c, .int .i64 m.r.e, .int .i64 m.r.off, .int .i64 m.r.n, .int .i64 m.r.gen, .slice f.a f.n f.c, .slice p.a p.n p.c]
def PMail.cs (m : PMail) (s f p : Sl) : List Value := [.int .i64 m.kind, .int .i64 m.fr, .int .i64 m.to, .int .i64 m.view, .int .i64 m.normal, .int .i64 m.last, .int .i64 m.commit, .int .i64 m.nonce, .int .i64 m.base, .int .i64 m.n, .slice s.a s.n s.c, .int .i64 m.r.e, .int .i64 m.r.off, .int .i64 m.r.n, .int .i64 m.r.gen, .slice f.a f.n f.c, .slice p.a p.n p.c]
def ye1 : PRep := ⟨0, 0, 0, 0, [], []⟩
def ynN : PMail := ⟨0, 0, 0, 0, 0, 0, 0, 0, 0, 0, [], ye1⟩
def ye2 (w : World) (s : Sl) (xs : List PCall) : Prop := ∃ ll : List CV, yb3 w 16 CV.cs s.a s.n ll ∧ (∀ q ∈ ll, OpAt w q.x.op q.rs q.ts) ∧ ll.map (·.x) = xs
def ybI (w : World) (base : Nat) (s : Sl) (xs : List PCall) : Prop := ∃ ll : List CV, Row w base 51 16 CV.cs s.a s.n s.c ll ∧ (∀ q ∈ ll, OpOwn w base q.x.op q.rs q.ts) ∧ ll.map (·.x) = xs
theorem ybI.at {w : World} {base : Nat} {s : Sl} {xs : List PCall} (h : ybI w base s xs) : ye2 w s xs := by
 obtain ⟨ll, h1, h2, h3⟩ := h; exact ⟨ll, h1.sl CV.cs_len, fun q hq => (h2 q hq).at, h3⟩
theorem ye2.keep0 {w w' : World} {s : Sl} {xs : List PCall} (h : ye2 w s xs) (M : Mod [] w w') : ye2 w' s xs := by
 obtain ⟨ll, h1, h2, h3⟩ := h; exact ⟨ll, h1.keep0 M, fun q hq => (h2 q hq).keep0 M, h3⟩
theorem ybI.keep0 {w w' : World} {base : Nat} {s : Sl} {xs : List PCall} (h : ybI w base s xs) (M : Mod [] w w') : ybI w' base s xs := by
 obtain ⟨ll, h1, h2, h3⟩ := h; exact ⟨ll, h1.keep0 M, fun q hq => (h2 q hq).keep0 M, h3⟩
theorem ybI.rebase {w : World} {base base' : Nat} {s : Sl} {xs : List PCall} (h : ybI w base s xs) (hb : base' ≤ base) : ybI w base' s xs := by
 obtain ⟨ll, h1, h2, h3⟩ := h; exact ⟨ll, h1.rebase hb, fun q hq => (h2 q hq).rebase hb, h3⟩
structure MailAt (w : World) (m : PMail) (s f p : Sl) : Prop where
 calls : ye2 w s m.calls
 rep : RepAt w m.r f p
structure MailOwn (w : World) (base : Nat) (m : PMail) (s f p : Sl) : Prop where
 calls : ybI w base s m.calls
 rep : RepOwn w base m.r f p
theorem MailOwn.at {w : World} {base : Nat} {m : PMail} {s f p : Sl} (h : MailOwn w base m s f p) : MailAt w m s f p := ⟨h.calls.at, h.rep.at⟩
theorem MailAt.keep0 {w w' : World} {m : PMail} {s f p : Sl} (h : MailAt w m s f p) (M : Mod [] w w') : MailAt w' m s f p := ⟨h.calls.keep0 M, h.rep.keep0 M⟩
theorem MailOwn.keep0 {w w' : World} {base : Nat} {m : PMail} {s f p : Sl} (h : MailOwn w base m s f p) (M : Mod [] w w') : MailOwn w' base m s f p := ⟨h.calls.keep0 M, h.rep.keep0 M⟩
theorem MailOwn.rebase {w : World} {base base' : Nat} {m : PMail} {s f p : Sl} (h : MailOwn w base m s f p) (hb : base' ≤ base) : MailOwn w base' m s f p := ⟨h.calls.rebase hb, h.rep.rebase hb⟩
theorem OpOwn.keep {S : List Nat} {w w' : World} {base : Nat} {o : POp} {rs ts : Sl} (h : OpOwn w base o rs ts) (M : Mod S w w') (hS : ∀ k ∈ S, ∀ cs T, w.heap[k]? = some (.cells cs T) → T ≠ 53 ∧ T ≠ 9) : OpOwn w' base o rs ts :=
  ⟨h.recs.keep M fun ad ha hk => by obtain ⟨_, cur, hc⟩ := h.recs.block ad ha; exact (hS _ hk _ _ hc).1 rfl,
   h.topics.keep M fun ad ha hk => by obtain ⟨_, cur, hc⟩ := h.topics.block ad ha; exact (hS _ hk _ _ hc).2 rfl, h.lr, h.lt⟩
theorem OpOwn.keepB {S : List Nat} {w w' : World} {base : Nat} {o : POp} {rs ts : Sl} (h : OpOwn w base o rs ts) (M : Mod S w w') (hS : ∀ k ∈ S, k < base) : OpOwn w' base o rs ts :=
 ⟨h.recs.keep M fun ad ha hk => by have := h.recs.base ad ha; have := hS _ hk; omega, h.topics.keep M fun ad ha hk => by have := h.topics.base ad ha; have := hS _ hk; omega, h.lr, h.lt⟩
theorem RepOwn.keepB {S : List Nat} {w w' : World} {base : Nat} {r : PRep} {f p : Sl} (h : RepOwn w base r f p) (M : Mod S w w') (hS : ∀ k ∈ S, k < base) : RepOwn w' base r f p :=
 ⟨h.found.keep M fun ad ha hk => by have := h.found.base ad ha; have := hS _ hk; omega, h.parts.keep M fun ad ha hk => by have := h.parts.base ad ha; have := hS _ hk; omega, h.lf, h.lp⟩
theorem ybI.keepB {S : List Nat} {w w' : World} {base : Nat} {s : Sl} {xs : List PCall} (h : ybI w base s xs) (M : Mod S w w') (hS : ∀ k ∈ S, k < base) : ybI w' base s xs := by
 obtain ⟨ll, h1, h2, h3⟩ := h
 exact ⟨ll, h1.keep M fun ad ha hk => by have := h1.base ad ha; have := hS _ hk; omega, fun q hq => (h2 q hq).keepB M hS, h3⟩
theorem MailOwn.keepB {S : List Nat} {w w' : World} {base : Nat} {m : PMail} {s f p : Sl} (h : MailOwn w base m s f p) (M : Mod S w w') (hS : ∀ k ∈ S, k < base) : MailOwn w' base m s f p := ⟨h.calls.keepB M hS, h.rep.keepB M hS⟩
theorem yFc : (Tryz.prog.info? 53).map (fun i => (i.zero, i.size, i.bytes)) = some (some (.agg #[.bool false, .string ByteArray.empty, .bool false, .string ByteArray.empty]), 4, 48) := by kernel_rfl
theorem yFd : (Tryz.prog.info? 9).map (fun i => (i.zero, i.size, i.bytes)) = some (some (.string ByteArray.empty), 1, 16) := by kernel_rfl
theorem ynO : (Tryz.prog.info? 51).map (fun i => (i.zero, i.size, i.bytes)) = some (some (.agg #[.int .i64 0, .int .i64 0, .int .i64 0, .string ByteArray.empty, .int .i64 0, .int .i64 0, .int .i64 0, .int .i64 0, .int .i64 0, .int .i64 0, .slice none 0 0, .string ByteArray.empty, .string ByteArray.empty, .int .i64 0, .bool false, .slice none 0 0]), 16, 184) := by kernel_rfl
theorem yAx {w : World} {s : Sl} {l : List ByteArray} (h : yb3 w 1 yiO s.a s.n l) (hl : l.length ≤ 1000000) :
  Calls pP 48 #[.slice s.a s.n s.c] w fun e w' => ∃ v, e = .returned v ∧ ∃ s' : Sl, v = .slice s'.a s'.n s'.c ∧ Row w' w.heap.size 9 1 yiO s'.a s'.n s'.c l ∧ Mod [] w w' := by
 refine yId ?_
 refine yaB (fun h0 => ?_) fun _ => ?_
 ·have hl0 : l = [] := by
   cases l with
   | nil => rfl
   | cons x r => obtain ⟨ad, ha, _⟩ := h.2 0 x rfl; rw [ha] at h0; cases h0
  subst hl0
  exact ⟨⟨none, 0, 0⟩, rfl, Row.nil .., Mod.refl _⟩
 ·refine ydB fun b w1 c1 M1 f1 => ?_
  obtain ⟨i0, hi, hz0, hz1, hz2⟩ := info_parts yFd
  refine yd3 (Row.fresh c1 f1) Tryz.underlying47 hi hz0 hz1 hz2 rfl (by decide) (h.keep0 M1) ytM ynI (by simp; omega) (by simp; unfold maxLen; omega) M1.size fun a' n' c' w2 hR hM => ?_
  exact ⟨⟨a', n', c'⟩, rfl, by simpa using hR, M1.go0 (hM [b] (by simp)) (by simpa using f1)⟩
theorem yAy {w : World} {s : Sl} {l : List PRec} (h : yb3 w 4 ye7 s.a s.n l) (hl : l.length ≤ 1000000) :
  Calls pP 49 #[.slice s.a s.n s.c] w fun e w' => ∃ v, e = .returned v ∧ ∃ s' : Sl, v = .slice s'.a s'.n s'.c ∧ Row w' w.heap.size 53 4 ye7 s'.a s'.n s'.c l ∧ Mod [] w w' := by
 refine yIe ?_
 refine yaB (fun h0 => ?_) fun _ => ?_
 ·have hl0 : l = [] := by
   cases l with
   | nil => rfl
   | cons x r => obtain ⟨ad, ha, _⟩ := h.2 0 x rfl; rw [ha] at h0; cases h0
  subst hl0
  exact ⟨⟨none, 0, 0⟩, rfl, Row.nil .., Mod.refl _⟩
 ·refine ydB fun b w1 c1 M1 f1 => ?_
  obtain ⟨i0, hi, hz0, hz1, hz2⟩ := info_parts yFc
  refine yd3 (Row.fresh c1 f1) Tryz.underlying44 hi hz0 hz1 hz2 rfl (by decide) (h.keep0 M1) ytL ynH (by simp; omega) (by simp; unfold maxLen; omega) M1.size fun a' n' c' w2 hR hM => ?_
  exact ⟨⟨a', n', c'⟩, rfl, by simpa using hR, M1.go0 (hM [b] (by simp)) (by simpa using f1)⟩
theorem ybM {α : Type} {w : World} {base T sz : Nat} {enc : α → List Value} {a : Option Addr} {n c : Nat} {l : List α} (h : Row w base T sz enc a n c l) : ∀ k ∈ ykQ a, base ≤ k ∧ k < w.heap.size ∧ ∃ cur, w.heap[k]? = some (.cells cur T) := by
 cases a with
 | none => simp [ykQ]
 | some ad => intro k hk; simp [ykQ] at hk; subst hk; obtain ⟨h1, cur, h2⟩ := h.block ad rfl; exact ⟨h1, yaX h2, cur, h2⟩
set_option maxHeartbeats 1000000 in
theorem yIX {w : World} {m : PMail} {s f p : Sl} (h : MailAt w m s f p) (hl : m.calls.length ≤ 100000) :
  Calls pP 19 #[m.v s f p] w fun e w' => ∃ v, e = .returned v ∧ ∃ s' f' p' : Sl, v = m.v s' f' p' ∧ MailOwn w' w.heap.size m s' f' p' ∧ Mod [] w w' := by
 obtain ⟨⟨ll, hS, hO, hll⟩, hR⟩ := h
 have hlen : ll.length ≤ 100000 := by rw [← hll] at hl; simpa using hl
 have hn := hS.1
 refine yIE ?_
 intro b1 f1 b2 f2 w1 A1
 have l2 := A1.lt b2 (by simp)
 have l1 := A1.lt b1 (by simp)
 have s1 := A1.mod.size
 refine yAm (fun mm a n c x w' => ∃ (k : Nat) (l : List CV), x = k ∧ k ≤ ll.length ∧ Row w' w1.heap.size 51 16 CV.cs a n c l ∧ (∀ q ∈ l, OpOwn w' w1.heap.size q.x.op q.rs q.ts) ∧ l.map (·.x) = (ll.take k).map (·.x) ∧ Mod [] w1 w' ∧ mm = ll.length - k) ll.length
  ⟨0, [], rfl, by omega, Row.nil .., by simp, by simp, Mod.refl _, rfl⟩ ?_
 rintro mm a n c x w2 ⟨k, l, rfl, hk, hRow, hOw, hlm, M2, rfl⟩
 have s2 := M2.size
 have N2 := A1.mod.go0 M2 (by simp)
 refine yaC (fun hlt => ?_) fun hge => ?_
 ·obtain ⟨q, hq⟩ : ∃ q, ll[k]? = some q := ⟨_, List.getElem?_eq_getElem (by omega)⟩
  refine (hS.keep0 N2).ix hq fun ad ha => yaF (x := q.x.c) (by simpa [add_zero] using ha 0 _ rfl) (yaF (ha 1 _ rfl) (yaF (ha 2 _ rfl) (yaG (ha 3 _ rfl) (yaF (ha 4 _ rfl) (yaF (ha 5 _ rfl) (yaF (ha 6 _ rfl) (yaF (ha 7 _ rfl) (yaF (ha 8 _ rfl) (yaF (ha 9 _ rfl) (ybH (ha 10 _ rfl) (yaG (ha 11 _ rfl) (yaG (ha 12 _ rfl) (yaF (ha 13 _ rfl) (yaN (ha 14 _ rfl) (ybH (ha 15 _ rfl) ?_)))))))))))))))
  intro b3 f3 w3 A3
  have l3 := A3.lt b3 (by simp)
  have s3 := A3.mod.size
  have hop := (hO q (List.mem_of_getElem? hq)).keep0 (N2.go0 A3.mod (by simp))
  refine (yAx (s := q.ts) hop.topics hop.lt).mono ?_
  rintro e w4 ⟨_, rfl, ts', rfl, hT, M4⟩
  refine ⟨_, _, _, rfl, yaE.of0 M4, rfl, ?_⟩
  have s4 := M4.size
  refine (yAy (s := q.rs) (hop.recs.keep0 M4) hop.lr).mono ?_
  rintro e w5 ⟨_, rfl, rs', rfl, hRc, M5⟩
  refine ⟨_, _, _, rfl, yaE.of0 M5, ?_⟩
  have s5 := M5.size
  intro w6 A6
  have s6 := A6.mod.size
  have K5 : Mod [] w2 w5 := (A3.mod.go0 M4 (by simp)).go0 M5 (by simp)
  have K6 : Mod [] w2 w6 := K5.go0 A6.mod (by simpa using f3)
  have hnew : OpOwn w6 w1.heap.size q.x.op rs' ts' := by
   refine OpOwn.rebase (base := w3.heap.size) ?_ (by omega)
   exact OpOwn.keepB ⟨hRc.rebase (by omega), hT.keep0 M5, hop.lr, hop.lt⟩ A6.mod (by simp; omega)
  refine ydB fun b7 w7 c7 M7 f7 => ?_
  have s7 := M7.size
  have hll' : l.length ≤ 100000 := by have := congrArg List.length hlm; simp at this; omega
  obtain ⟨i0, hi, hz0, hz1, hz2⟩ := info_parts ynO
  refine yb0 (x := (⟨q.x, rs', ts'⟩ : CV)) ((hRow.keep0 K6).keep0 M7) Tryz.underlying22 hi hz0 hz1 hz2 rfl (by decide) c7 rfl (CV.cs_one _) (by omega) (by unfold maxLen; omega) (by omega) fun a' c' w8 hR8 hM8 => ?_
  have M8 := hM8 _ (ydC a)
  have hrow := ybM hRow
  have K7 := K6.go0 M7 (by simp)
  have kp : ∀ {o rs ts}, OpOwn w7 w1.heap.size o rs ts → OpOwn w8 w1.heap.size o rs ts := fun hh => hh.keep M8 fun k hk cs T hc => by
   obtain ⟨_, _, cur, hcur⟩ := hrow k hk
   rw [K7.keep0 hcur] at hc; cases hc; decide
  refine ⟨yaE.of M8 fun b hb _ hb' => ?_, ?_⟩
  ·have := hrow b hb'; simp at hb; omega
  refine yAl (ll.length - (k + 1)) (by omega) ⟨k + 1, _, by rw [yaH (by omega) (by omega)]; omega, by omega, hR8, fun y hy => ?_, ?_, (M2.go0 K7 (by simp)).go0 M8 fun i hi => (hrow i hi).1, rfl⟩
  ·rcases List.mem_append.1 hy with hy | hy
   ·exact kp ((hOw y hy).keep0 K7)
   ·simp at hy; subst hy; exact kp (hnew.keep0 M7)
  ·rw [List.take_add_one, hq, List.map_append, List.map_append, hlm]; rfl
 ·have hk' : k = ll.length := by omega
  subst hk'
  rw [List.take_length, hll] at hlm
  intro w3 A3
  have N3 := N2.go0 A3.mod (by simpa using f1)
  have s3 := A3.mod.size
  have h3 := hR.keep0 N3
  refine (yy2 (s := f) h3.found h3.lf).mono ?_
  rintro e w4 ⟨_, rfl, f', rfl, hF, M4⟩
  refine ⟨_, _, _, rfl, yaE.of0 M4, rfl, ?_⟩
  have s4 := M4.size
  have h4 := h3.keep0 M4
  refine (yy3 (s := p) h4.parts h4.lp).mono ?_
  rintro e w5 ⟨_, rfl, p', rfl, hP, M5⟩
  refine ⟨_, _, _, rfl, yaE.of0 M5, ?_⟩
  have s5 := M5.size
  intro w6 A6
  have hC3 : ybI w3 w1.heap.size ⟨a, n, c⟩ m.calls := ybI.keepB ⟨l, hRow, hOw, hlm⟩ A3.mod (by simp; omega)
  have hM5 : MailOwn w5 w1.heap.size m ⟨a, n, c⟩ f' p' := ⟨(hC3.keep0 M4).keep0 M5, (hF.keep0 M5).rebase (by omega), hP.rebase (by omega), hR.lf, hR.lp⟩
  refine ⟨⟨a, n, c⟩, f', p', rfl, (hM5.keepB A6.mod (by simp; omega)).rebase s1, ((N3.go0 M4 (by simp)).go0 M5 (by simp)).go0 A6.mod (by simp; omega)⟩
theorem Wr.keep {B b v : Nat} {w w' : World} {cs : Array Value} {T : TypeId} (W : Wr B b w w') (h : w.heap[v]? = some (.cells cs T)) (hv : v ≠ b) (hT : T ≠ 5) : w'.heap[v]? = some (.cells cs T) :=
 W.oth v _ h (by simpa using hv) fun c fz e => hT (by cases e; rfl)
theorem Wr.keepE {B b : Nat} {w w' : World} {es : List Nat} {ts : List (Nat × TypeId)} {bs : List Nat} (W : Wr B b w w') (h : ∀ k ∈ bs, k ∉ es → k ≠ b ∧ (k < B ∨ ∃ T, (k, T) ∈ ts ∧ T ≠ 5)) : ya2 es ts bs w w' := fun k hk hl he hty => by
 obtain ⟨hne, h1 | ⟨T, hT, h2⟩⟩ := h k hk he
 ·exact W.bel.block k h1
 ·obtain ⟨cs, hc⟩ := hty _ hT rfl
  rw [hc]; exact W.keep hc hne h2
theorem Wr.mod {B b : Nat} {w0 w w' : World} (W : Wr B b w w') (M : Mod [] w0 w) (hB : w0.heap.size ≤ B) : Mod [] w0 w' :=
 ⟨W.bel.os.trans M.os, W.bel.tape.trans M.tape, W.bel.output.trans M.output, Nat.le_trans M.size W.bel.size, fun k hk _ => (W.bel.block k (by omega)).trans (M.block k hk (by simp))⟩
def ycW (x : PPart) : List UInt8 := ybU x.t ++ yaJ x.n.toNat
theorem yFe {B b v : Nat} {l : List UInt8} {w : World} {x : PPart} (h : Bd B b l w) (hlen : l.length ≤ 1000000000) (hB : B ≤ w.heap.size) (hv : w.heap[v]? = some (.cells #[.string x.t, .int .i64 x.n] 43)) (hvb : v ≠ b) (hs : x.t.size ≤ 1000) (hn : num x.n = true) :
  Calls pP 60 #[.iface 101 (.pointer (some ⟨b, 0, none⟩)), .pointer (some ⟨v, 0, none⟩)] w fun e w' => e = .returned (.tuple #[]) ∧ (Bd B b (l ++ ycW x) w' ∧ Wr B b w w') := by
 have hn : 0 ≤ x.n ∧ x.n ≤ 1099511627776 := by simpa [num] using hn
 obtain ⟨n, hn'⟩ := Int.eq_ofNat_of_zero_le hn.1
 refine yaP (yHe ?_)
 intro w1 A1
 have h1 := h.keep0 A1.mod
 have v1 := A1.mod.keep0 hv
 have s1 := A1.mod.size
 refine (ynF h1 (by omega) (by omega) (a := ⟨v, 0, none⟩) (s := x.t) (by rw [yaZ v1]; rfl) (by omega)).mono ?_
 rintro e w2 ⟨rfl, h2, W2⟩
 refine ⟨rfl, ?_⟩
 intro w3 A3
 have h3 := h2.keep0 A3.mod
 have v2 := W2.keep v1 hvb (by decide)
 have v3 := A3.mod.keep0 v2
 have s2 := W2.bel.size
 have s3 := A3.mod.size
 have lt := yaW x.t (by omega)
 refine (ygG h3 (by simp; omega) (by omega) (a := (⟨v, 0, none⟩ : Addr).add 1) (x := n) (by rw [ya3, yaZ v3, hn']; rfl) (by omega)).mono ?_
 rintro e w4 ⟨rfl, h4, W4⟩
 refine ⟨rfl, rfl, ?_, ((Wr.of0 A1.mod hB).trans W2).trans ((Wr.of0 A3.mod (by omega)).trans W4)⟩
 rw [ycW, hn', Int.toNat_natCast, ← List.append_assoc]
 exact h4
def hdL (r : PRep) : List Nat := [r.e.toNat, r.off.toNat, r.n.toNat, r.gen.toNat, r.found.length]
def yfG (x : PFound) : List UInt8 := yaJ x.off.toNat ++ yf7 x.r
def yiP (r : PRep) (k : Nat) : List UInt8 := ((hdL r).take k).flatMap yaJ
def ydE (r : PRep) (k : Nat) : List UInt8 := (hdL r).flatMap yaJ ++ (r.found.take k).flatMap yfG
def ye9 (r : PRep) (k : Nat) : List UInt8 := (hdL r).flatMap yaJ ++ r.found.flatMap yfG ++ yaJ r.parts.length ++ (r.parts.take k).flatMap ycW
def ydK (r : PRep) : List UInt8 := ye9 r r.parts.length
theorem ybB {α β : Type} {f : α → List β} {l : List α} {k : Nat} {x : α} (hx : l[k]? = some x) : (l.take (k + 1)).flatMap f = (l.take k).flatMap f ++ f x := by
 rw [List.take_add_one, hx]; simp
theorem ydF {α β : Type} {f : α → List β} {c : Nat} : ∀ {l : List α}, (∀ x ∈ l, (f x).length ≤ c) → (l.flatMap f).length ≤ l.length * c
 | [], _ => by simp
 | x :: r, h => by
  have h1 := h x (by simp)
  have h2 := ydF (l := r) fun y hy => h y (by simp [hy])
  rw [List.flatMap_cons, List.length_append, List.length_cons, Nat.succ_mul]; omega
structure RepGood (r : PRep) : Prop where
 hd : ∀ x ∈ hdL r, x ≤ 1099511627776
 nn : 0 ≤ r.e ∧ 0 ≤ r.off ∧ 0 ≤ r.n ∧ 0 ≤ r.gen
 f : ∀ x ∈ r.found, num x.off = true ∧ yfQ x.r = 0
 p : ∀ x ∈ r.parts, num x.n = true ∧ ybO x.t = true
 lf : r.found.length ≤ 64
 lp : r.parts.length ≤ 64
theorem RepGood.of {r : PRep} (h : yfR r = 0) : RepGood r := by
 unfold yfR at h
 split at h
 ·omega
 rename_i h1
 split at h
 ·omega
 split at h
 ·omega
 split at h
 ·omega
 rename_i h2 h3 h4
 have h1 := Bool.not_eq_false _ ▸ h1
 simp only [Bool.and_eq_true, List.all_eq_true, ok0] at h1
 simp [yy4, yEY] at h4
 obtain ⟨⟨⟨⟨⟨a1, a2⟩, a3⟩, a4⟩, hf⟩, hp⟩ := h1
 have nb : ∀ {x : Int}, num x = true → 0 ≤ x ∧ x ≤ 1099511627776 := fun h => by simpa [num] using h
 have a1 := nb a1
 have a2 := nb a2
 have a3 := nb a3
 have a4 := nb a4
 refine ⟨?_, by omega, fun x hx => ⟨hf x hx, h4.1 x hx⟩, fun x hx => ⟨hp x hx, h4.2 x hx⟩, by omega, by omega⟩
 intro x hx
 simp [hdL] at hx
 omega
theorem RepGood.len1 {r : PRep} (h : RepGood r) (k : Nat) : (yiP r k).length ≤ 50 := by
 have := ydF (f := yaJ) (c := 10) (l := (hdL r).take k) fun x hx => (yaL x (by have := h.hd x (List.mem_of_mem_take hx); omega)).2
 have e : ((hdL r).take k).length ≤ 5 := by rw [List.length_take]; simp [hdL]; omega
 unfold yiP; omega
theorem RepGood.lenF {r : PRep} (h : RepGood r) {x : PFound} (hx : x ∈ r.found) : (yfG x).length ≤ 610 := by
 obtain ⟨h1, h2⟩ := h.f x hx
 have h3 := yg3 h2
 have h4 : 0 ≤ x.off ∧ x.off ≤ 1099511627776 := by simpa [num] using h1
 have h5 := (yaL x.off.toNat (by omega)).2
 unfold yfG; rw [List.length_append]; omega
theorem RepGood.len2 {r : PRep} (h : RepGood r) (k : Nat) : (ydE r k).length ≤ 50000 := by
 have h1 := h.len1 5
 have e : yiP r 5 = (hdL r).flatMap yaJ := by rw [yiP, List.take_of_length_le (by simp [hdL])]
 rw [e] at h1
 have h2 := ydF (f := yfG) (c := 610) (l := r.found.take k) fun x hx => h.lenF (List.mem_of_mem_take hx)
 have e : (r.found.take k).length ≤ 64 := by have := h.lf; rw [List.length_take]; omega
 unfold ydE; rw [List.length_append]; omega
theorem RepGood.lenP {r : PRep} (h : RepGood r) {x : PPart} (hx : x ∈ r.parts) : (ycW x).length ≤ 40 ∧ x.t.size ≤ 16 := by
 obtain ⟨h1, h2⟩ := h.p x hx
 have h4 : 0 ≤ x.n ∧ x.n ≤ 1099511627776 := by simpa [num] using h1
 have h5 := (yaL x.n.toNat (by omega)).2
 have h6 : x.t.size ≤ 16 := by simp [ybO] at h2; omega
 have h7 := yaW x.t (by omega)
 unfold ycW; rw [List.length_append]; omega
theorem RepGood.len3 {r : PRep} (h : RepGood r) (k : Nat) : (ye9 r k).length ≤ 60000 := by
 have h1 := h.len2 r.found.length
 have e : ydE r r.found.length = (hdL r).flatMap yaJ ++ r.found.flatMap yfG := by rw [ydE, List.take_length]
 rw [e] at h1
 have h2 := ydF (f := ycW) (c := 40) (l := r.parts.take k) fun x hx => (h.lenP (List.mem_of_mem_take hx)).1
 have e : (r.parts.take k).length ≤ 64 := by have := h.lp; rw [List.length_take]; omega
 have h5 := (yaL r.parts.length (by have := h.lp; omega)).2
 unfold ye9; rw [List.length_append, List.length_append]; omega
theorem yFf {r : PRep} (h : RepGood r) {k : Nat} (hk : k < 5) : ∃ x : Nat, (hdL r)[k]? = some x ∧ x ≤ 1099511627776 := by
 have hk' : k < (hdL r).length := by simp [hdL]; omega
 exact ⟨(hdL r)[k], List.getElem?_eq_getElem hk', h.hd _ (List.getElem_mem hk')⟩
def yGv (x : Nat) : List Value := [.int .i64 (x : Nat)]
theorem yqC {w : World} {r : PRep} {f p : Sl} (h : RepAtW w r f p) :
  Calls pP 26 #[r.v f p] w fun e w' => e = .returned (.tuple #[.string (if yfR r = 0 then bs (ydK r) else bs []), .int .i64 (yfR r)]) ∧ Mod [] w w' := by
 refine yaP (yHf ?_)
 intro b1 f1 w1 A1
 have l1 := A1.lt b1 (by simp)
 refine (yy5 yrI (h.keep0 A1.mod)).mono ?_
 rintro e w2 ⟨rfl, M2⟩
 refine ⟨_, rfl, yaE.of0 M2, ?_⟩
 have N2 := A1.mod.go0 M2 (by simp)
 have s2 := N2.size
 have s2' := M2.size
 refine yaB (fun g1 => ?_) fun g1 => ?_
 ·have g : ¬ yfR r = 0 := by simpa using g1
  rw [if_neg g]; exact ⟨rfl, N2⟩
 have g : yfR r = 0 := by simpa using g1
 have G := RepGood.of g
 intro b3 f3 w3 A3
 have l3 := A3.lt b3 (by simp)
 refine ydB fun b4 w4 c4 M4 f4 => ?_
 intro w5 A5 hb5
 have s3 := A3.mod.size
 have s4 := M4.size
 have s5 := A5.mod.size
 have M5 := (A3.mod.go0 M4 (by simp)).go0 A5.mod (by simp)
 have c5 := A5.mod.keep0 c4
 have hbd : Bd w2.heap.size b3 [] w5 := .inl ⟨f3, .slice none 0 0, hb5, ⟨by simp [Lib.byteCells], .inl ⟨rfl, by simp [Lib.byteCells]⟩⟩, by simp [Value.ownBlock]⟩
 have hne : b4 ≠ b3 := by omega
 have Wr0 : Wr w2.heap.size b3 w2 w5 := Wr.of0 M5 (Nat.le_refl _)
 have hk1 : ∀ {es : List Nat} {ts : List (Nat × TypeId)} {x y : World}, Wr w2.heap.size b3 x y → ya2 es ts [b1] x y := fun W b hb _ _ _ => by
  simp at hb; subst hb; exact W.bel.block _ (by omega)
 have hcell : ∀ {w' : World}, Wr w2.heap.size b3 w5 w' → yb3 w' 1 yGv (some ⟨b4, 0, none⟩) 5 (hdL r) := fun {w'} W => by
  have c6 := W.keep c5 hne (by decide)
  refine ⟨rfl, fun i x hx => ⟨_, rfl, fun j v hv => ?_⟩⟩
  have hj : j = 0 := by have := (List.getElem?_eq_some_iff.1 hv).1; simp [yGv] at this; omega
  subst hj
  rw [ya3, ya3, yaZ c6]
  simp [yGv] at hv
  subst hv
  have hnn := G.nn
  have hi := (List.getElem?_eq_some_iff.1 hx).1
  simp [hdL] at hi
  have : r.e = (r.e.toNat : Int) ∧ r.off = (r.off.toNat : Int) ∧ r.n = (r.n.toNat : Int) ∧ r.gen = (r.gen.toNat : Int) := by omega
  have e4 := h.found.1
  match i, hi, hx with
  | 0, _, hx => simp [hdL] at hx; subst hx; simp; omega
  | 1, _, hx => simp [hdL] at hx; subst hx; simp; omega
  | 2, _, hx => simp [hdL] at hx; subst hx; simp; omega
  | 3, _, hx => simp [hdL] at hx; subst hx; simp; omega
  | 4, _, hx => simp [hdL] at hx; subst hx; simp; omega
 refine yy7 (fun mm x p0 a0 n0 c0 w' => ∃ k : Nat, x = k ∧ k ≤ 5 ∧ Bd w2.heap.size b3 (yiP r k) w' ∧ Wr w2.heap.size b3 w5 w' ∧ mm = 5 - k) 5 ⟨0, rfl, by omega, by simpa [yiP] using hbd, Wr.of0 (Mod.refl _) (by omega), rfl⟩ ?_
 rintro mm x p0 a0 n0 c0 w6 ⟨k, rfl, hk, hB6, W6, rfl⟩ hc6
 have s6 := W6.bel.size
 have lb := hB6.lt
 refine yaC (fun hlt => ?_) fun hge => ?_
 ·obtain ⟨x, hx, hx2⟩ := yFf G (k := k) (by omega)
  refine (hcell W6).ix hx fun q hq => yaF (by simpa [add_zero] using hq 0 _ rfl) ?_
  intro b7 f7 w7 A7 hb7 hv7
  have s7 := A7.mod.size
  refine (ygG (hB6.keep0 A7.mod) (by have := G.len1 k; omega) (by omega) (a := ⟨b7, 0, none⟩) (x := x) (by rw [yaZ hv7]; rfl) (by omega)).mono ?_
  rintro e w8 ⟨rfl, hB8, W8⟩
  obtain ⟨p8, a8, n8, c8, hc8⟩ := hB8.cells
  refine ⟨rfl, hk1 W8, p8, a8, n8, c8, hc8, _, W8.keep hv7 (by omega) (by decide), ?_⟩
  refine yy6 (5 - (k + 1)) (by omega) ⟨k + 1, by rw [yaH (by omega) (by omega)]; omega, by omega, ?_, (W6.trans (Wr.of0 A7.mod (by omega))).trans W8, rfl⟩
  rw [yiP, ybB hx]
  exact hB8
 have hk5 : k = 5 := by omega
 subst hk5
 have e1 : yiP r 5 = ydE r 0 := by rw [yiP, ydE, List.take_of_length_le (by simp [hdL])]; simp
 rw [e1] at hB6
 have e4 := h.found.1
 have e5 := h.parts.1
 have lf := G.lf
 have lp := G.lp
 have mod0 : ∀ {w'}, Wr w2.heap.size b3 w5 w' → Mod [] w w' := fun W => (Wr0.trans W).mod N2 s2
 refine yy9 (fun mm x p0 a0 n0 c0 w' => ∃ k : Nat, x = k ∧ k ≤ r.found.length ∧ Bd w2.heap.size b3 (ydE r k) w' ∧ Wr w2.heap.size b3 w5 w' ∧ mm = r.found.length - k) r.found.length ⟨0, rfl, by omega, hB6, W6, rfl⟩ ?_
 clear hB6 W6 hc6 lb s6
 rintro mm x p0 a0 n0 c0 w6 ⟨k, rfl, hk, hB6, W6, rfl⟩ hc6
 have s6 := W6.bel.size
 have lb := hB6.lt
 refine yaC (fun hlt => ?_) fun hge => ?_
 ·have g1 : k < r.found.length := by omega
  obtain ⟨x, hx⟩ : ∃ x, r.found[k]? = some x := ⟨_, List.getElem?_eq_getElem g1⟩
  obtain ⟨hx1, hx2⟩ := G.f x (List.mem_of_getElem? hx)
  have hx1 : 0 ≤ x.off ∧ x.off ≤ 1099511627776 := by simpa [num] using hx1
  obtain ⟨n, hn'⟩ := Int.eq_ofNat_of_zero_le hx1.1
  refine (h.keep0 (mod0 W6)).found.ix hx fun q hq => yaF (by simpa [add_zero] using hq 0 _ rfl) (yaN (hq 1 _ rfl) (yaG (hq 2 _ rfl) (yaN (hq 3 _ rfl) (yaG (hq 4 _ rfl) ?_))))
  intro b7 f7 w7 A7 hb7 hv7
  have s7 := A7.mod.size
  have lr := yg3 hx2
  have lk := G.len2 k
  have lv := yaL n (by omega)
  refine (ygG (hB6.keep0 A7.mod) (by omega) (by omega) (a := ⟨b7, 0, none⟩) (x := n) (by rw [yaZ hv7, hn']; rfl) (by omega)).mono ?_
  rintro e w8 ⟨rfl, hB8, W8⟩
  have s8 := W8.bel.size
  obtain ⟨p8, a8, n8, c8, hc8⟩ := hB8.cells
  have hv8 := W8.keep hv7 (by omega) (by decide)
  refine ⟨rfl, hk1 W8, p8, a8, n8, c8, hc8, _, _, _, _, _, hv8, ?_⟩
  refine (yzD x.r w8).mono ?_
  rintro e w9 ⟨rfl, M9⟩
  have hB9 := hB8.keep0 M9
  have s9 := M9.size
  refine ⟨_, _, rfl, yaE.of0 M9, p8, a8, n8, c8, M9.keep0 hc8, _, _, _, _, _, M9.keep0 hv8, ?_⟩
  rw [if_pos hx2]
  refine (yCu hB9 (by rw [List.length_append]; omega) (by omega)).mono ?_
  rintro e w10 ⟨rfl, hB10, W10⟩
  obtain ⟨p10, a10, n10, c10, hc10⟩ := hB10.cells
  refine ⟨_, _, rfl, hk1 W10, p10, a10, n10, c10, hc10, _, _, _, _, _, W10.keep (M9.keep0 hv8) (by omega) (by decide), ?_⟩
  refine yy8 (r.found.length - (k + 1)) (by omega) ⟨k + 1, by rw [yaH (by omega) (by omega)]; omega, by omega, ?_, (W6.trans (Wr.of0 A7.mod (by omega))).trans ((W8.trans (Wr.of0 M9 (by omega))).trans W10), rfl⟩
  have e : ydE r (k + 1) = ydE r k ++ yaJ n ++ yf7 x.r := by
   rw [ydE, ybB hx, yfG, hn', Int.toNat_natCast, ydE]; simp
  rw [e]
  exact hB10
 have hkf : k = r.found.length := by omega
 subst hkf
 intro b7 f7 w7 A7 hb7 hv7
 have s7 := A7.mod.size
 have lk := G.len2 r.found.length
 refine (ygG (hB6.keep0 A7.mod) (by omega) (by omega) (a := ⟨b7, 0, none⟩) (x := r.parts.length) (by rw [yaZ hv7, e5]; rfl) (by omega)).mono ?_
 rintro e w8 ⟨rfl, hB8, W8⟩
 have s8 := W8.bel.size
 obtain ⟨p8, a8, n8, c8, hc8⟩ := hB8.cells
 have hv8 := W8.keep hv7 (by omega) (by decide)
 refine ⟨rfl, hk1 W8, p8, a8, n8, c8, hc8, _, hv8, ?_⟩
 have W8' : Wr w2.heap.size b3 w5 w8 := (W6.trans (Wr.of0 A7.mod (by omega))).trans W8
 have e3 : ydE r r.found.length ++ yaJ r.parts.length = ye9 r 0 := by rw [ydE, ye9, List.take_length]; simp
 rw [e3] at hB8
 have lb8 := yaX hv8
 refine yzB (fun mm x p0 a0 n0 c0 y w' => ∃ k : Nat, x = k ∧ k ≤ r.parts.length ∧ Bd w2.heap.size b3 (ye9 r k) w' ∧ Wr w2.heap.size b3 w5 w' ∧ w8.heap.size ≤ w'.heap.size ∧ mm = r.parts.length - k) r.parts.length ⟨0, rfl, by omega, hB8, W8', Nat.le_refl _, rfl⟩ ?_
 rintro mm x p0 a0 n0 c0 y w9 ⟨k, rfl, hk, hB9, W9, hs9, rfl⟩ hc9 hv9
 have s9 := W9.bel.size
 refine yaC (fun hlt => ?_) fun hge => ?_
 ·have g1 : k < r.parts.length := by omega
  obtain ⟨x, hx⟩ : ∃ x, r.parts[k]? = some x := ⟨_, List.getElem?_eq_getElem g1⟩
  have hxm := List.mem_of_getElem? hx
  refine (h.keep0 (mod0 W9)).parts.ix hx fun q hq => yaG (by simpa [add_zero] using hq 0 _ rfl) (yaF (hq 1 _ rfl) ?_)
  intro b10 f10 w10 A10 hb10 hv10' hv10
  have s10 := A10.mod.size
  have lk := G.len3 k
  refine (yFe (hB9.keep0 A10.mod) (by omega) (by omega) hv10 (by omega) (by have := (G.lenP hxm).2; omega) (G.p x hxm).1).mono ?_
  rintro e w11 ⟨rfl, hB11, W11⟩
  have s11 := W11.bel.size
  obtain ⟨p11, a11, n11, c11, hc11⟩ := hB11.cells
  refine ⟨rfl, hk1 W11, p11, a11, n11, c11, hc11, _, W11.keep hv10' (by omega) (by decide), _, _, W11.keep hv10 (by omega) (by decide), ?_⟩
  refine yzA (r.parts.length - (k + 1)) (by omega) ⟨k + 1, by rw [yaH (by omega) (by omega)]; omega, by omega, ?_, (W9.trans (Wr.of0 A10.mod (by omega))).trans W11, by omega, rfl⟩
  have e : ye9 r (k + 1) = ye9 r k ++ ycW x := by
   rw [ye9, ybB hx, ye9]; simp
  rw [e]
  exact hB11
 ·have hkp : k = r.parts.length := by omega
  subst hkp
  refine (yjT BTw w2.heap.size b3 (ydK r) w9 hB9 ?_).mono ?_
  ·intro e0
   have h1 : (ydK r).length = 0 := by rw [e0]; rfl
   have h2 := (yaL r.parts.length (by omega)).1
   rw [ydK, ye9, List.length_append, List.length_append] at h1
   omega
  ·rintro e w10 ⟨rfl, hB10, h10, o10⟩
   have W10 : Wr w2.heap.size b3 w9 w10 := ⟨h10, o10⟩
   obtain ⟨p10, a10, n10, c10, hc10⟩ := Bd.cells hB10
   refine ⟨_, rfl, hk1 W10, p10, a10, n10, c10, hc10, _, W10.keep hv9 (by omega) (by decide), ?_, mod0 (W9.trans W10)⟩
   rw [if_pos g, g]; rfl
theorem yuD {w : World} {r : PRep} {f p : Sl} (h : RepAt w r f p) :
 Calls pP 26 #[r.v f p] w fun e w' => e = .returned (.tuple #[.string (if yfR r = 0 then bs (ydK r) else bs []), .int .i64 (yfR r)]) ∧ Mod [] w w' := yqC h.wide
theorem BTs : BT 61 := ⟨by kernel_rfl, by decide⟩
abbrev Sb (B b : Nat) (l : List UInt8) (w : World) : Prop := Lib.IsBuilderF 61 5 B b (Lib.byteCells l) w
theorem Sb.cells {B b : Nat} {l : List UInt8} {w : World} (h : Sb B b l w) : ∃ (p a : Option Addr) (n c : Nat), w.heap[b]? = some (.cells #[.pointer p, .slice a n c] 61) := by
 have one : ∀ {p bs}, Lib.BuilderAtF 61 5 B b (.pointer p) bs w → ∃ (p a : Option Addr) (n c : Nat), w.heap[b]? = some (.cells #[.pointer p, .slice a n c] 61) := by
  rintro p bs ⟨hB, v, hb, ⟨hl, ho⟩, hne⟩
  rcases ho with ⟨rfl, _⟩ | ⟨g, cap, cur, fz, rfl, hg, hh, r⟩
  ·exact ⟨_, _, _, _, hb⟩
  ·exact ⟨_, _, _, _, hb⟩
 exact h.elim one one
theorem Sb.keep0 {B b : Nat} {l : List UInt8} {w w' : World} (h : Sb B b l w) (M : Mod [] w w') : Sb B b l w' := by
 have one : ∀ {p bs}, Lib.BuilderAtF 61 5 B b p bs w → Lib.BuilderAtF 61 5 B b p bs w' := by
  rintro p bs ⟨hB, v, hb, ⟨hl, ho⟩, hne⟩
  refine ⟨hB, v, M.keep0 hb, ⟨hl, ?_⟩, hne⟩
  rcases ho with ho | ⟨g, cap, cur, fz, hv, hg, hh, r⟩
  ·exact .inl ho
  ·exact .inr ⟨g, cap, cur, fz, hv, hg, M.keep0 hh, r⟩
 exact h.elim (fun x => .inl (one x)) (fun x => .inr (one x))
theorem Sb.fresh {B b : Nat} {w : World} (hB : B ≤ b) (h : w.heap[b]? = some (.cells #[.pointer none, .slice none 0 0] 61)) : Sb B b [] w :=
 .inl ⟨hB, .slice none 0 0, h, ⟨by simp [Lib.byteCells], .inl ⟨rfl, by simp [Lib.byteCells]⟩⟩, by simp [Value.ownBlock]⟩
theorem yAz {B b : Nat} {l l2 : List UInt8} {w : World} (h : Sb B b l w) (hlen : l.length + l2.length ≤ 100000000000) (hB : B ≤ w.heap.size) :
  Calls pP 23 #[.pointer (some ⟨b, 0, none⟩), .string (bs l2)] w fun e w' => e = .returned (.tuple #[.int .i64 ((bs l2).size : Nat), .nilIface]) ∧ (Sb B b (l ++ l2) w' ∧ Wr B b w w') := by
 refine (yf5 BTs B b (Lib.byteCells l) (bs l2) w h (by rw [Lib.byteCells_length, yaD]; omega) hB).mono ?_
 rintro e w' ⟨rfl, h1, h2, h3⟩
 refine ⟨rfl, .inr ?_, ⟨h2, h3⟩⟩
 have e : Lib.byteCells (l ++ l2) = Lib.byteCells l ++ Lib.strCells (bs l2) := by simp [Lib.byteCells, Lib.strCells, bs]
 rw [e]; exact h1
theorem yFg {B b : Nat} {l : List UInt8} {w : World} (h : Sb B b l w) (h0 : l ≠ []) :
  Calls pP 27 #[.pointer (some ⟨b, 0, none⟩)] w fun e w' => e = .returned (.string (bs l)) ∧ (Sb B b l w' ∧ Wr B b w w') := by
 refine (yjT BTs B b l w h h0).mono ?_
 rintro e w' ⟨rfl, h1, h2, h3⟩
 exact ⟨rfl, h1, h2, h3⟩
def yaR (m : PMail) : List Int := [m.kind, m.fr, m.to, m.view, m.normal, m.last, m.commit, m.nonce, m.base, m.n]
theorem yqD (b : Nat) (w : World) : Calls pP 22 #[.pointer (some ⟨b, 0, none⟩)] w fun e w' => e = .returned (.agg #[.pointer (some ⟨b, 0, none⟩), .pointer (some ⟨b, 1, none⟩), .pointer (some ⟨b, 2, none⟩), .pointer (some ⟨b, 3, none⟩), .pointer (some ⟨b, 4, none⟩), .pointer (some ⟨b, 5, none⟩), .pointer (some ⟨b, 6, none⟩), .pointer (some ⟨b, 7, none⟩), .pointer (some ⟨b, 8, none⟩), .pointer (some ⟨b, 9, none⟩)]) ∧ Mod [] w w' := by
 refine yaP (yIy ?_)
 intro b1 f1 w2 A2
 exact ⟨rfl, A2.mod⟩
theorem yeJ {w : World} {b : Nat} {m : PMail} {s f p : Sl} (h : w.heap[b]? = some (.cells (m.cs s f p).toArray 29)) {k : Nat} {x : Int} (hx : (yaR m)[k]? = some x) : w.cell? ⟨b, k, none⟩ = some (.int .i64 x) := by
 rw [yaZ h]
 have hk := (List.getElem?_eq_some_iff.1 hx).1
 simp [yaR] at hk
 match k, hk, hx with
 | 0, _, hx | 1, _, hx | 2, _, hx | 3, _, hx | 4, _, hx | 5, _, hx | 6, _, hx | 7, _, hx | 8, _, hx | 9, _, hx => simp [yaR] at hx; subst hx; rfl
theorem yFh (b : Nat) (w' : World) : (Instr.index 63 (.agg #[.pointer (some ⟨b, 0, none⟩), .pointer (some ⟨b, 1, none⟩), .pointer (some ⟨b, 2, none⟩), .pointer (some ⟨b, 3, none⟩), .pointer (some ⟨b, 4, none⟩), .pointer (some ⟨b, 5, none⟩), .pointer (some ⟨b, 6, none⟩), .pointer (some ⟨b, 7, none⟩), .pointer (some ⟨b, 8, none⟩), .pointer (some ⟨b, 9, none⟩)]) (.int .i64 0)).run pP w' = .ok (.pointer (some ⟨b, 0, none⟩)) w' := by kernel_rfl
theorem yFi (b : Nat) (w' : World) : (Instr.index 63 (.agg #[.pointer (some ⟨b, 0, none⟩), .pointer (some ⟨b, 1, none⟩), .pointer (some ⟨b, 2, none⟩), .pointer (some ⟨b, 3, none⟩), .pointer (some ⟨b, 4, none⟩), .pointer (some ⟨b, 5, none⟩), .pointer (some ⟨b, 6, none⟩), .pointer (some ⟨b, 7, none⟩), .pointer (some ⟨b, 8, none⟩), .pointer (some ⟨b, 9, none⟩)]) (.int .i64 1)).run pP w' = .ok (.pointer (some ⟨b, 1, none⟩)) w' := by kernel_rfl
theorem yFj (b : Nat) (w' : World) : (Instr.index 63 (.agg #[.pointer (some ⟨b, 0, none⟩), .pointer (some ⟨b, 1, none⟩), .pointer (some ⟨b, 2, none⟩), .pointer (some ⟨b, 3, none⟩), .pointer (some ⟨b, 4, none⟩), .pointer (some ⟨b, 5, none⟩), .pointer (some ⟨b, 6, none⟩), .pointer (some ⟨b, 7, none⟩), .pointer (some ⟨b, 8, none⟩), .pointer (some ⟨b, 9, none⟩)]) (.int .i64 2)).run pP w' = .ok (.pointer (some ⟨b, 2, none⟩)) w' := by kernel_rfl
theorem yFk (b : Nat) (w' : World) : (Instr.index 63 (.agg #[.pointer (some ⟨b, 0, none⟩), .pointer (some ⟨b, 1, none⟩), .pointer (some ⟨b, 2, none⟩), .pointer (some ⟨b, 3, none⟩), .pointer (some ⟨b, 4, none⟩), .pointer (some ⟨b, 5, none⟩), .pointer (some ⟨b, 6, none⟩), .pointer (some ⟨b, 7, none⟩), .pointer (some ⟨b, 8, none⟩), .pointer (some ⟨b, 9, none⟩)]) (.int .i64 3)).run pP w' = .ok (.pointer (some ⟨b, 3, none⟩)) w' := by kernel_rfl
theorem yFl (b : Nat) (w' : World) : (Instr.index 63 (.agg #[.pointer (some ⟨b, 0, none⟩), .pointer (some ⟨b, 1, none⟩), .pointer (some ⟨b, 2, none⟩), .pointer (some ⟨b, 3, none⟩), .pointer (some ⟨b, 4, none⟩), .pointer (some ⟨b, 5, none⟩), .pointer (some ⟨b, 6, none⟩), .pointer (some ⟨b, 7, none⟩), .pointer (some ⟨b, 8, none⟩), .pointer (some ⟨b, 9, none⟩)]) (.int .i64 4)).run pP w' = .ok (.pointer (some ⟨b, 4, none⟩)) w' := by kernel_rfl
theorem yFm (b : Nat) (w' : World) : (Instr.index 63 (.agg #[.pointer (some ⟨b, 0, none⟩), .pointer (some ⟨b, 1, none⟩), .pointer (some ⟨b, 2, none⟩), .pointer (some ⟨b, 3, none⟩), .pointer (some ⟨b, 4, none⟩), .pointer (some ⟨b, 5, none⟩), .pointer (some ⟨b, 6, none⟩), .pointer (some ⟨b, 7, none⟩), .pointer (some ⟨b, 8, none⟩), .pointer (some ⟨b, 9, none⟩)]) (.int .i64 5)).run pP w' = .ok (.pointer (some ⟨b, 5, none⟩)) w' := by kernel_rfl
theorem yFn (b : Nat) (w' : World) : (Instr.index 63 (.agg #[.pointer (some ⟨b, 0, none⟩), .pointer (some ⟨b, 1, none⟩), .pointer (some ⟨b, 2, none⟩), .pointer (some ⟨b, 3, none⟩), .pointer (some ⟨b, 4, none⟩), .pointer (some ⟨b, 5, none⟩), .pointer (some ⟨b, 6, none⟩), .pointer (some ⟨b, 7, none⟩), .pointer (some ⟨b, 8, none⟩), .pointer (some ⟨b, 9, none⟩)]) (.int .i64 6)).run pP w' = .ok (.pointer (some ⟨b, 6, none⟩)) w' := by kernel_rfl
theorem yFo (b : Nat) (w' : World) : (Instr.index 63 (.agg #[.pointer (some ⟨b, 0, none⟩), .pointer (some ⟨b, 1, none⟩), .pointer (some ⟨b, 2, none⟩), .pointer (some ⟨b, 3, none⟩), .pointer (some ⟨b, 4, none⟩), .pointer (some ⟨b, 5, none⟩), .pointer (some ⟨b, 6, none⟩), .pointer (some ⟨b, 7, none⟩), .pointer (some ⟨b, 8, none⟩), .pointer (some ⟨b, 9, none⟩)]) (.int .i64 7)).run pP w' = .ok (.pointer (some ⟨b, 7, none⟩)) w' := by kernel_rfl
theorem yFp (b : Nat) (w' : World) : (Instr.index 63 (.agg #[.pointer (some ⟨b, 0, none⟩), .pointer (some ⟨b, 1, none⟩), .pointer (some ⟨b, 2, none⟩), .pointer (some ⟨b, 3, none⟩), .pointer (some ⟨b, 4, none⟩), .pointer (some ⟨b, 5, none⟩), .pointer (some ⟨b, 6, none⟩), .pointer (some ⟨b, 7, none⟩), .pointer (some ⟨b, 8, none⟩), .pointer (some ⟨b, 9, none⟩)]) (.int .i64 8)).run pP w' = .ok (.pointer (some ⟨b, 8, none⟩)) w' := by kernel_rfl
theorem yFq (b : Nat) (w' : World) : (Instr.index 63 (.agg #[.pointer (some ⟨b, 0, none⟩), .pointer (some ⟨b, 1, none⟩), .pointer (some ⟨b, 2, none⟩), .pointer (some ⟨b, 3, none⟩), .pointer (some ⟨b, 4, none⟩), .pointer (some ⟨b, 5, none⟩), .pointer (some ⟨b, 6, none⟩), .pointer (some ⟨b, 7, none⟩), .pointer (some ⟨b, 8, none⟩), .pointer (some ⟨b, 9, none⟩)]) (.int .i64 9)).run pP w' = .ok (.pointer (some ⟨b, 9, none⟩)) w' := by kernel_rfl
theorem yFr (b : Nat) {k : Nat} (hk : k < 10) (w' : World) : (Instr.index 63 (.agg #[.pointer (some ⟨b, 0, none⟩), .pointer (some ⟨b, 1, none⟩), .pointer (some ⟨b, 2, none⟩), .pointer (some ⟨b, 3, none⟩), .pointer (some ⟨b, 4, none⟩), .pointer (some ⟨b, 5, none⟩), .pointer (some ⟨b, 6, none⟩), .pointer (some ⟨b, 7, none⟩), .pointer (some ⟨b, 8, none⟩), .pointer (some ⟨b, 9, none⟩)]) (.int .i64 (k : Nat))).run pP w' = .ok (.pointer (some ⟨b, k, none⟩)) w' := by
 have e : k = 0 ∨ k = 1 ∨ k = 2 ∨ k = 3 ∨ k = 4 ∨ k = 5 ∨ k = 6 ∨ k = 7 ∨ k = 8 ∨ k = 9 := by omega
 rcases e with rfl | rfl | rfl | rfl | rfl | rfl | rfl | rfl | rfl | rfl
 ·exact yFh b w'
 ·exact yFi b w'
 ·exact yFj b w'
 ·exact yFk b w'
 ·exact yFl b w'
 ·exact yFm b w'
 ·exact yFn b w'
 ·exact yFo b w'
 ·exact yFp b w'
 ·exact yFq b w'
section
set_option maxRecDepth 100000
variable {R : VWP} {w w0 : World} {m : Nat} {i0 i1 i2 i3 i4 i5 i6 i7 i8 i9 j0 j1 j2 j3 j4 j5 j6 j7 j8 j9 k0 k1 k2 k3 k4 k5 k6 k7 k8 k9 l0 l1 l2 l3 l4 l5 l6 l7 l8 l9 : Int} {s0 s1 s2 s3 s4 s5 s6 s7 s8 s9 t0 t1 t2 t3 t4 t5 t6 t7 t8 t9 : BA} {n0 n1 n2 n3 n4 n5 n6 n7 n8 n9 o0 o1 o2 o3 o4 o5 o6 o7 o8 o9 p0 p1 p2 p3 p4 p5 p6 p7 p8 p9 : Nat} {q0 q1 q2 q3 q4 q5 q6 q7 q8 q9 r0 r1 r2 r3 r4 r5 r6 r7 r8 r9 : OA} {B0 B1 B2 B3 B4 B5 B6 B7 B8 B9 : Bool} {M0 M1 M2 M3 : Option Nat} {V0 V1 V2 V3 V4 V5 : Value} {A0 A1 A2 : Addr}
def ysE : LA := ⟨[0, 0, 1, 0, 1, 1, 1], [1, 5, 24, 25, 26], [(1, 0, 0), (5, 1, 0)], 2, [1]⟩
def ysF : LA := ⟨[0, 0, 1, 0, 1, 1, 1, 1], [5, 36, 37, 38], [(5, 1, 0)], 2, [1]⟩
def yuE : List LA := [ysE, ysF]
abbrev yCH := dnF pP yuE (code Tryz.f162)
abbrev yLp := yaO pP yuE (code Tryz.f162)
abbrev yCI (p : List Nat) (K : List Kh) (R : VWP) := yaO pP yuE (code Tryz.f162) p K (ya4 pP Tryz.f162 [] R)
def yl5 (b0 : OA) (b2 b1 bm0 : Nat) (a7 a8 a9 : Int) (a0 : OA) (a4 a2 bm1 : Nat) : Int × (Option Addr) × (Option Addr) × Nat × Nat → List Value × List TB := fun (b3, a6, a1, a5, a3) => ([(.pointer (some ⟨bm0, 0, none⟩)), (.pointer (some ⟨bm1, 0, none⟩)), .slice b0 b2 b1, (.int .i64 (4 : Int)), .int .i64 b3], [⟨bm0, 46, [.int .i64 a7, .int .i64 a8, .int .i64 a9, .slice a0 a4 a2], false⟩, ⟨bm1, 61, [.pointer a6, .slice a1 a5 a3], true⟩])
def yl6 (b0 : OA) (b2 b1 : Nat) (b3 : Int) (bm0 : Nat) (a7 a8 a9 : Int) (a0 : OA) (a4 a2 bm1 : Nat) : Int × (Option Addr) × (Option Addr) × Nat × Nat → List Value × List TB := fun (b4, a6, a1, a5, a3) => ([(.pointer (some ⟨bm1, 0, none⟩)), .slice b0 b2 b1, .int .i64 b3, .int .i64 b4], [⟨bm0, 46, [.int .i64 a7, .int .i64 a8, .int .i64 a9, .slice a0 a4 a2], false⟩, ⟨bm1, 61, [.pointer a6, .slice a1 a5 a3], true⟩])
abbrev yD0 (a6 : OA) (a8 a7 bm0 : Nat) (a3 a4 a5 : Int) (a0 : OA) (a2 a1 bm1 : Nat) (I : Nat → Int → Option Addr → Option Addr → Nat → Nat → World → Prop) (m : Nat) : Kh := KG (yl5 a6 a8 a7 bm0 a3 a4 a5 a0 a2 a1 bm1) (U5 I) m
theorem yAA {I : Nat → Int → Option Addr → Option Addr → Nat → Nat → World → Prop} (m' : Nat) (h1 : m' < m) (h2 : I m' i3 q2 q3 n6 n7 w) : KS (yD0 q0 n0 n1 n2 i0 i1 i2 q1 n3 n4 n5 I m) (yl5 q0 n0 n1 n2 i0 i1 i2 q1 n3 n4 n5 (i3, q2, q3, n6, n7)) w := ⟨m', h1, _, rfl, rfl, h2⟩
theorem yAB {b1 : OA} {a1 : OA} {b6 b3 : OA} (I : Nat → Int → Option Addr → Option Addr → Nat → Nat → World → Prop) (m0 : Nat) (h0 : I m0 i3 b6 b3 n6 n7 w0)
 (hr : ∀ m b0 a6 a3 a5 a4 w, I m b0 a6 a3 a5 a4 w →
 w.heap[n5]? = some (.cells #[.pointer a6, .slice a3 a5 a4] 61) →
 brB (decide (b0 < (4 : Int))) (
 ixA b1 n0 b0 1 fun q9 =>
 yaI .i64 w q9 fun d1 =>
 Calls pP 24 #[(.int .u64 (IntKind.wrap .u64 d1))] w fun e b8 => ∃ c5, e = .returned (.string c5) ∧ ya2 [n5] [(n2, 46)] [n2] w b8 ∧ ∃ c9 c6 c8 c7, b8.heap[n5]? = some (.cells #[.pointer c9, .slice c6 c8 c7] 61) ∧
 Calls pP 23 #[(.pointer (some ⟨n5, 0, none⟩)), .string c5] b8 fun e c0 => ∃ d2 d0, e = .returned (.tuple #[.int .i64 d2, d0]) ∧ ya2 [n5] [(n2, 46)] [n2] b8 c0 ∧ ∃ c4 c1 c3 c2, c0.heap[n5]? = some (.cells #[.pointer c4, .slice c1 c3 c2] 61) ∧
 KS (yD0 b1 n0 n1 n2 i0 i1 i2 a1 n3 n4 n5 I m) (yl5 b1 n0 n1 n2 i0 i1 i2 a1 n3 n4 n5 ((IntKind.wrap .i64 (b0 + 1)), c4, c1, c3, c2)) c0)
 (
 yaK ysF (yCH 394 [0, 0, 1, 0, 1, 1, 1, 1]) (yCI [1, 1, 1, 1, 0, 1, 0] [] R) (yl6 a1 n3 n4 (n3 : Int) n2 i0 i1 i2 a1 n3 n4 n5 (0, a6, a3, a5, a4)) w)) :
 yaK ysE (yCH 395 [0, 0, 1, 0, 1, 1, 1]) (yCI [1, 1, 1, 0, 1, 0] [] R) (yl5 b1 n0 n1 n2 i0 i1 i2 a1 n3 n4 n5 (i3, b6, b3, n6, n7)) w0 :=
 lrule (yl5 b1 n0 n1 n2 i0 i1 i2 a1 n3 n4 n5) (U5 I) h0 (by rintro m ⟨b0, a6, a3, a5, a4⟩ w h; exact ⟨by kernel_rfl, by kernel_rfl, fun js => Eq.mpr (by kernel_rfl) (hr m b0 a6 a3 a5 a4 w h)⟩)
abbrev yD1 (a6 : OA) (a8 a7 : Nat) (a9 : Int) (bm0 : Nat) (a3 a4 a5 : Int) (a0 : OA) (a2 a1 bm1 : Nat) (I : Nat → Int → Option Addr → Option Addr → Nat → Nat → World → Prop) (m : Nat) : Kh := KG (yl6 a6 a8 a7 a9 bm0 a3 a4 a5 a0 a2 a1 bm1) (U5 I) m
theorem yAC {I : Nat → Int → Option Addr → Option Addr → Nat → Nat → World → Prop} (m' : Nat) (h1 : m' < m) (h2 : I m' i4 q2 q3 n6 n7 w) : KS (yD1 q0 n0 n1 i0 n2 i1 i2 i3 q1 n3 n4 n5 I m) (yl6 q0 n0 n1 i0 n2 i1 i2 i3 q1 n3 n4 n5 (i4, q2, q3, n6, n7)) w := ⟨m', h1, _, rfl, rfl, h2⟩
theorem yAD (I : Nat → Int → Option Addr → Option Addr → Nat → Nat → World → Prop) (m0 : Nat) (h0 : I m0 i4 q2 q3 n6 n7 w0)
 (hr : ∀ m b0 a3 a0 a2 a1 w, I m b0 a3 a0 a2 a1 w →
 w.heap[n5]? = some (.cells #[.pointer a3, .slice a0 a2 a1] 61) →
 brB (decide (b0 < i0)) (
 ixA q0 n0 b0 4 fun c0 =>
 yaT w c0 fun e2 => yaQ w (Addr.add c0 1) fun e0 => yaT w (Addr.add c0 2) fun e3 => yaQ w (Addr.add c0 3) fun e1 =>
 ∀ b5, w.heap.size ≤ b5 →
 ∀ c1, Adv [] [b5] w c1 → c1.heap[n5]? = some (.cells #[.pointer a3, .slice a0 a2 a1] 61) →
 Calls pP 97 #[(.agg (Z7 e2 e0 e3 e1))] c1 fun e c2 => ∃ d0, e = .returned (.string d0) ∧ ya2 [n5] [(n2, 46), (b5, 53)] [n2, b5] c1 c2 ∧ ∃ d8 d2 d6 d4, c2.heap[n5]? = some (.cells #[.pointer d8, .slice d2 d6 d4] 61) ∧
 Calls pP 23 #[(.pointer (some ⟨n5, 0, none⟩)), .string d0] c2 fun e c4 => ∃ e5 e4, e = .returned (.tuple #[.int .i64 e5, e4]) ∧ ya2 [n5] [(n2, 46), (b5, 53)] [n2, b5] c2 c4 ∧ ∃ c9 c6 c8 c7, c4.heap[n5]? = some (.cells #[.pointer c9, .slice c6 c8 c7] 61) ∧
 KS (yD1 q0 n0 n1 i0 n2 i1 i2 i3 q1 n3 n4 n5 I m) (yl6 q0 n0 n1 i0 n2 i1 i2 i3 q1 n3 n4 n5 ((IntKind.wrap .i64 (b0 + 1)), c9, c6, c8, c7)) c4)
 (
 Calls pP 27 #[(.pointer (some ⟨n5, 0, none⟩))] w fun e c5 => ∃ d1, e = .returned (.string d1) ∧ ya2 [n5] [(n2, 46)] [n2] w c5 ∧ ∃ d9 d3 d7 d5, c5.heap[n5]? = some (.cells #[.pointer d9, .slice d3 d7 d5] 61) ∧
 R (.tuple #[.string d1, .int .i64 0]) c5)) :
 yaK ysF (yCH 394 [0, 0, 1, 0, 1, 1, 1, 1]) (yCI [1, 1, 1, 1, 0, 1, 0] [] R) (yl6 q0 n0 n1 i0 n2 i1 i2 i3 q1 n3 n4 n5 (i4, q2, q3, n6, n7)) w0 :=
 lrule (yl6 q0 n0 n1 i0 n2 i1 i2 i3 q1 n3 n4 n5) (U5 I) h0 (by rintro m ⟨b0, a3, a0, a2, a1⟩ w h; exact ⟨by kernel_rfl, by kernel_rfl, fun js => Eq.mpr (by kernel_rfl) (hr m b0 a3 a0 a2 a1 w h)⟩)
theorem yIY (h :
 ∀ b1, w.heap.size ≤ b1 →
 ∀ w2, Adv [] [b1] w w2 →
 Calls pP 163 #[(.agg (Z8 i0 i1 i2 q0 n0 n1))] w2 fun e w3 => ∃ x4, e = .returned (.int .i64 x4) ∧ yaE [b1] w2 w3 ∧
 brB (x4 != 0) (
 R (.tuple #[(.string (⟨#[]⟩ : BA)), .int .i64 x4]) w3)
 (
 ∀ b5, w3.heap.size ≤ b5 →
 ∀ w6, Adv [] [b5] w3 w6 →
 al w6 (.cells (Z9 i0 i1 i2 (n0 : Int)) 3) fun b7 w8 =>
 ∀ a6, Adv [] [] w8 a6 → a6.heap[b5]? = some (.cells #[.pointer none, .slice none 0 0] 61) →
 yaK ysE (yCH 395 [0, 0, 1, 0, 1, 1, 1]) (yCI [1, 1, 1, 0, 1, 0] [] R) (yl5 (some ⟨b7, 0, none⟩) 4 4 b1 i0 i1 i2 q0 n0 n1 b5 (0, none, none, 0, 0)) a6)) :
 CR pP 162 #[(.agg (Z8 i0 i1 i2 q0 n0 n1))] w R :=
 yaA Tryz.wide_mixed (an := yuE) Tryz.func162 rfl rfl (by kernel_rfl) rfl (Eq.mpr (by kernel_rfl) h)
theorem yIZ {b0 : Nat} {o0 : BA} (hb : w.heap[b0]? = some (.cells (Z2 o0 i0 i1) 181)) (h :
 brB (i1 != 0) (
 ∀ w1, Adv [] [] w w1 → w1.heap[b0]? = some (.cells (Z2 o0 i0 i1) 181) →
 R (.string (⟨#[]⟩ : BA)) w1)
 (
 brB (!B0) (
 ∀ w2, Adv [] [] w w2 → w2.heap[b0]? = some (.cells (Z2 o0 i0 i1) 181) →
 R (.string (⟨#[]⟩ : BA)) w2)
 (
 ∀ w3, Adv [] [] w w3 →
 Calls pP 78 (Z2 o0 i0 i2) w3 fun e w4 => ∃ s5 x6 x7, e = .returned (.tuple (Z2 s5 x6 x7)) ∧ yaE [b0] w3 w4 ∧
 ∀ w8, Adv [b0] [] w4 w8 → w8.heap[b0]? = some (.cells (Z2 o0 x6 x7) 181) →
 R (.string s5) w8))) :
 CR pP 138 #[(.pointer (some ⟨b0, 0, none⟩)), .bool B0, .int .i64 i2] w R :=
 ycA Tryz.wide_mixed (an := []) Tryz.func138 rfl rfl (by kernel_rfl) rfl hb (Eq.mpr (by kernel_rfl) h)
theorem yI0 {b0 : Nat} (hb : w.heap[b0]? = some (.cells (Z2 s0 i0 i1) 181)) (h :
 brB (i1 != 0) (
 ∀ w1, Adv [] [] w w1 → w1.heap[b0]? = some (.cells (Z2 s0 i0 i1) 181) →
 R (.int .u64 0) w1)
 (
 ∀ w2, Adv [] [] w w2 →
 Calls pP 79 #[.string s0, .int .i64 i0] w2 fun e w3 => ∃ x4 x5 x6, e = .returned (.tuple #[.int .u64 x4, .int .i64 x5, .int .i64 x6]) ∧ yaE [b0] w2 w3 ∧
 ∀ w7, Adv [b0] [] w3 w7 → w7.heap[b0]? = some (.cells (Z2 s0 x5 x6) 181) →
 R (.int .u64 x4) w7)) :
 CR pP 171 #[(.pointer (some ⟨b0, 0, none⟩))] w R :=
 ycA Tryz.wide_mixed (an := []) Tryz.func171 rfl rfl (by kernel_rfl) rfl hb (Eq.mpr (by kernel_rfl) h)
theorem yI1 {b0 : Nat} (hb : w.heap[b0]? = some (.cells (Z2 s0 i0 i1) 181)) (h :
 brB (i1 != 0) (
 ∀ w1, Adv [] [] w w1 → w1.heap[b0]? = some (.cells (Z2 s0 i0 i1) 181) →
 R (.int .u8 0) w1)
 (
 brB (decide (i0 < 0)) (
 ∀ w2, Adv [b0] [] w w2 → w2.heap[b0]? = some (.cells (Z2 s0 i0 1) 181) →
 R (.int .u8 0) w2)
 (
 brB (decide (i0 > (s0.size : Int))) (
 ∀ w3, Adv [b0] [] w w3 → w3.heap[b0]? = some (.cells (Z2 s0 i0 1) 181) →
 R (.int .u8 0) w3)
 (
 brB (i0 == (s0.size : Int)) (
 ∀ w4, Adv [b0] [] w w4 → w4.heap[b0]? = some (.cells (Z2 s0 i0 10) 181) →
 R (.int .u8 0) w4)
 (
 ixS s0 i0 fun x5 =>
 brB (x5 != 0) (
 brB (x5 != 1) (
 brB (x5 != 3) (
 ∀ w6, Adv [b0] [] w w6 → w6.heap[b0]? = some (.cells (Z2 s0 (IntKind.wrap .i64 (i0 + 1)) 30) 181) →
 R (.int .u8 x5) w6)
 (
 ∀ w7, Adv [b0] [] w w7 → w7.heap[b0]? = some (.cells (Z2 s0 (IntKind.wrap .i64 (i0 + 1)) i1) 181) →
 R (.int .u8 x5) w7))
 (
 ∀ w8, Adv [b0] [] w w8 → w8.heap[b0]? = some (.cells (Z2 s0 (IntKind.wrap .i64 (i0 + 1)) i1) 181) →
 R (.int .u8 x5) w8))
 (
 ∀ w9, Adv [b0] [] w w9 → w9.heap[b0]? = some (.cells (Z2 s0 (IntKind.wrap .i64 (i0 + 1)) i1) 181) →
 R (.int .u8 x5) w9)))))) :
 CR pP 137 #[(.pointer (some ⟨b0, 0, none⟩))] w R :=
 ycA Tryz.wide_mixed (an := []) Tryz.func137 rfl rfl (by kernel_rfl) rfl hb (Eq.mpr (by kernel_rfl) h)
theorem yI2 {b0 : Nat} {o0 : BA} (hb : w.heap[b0]? = some (.cells (Z2 o0 i0 i1) 181)) (h :
 ∀ b1, w.heap.size ≤ b1 →
 ∀ w2, Adv [] [b1] w w2 → w2.heap[b0]? = some (.cells (Z2 o0 i0 i1) 181) →
 Calls pP 137 #[(.pointer (some ⟨b0, 0, none⟩))] w2 fun e w3 => ∃ x4, e = .returned (.int .u8 x4) ∧ ya2 [b0] [(b1, 53)] [b1] w2 w3 ∧ ∃ s5 x6 x7, w3.heap[b0]? = some (.cells (Z2 s5 x6 x7) 181) ∧
 ∀ b8, w3.heap.size ≤ b8 →
 ∀ w9, Adv [] [b8] w3 w9 → w9.heap[b0]? = some (.cells (Z2 s5 x6 x7) 181) →
 Calls pP 138 #[(.pointer (some ⟨b0, 0, none⟩)), (.bool ((ykS .u8 x4 1) != 0)), .int .i64 64] w9 fun e a1 => ∃ a4, e = .returned (.string a4) ∧ ya2 [b0] [(b1, 53), (b8, 53)] [b1, b8] w9 a1 ∧ ∃ a5 a8 a9, a1.heap[b0]? = some (.cells (Z2 a5 a8 a9) 181) ∧
 ∀ a0, Adv [b8] [] a1 a0 → a0.heap[b0]? = some (.cells (Z2 a5 a8 a9) 181) →
 Calls pP 138 #[(.pointer (some ⟨b0, 0, none⟩)), (.bool (!((ykS .u8 x4 2) != 0))), .int .i64 512] a0 fun e a2 => ∃ a6, e = .returned (.string a6) ∧ ya2 [b0] [(b1, 53), (b8, 53)] [b1, b8] a0 a2 ∧ ∃ a7 b2 b3, a2.heap[b0]? = some (.cells (Z2 a7 b2 b3) 181) ∧
 ∀ a3, Adv [b1, b8] [] a2 a3 → a3.heap[b0]? = some (.cells (Z2 a7 b2 b3) 181) →
 R (.agg (Z7 ((ykS .u8 x4 1) != 0) a4 ((ykS .u8 x4 2) != 0) a6)) a3) :
 CR pP 132 #[(.pointer (some ⟨b0, 0, none⟩))] w R :=
 ycA Tryz.wide_mixed (an := []) Tryz.func132 rfl rfl (by kernel_rfl) rfl hb (Eq.mpr (by kernel_rfl) h)
def ysG : LA := ⟨[0, 0, 1, 0, 1, 1, 1], [0, 2, 3, 4, 7], [(0, 0, 0), (2, 1, 0), (3, 2, 0)], 3, [0, 2]⟩
def yuF : List LA := [ysG]
abbrev yI3 := dnF pP yuF (code Tryz.f170)
abbrev yLq := yaO pP yuF (code Tryz.f170)
abbrev yI4 (p : List Nat) (K : List Kh) (R : VWP) := yaO pP yuF (code Tryz.f170) p K (ya4 pP Tryz.f170 [0] R)
def yiJ (bm0 bm1 bm2 : Nat) : Bool × Int × ByteArray × Int × Int × Int × Int × Int × Int → List Value × List TB := fun (a7, a8, a0, a1, a2, a3, a4, a5, a6) => ([(.pointer (some ⟨bm0, 0, none⟩)), (.pointer (some ⟨bm1, 0, none⟩)), (.pointer (some ⟨bm2, 0, none⟩)), .bool a7, .int .i64 a8], [⟨bm0, 181, [.string a0, .int .i64 a1, .int .i64 a2], true⟩, ⟨bm1, 205, [.int .i64 0, .int .i64 0, .int .i64 0, .int .i64 0], false⟩, ⟨bm2, 205, [.int .i64 a3, .int .i64 a4, .int .i64 a5, .int .i64 a6], true⟩])
abbrev yuG (bm0 bm1 bm2 : Nat) (I : Nat → Bool → Int → ByteArray → Int → Int → Int → Int → Int → Int → World → Prop) (m : Nat) : Kh := KG (yiJ bm0 bm1 bm2) (U9 I) m
theorem yj6 {I : Nat → Bool → Int → ByteArray → Int → Int → Int → Int → Int → Int → World → Prop} (m' : Nat) (h1 : m' < m) (h2 : I m' B0 i0 s0 i1 i2 i3 i4 i5 i6 w) : KS (yuG n0 n1 n2 I m) (yiJ n0 n1 n2 (B0, i0, s0, i1, i2, i3, i4, i5, i6)) w := ⟨m', h1, _, rfl, rfl, h2⟩
theorem yAE {a8 : BA} (I : Nat → Bool → Int → ByteArray → Int → Int → Int → Int → Int → Int → World → Prop) (m0 : Nat) (h0 : I m0 B0 i0 a8 i1 i2 i3 i4 i5 i6 w0)
 (hr : ∀ m b5 a6 a4 a5 a7 a1 a2 a3 a0 w, I m b5 a6 a4 a5 a7 a1 a2 a3 a0 w →
 w.heap[n0]? = some (.cells (Z2 a4 a5 a7) 181) →
 w.heap[n2]? = some (.cells (Z9 a1 a2 a3 a0) 205) →
 brB (decide (a6 < 4)) (
 Calls pP 171 #[(.pointer (some ⟨n0, 0, none⟩))] w fun e w3 => ∃ x4, e = .returned (.int .u64 x4) ∧ ya2 [n0, n2] [(n1, 205)] [n1] w w3 ∧ ∃ s5 x6 x7, w3.heap[n0]? = some (.cells (Z2 s5 x6 x7) 181) ∧ ∃ x8 x9 e7 e8, w3.heap[n2]? = some (.cells (Z9 x8 x9 e7 e8) 205) ∧
 brB b5 (0 ≤ a6 ∧ a6 < ((4 : Nat) : Int) ∧
 st w3 (Addr.add ⟨n2, 0, none⟩ (Int.toNat a6 * 1)) [(.int .i64 (IntKind.wrap .i64 (if 1099511627776 < x4 then 1099511627776 else x4)))] fun b6 => ya2 [n0, n2] [(n1, 205)] [n1] w3 b6 ∧ ∃ c6 c9 d0, b6.heap[n0]? = some (.cells (Z2 c6 c9 d0) 181) ∧ ∃ d1 d2 d3 d4, b6.heap[n2]? = some (.cells (Z9 d1 d2 d3 d4) 205) ∧
 KS (yuG n0 n1 n2 I m) (yiJ n0 n1 n2 (true, (IntKind.wrap .i64 (a6 + 1)), c6, c9, d0, d1, d2, d3, d4)) b6)
 (
 brB (decide (a6 < 3)) (0 ≤ a6 ∧ a6 < ((4 : Nat) : Int) ∧
 st w3 (Addr.add ⟨n2, 0, none⟩ (Int.toNat a6 * 1)) [(.int .i64 (IntKind.wrap .i64 (if 1099511627776 < x4 then 1099511627776 else x4)))] fun b7 => ya2 [n0, n2] [(n1, 205)] [n1] w3 b7 ∧ ∃ c7 d5 d6, b7.heap[n0]? = some (.cells (Z2 c7 d5 d6) 181) ∧ ∃ d7 d8 d9 e0, b7.heap[n2]? = some (.cells (Z9 d7 d8 d9 e0) 205) ∧
 KS (yuG n0 n1 n2 I m) (yiJ n0 n1 n2 ((decide (x4 > 1099511627776)), (IntKind.wrap .i64 (a6 + 1)), c7, d5, d6, d7, d8, d9, e0)) b7)
 (0 ≤ a6 ∧ a6 < ((4 : Nat) : Int) ∧
 st w3 (Addr.add ⟨n2, 0, none⟩ (Int.toNat a6 * 1)) [(.int .i64 (IntKind.wrap .i64 (if 1099511627776 < x4 then 1099511627776 else x4)))] fun b8 => ya2 [n0, n2] [(n1, 205)] [n1] w3 b8 ∧ ∃ c8 e1 e2, b8.heap[n0]? = some (.cells (Z2 c8 e1 e2) 181) ∧ ∃ e3 e4 e5 e6, b8.heap[n2]? = some (.cells (Z9 e3 e4 e5 e6) 205) ∧
 KS (yuG n0 n1 n2 I m) (yiJ n0 n1 n2 (false, (IntKind.wrap .i64 (a6 + 1)), c8, e1, e2, e3, e4, e5, e6)) b8)))
 (
 brB (a7 != 0) (
 ∀ b9, Adv [n1] [] w b9 → b9.heap[n0]? = some (.cells (Z2 a4 a5 a7) 181) →
 b9.heap[n2]? = some (.cells (Z9 a1 a2 a3 a0) 205) →
 R (.agg (Z9 a1 a2 a3 a0)) b9)
 (
 brB b5 (
 ∀ c0, Adv [n1, n0] [] w c0 → c0.heap[n0]? = some (.cells (Z2 a4 a5 1) 181) →
 c0.heap[n2]? = some (.cells (Z9 a1 a2 a3 a0) 205) →
 R (.agg (Z9 a1 a2 a3 a0)) c0)
 (
 brB (a0 == 0) (
 ∀ c1, Adv [n1, n0] [] w c1 → c1.heap[n0]? = some (.cells (Z2 a4 a5 30) 181) →
 c1.heap[n2]? = some (.cells (Z9 a1 a2 a3 a0) 205) →
 R (.agg (Z9 a1 a2 a3 a0)) c1)
 (
 brB (decide (a0 > 16)) (
 ∀ c2, Adv [n1, n0] [] w c2 → c2.heap[n0]? = some (.cells (Z2 a4 a5 2) 181) →
 c2.heap[n2]? = some (.cells (Z9 a1 a2 a3 a0) 205) →
 R (.agg (Z9 a1 a2 a3 a0)) c2)
 (
 ∀ c3, Adv [n1] [] w c3 → c3.heap[n0]? = some (.cells (Z2 a4 a5 a7) 181) →
 c3.heap[n2]? = some (.cells (Z9 a1 a2 a3 a0) 205) →
 R (.agg (Z9 a1 a2 a3 a0)) c3)))))) :
 yaK ysG (yI3 395 [0, 0, 1, 0, 1, 1, 1]) (yI4 [1, 1, 1, 0, 1, 0] [] R) (yiJ n0 n1 n2 (B0, i0, a8, i1, i2, i3, i4, i5, i6)) w0 :=
 lrule (yiJ n0 n1 n2) (U9 I) h0 (by rintro m ⟨b5, a6, a4, a5, a7, a1, a2, a3, a0⟩ w h; exact ⟨by kernel_rfl, by kernel_rfl, fun js => Eq.mpr (by kernel_rfl) (hr m b5 a6 a4 a5 a7 a1 a2 a3 a0 w h)⟩)
theorem yI5 {b0 : Nat} (hb : w.heap[b0]? = some (.cells (Z2 s0 i0 i1) 181)) (h :
 ∀ b1, w.heap.size ≤ b1 →
 ∀ b2, w.heap.size ≤ b2 →
 ∀ a0, Adv [] [b2, b1] w a0 → a0.heap[b0]? = some (.cells (Z2 s0 i0 i1) 181) →
 a0.heap[b2]? = some (.cells (Z9 0 0 0 0) 205) →
 yaK ysG (yI3 395 [0, 0, 1, 0, 1, 1, 1]) (yI4 [1, 1, 1, 0, 1, 0] [] R) (yiJ b0 b1 b2 (false, 0, s0, i0, i1, 0, 0, 0, 0)) a0) :
 CR pP 170 #[(.pointer (some ⟨b0, 0, none⟩))] w R :=
 ycA Tryz.wide_mixed (an := yuF) Tryz.func170 rfl rfl (by kernel_rfl) rfl hb (Eq.mpr (by kernel_rfl) h)
def ysH : LA := ⟨[0, 0, 1, 0, 1, 1, 1, 1], [4, 7, 8, 9, 10], [(4, 0, 0), (7, 1, 0), (8, 2, 0), (9, 3, 0)], 4, [1]⟩
def yuH : List LA := [ysH]
abbrev yI6 := dnF pP yuH (code Tryz.f169)
abbrev yLr := yaO pP yuH (code Tryz.f169)
abbrev yI7 (p : List Nat) (K : List Kh) (R : VWP) := yaO pP yuH (code Tryz.f169) p K (ya4 pP Tryz.f169 [] R)
def yl7 (bm0 bm1 bm2 : Nat) (a6 a7 a8 a9 : Int) (bm3 : Nat) (b0 b1 b2 : Int) : Int × ByteArray × Int × Int × (Option Addr) × Nat × Nat → List Value × List TB := fun (b3, a3, a4, a5, a0, a2, a1) => ([(.pointer (some ⟨bm0, 0, none⟩)), (.pointer (some ⟨bm1, 0, none⟩)), (.pointer (some ⟨bm2, 0, none⟩)), (.pointer (some ⟨bm3, 0, none⟩)), .int .i64 b3], [⟨bm0, 46, [.int .i64 0, .int .i64 0, .int .i64 0, .slice none 0 0], false⟩, ⟨bm1, 181, [.string a3, .int .i64 a4, .int .i64 a5], true⟩, ⟨bm2, 205, [.int .i64 a6, .int .i64 a7, .int .i64 a8, .int .i64 a9], false⟩, ⟨bm3, 46, [.int .i64 b0, .int .i64 b1, .int .i64 b2, .slice a0 a2 a1], false⟩])
abbrev yD2 (bm0 bm1 bm2 : Nat) (a0 a1 a2 a3 : Int) (bm3 : Nat) (a4 a5 a6 : Int) (I : Nat → Int → ByteArray → Int → Int → Option Addr → Nat → Nat → World → Prop) (m : Nat) : Kh := KG (yl7 bm0 bm1 bm2 a0 a1 a2 a3 bm3 a4 a5 a6) (U7 I) m
theorem yAF {I : Nat → Int → ByteArray → Int → Int → Option Addr → Nat → Nat → World → Prop} (m' : Nat) (h1 : m' < m) (h2 : I m' i7 s0 i8 i9 q0 n4 n5 w) : KS (yD2 n0 n1 n2 i0 i1 i2 i3 n3 i4 i5 i6 I m) (yl7 n0 n1 n2 i0 i1 i2 i3 n3 i4 i5 i6 (i7, s0, i8, i9, q0, n4, n5)) w := ⟨m', h1, _, rfl, rfl, h2⟩
theorem yAG (I : Nat → Int → ByteArray → Int → Int → Option Addr → Nat → Nat → World → Prop) (m0 : Nat) (h0 : I m0 i7 s0 i8 i9 q0 n4 n5 w0)
 (hr : ∀ m b3 a2 a1 a0 a3 a5 a4 w, I m b3 a2 a1 a0 a3 a5 a4 w →
 w.heap[n1]? = some (.cells (Z2 a2 a1 a0) 181) →
 brB (a0 == 0) (
 brB (decide (b3 < i3)) (
 ∀ c0, Adv [] [] w c0 → c0.heap[n1]? = some (.cells (Z2 a2 a1 a0) 181) →
 Calls pP 132 #[(.pointer (some ⟨n1, 0, none⟩))] c0 fun e c3 => ∃ d3 d1 d4 d2, e = .returned (.agg (Z7 d3 d1 d4 d2)) ∧ ya2 [n1] [(n0, 46), (n2, 205), (n3, 46)] [n0, n2, n3] c0 c3 ∧ ∃ c2 c9 d0, c3.heap[n1]? = some (.cells (Z2 c2 c9 d0) 181) ∧ (((.slice a3 a5 a4) : Value) = (.slice a3 a5 a4)) ∧
 al c3 (.cells (Z7 d3 d1 d4 d2) 53) fun d8 d5 =>
 yc6 pP (Builtin.append_ #[44, 44] 44 #[.slice a3 a5 a4, (.slice (some ⟨d8, 0, none⟩) 1 1)]) d5 fun d7 e0 d9 d6 => yaE [n0, n1, n2, n3] d5 d6 ∧
 ∀ c4, Adv [n3] [] d6 c4 → c4.heap[n1]? = some (.cells (Z2 c2 c9 d0) 181) →
 KS (yD2 n0 n1 n2 i0 i1 i2 i3 n3 i4 i5 i6 I m) (yl7 n0 n1 n2 i0 i1 i2 i3 n3 i4 i5 i6 ((IntKind.wrap .i64 (b3 + 1)), c2, c9, d0, d7, e0, d9)) c4)
 (
 brB (a0 != 0) ((((.int .i64 a0) : Value) = (.int .i64 a0)) ∧
 ∀ c5, Adv [n0] [] w c5 → c5.heap[n1]? = some (.cells (Z2 a2 a1 a0) 181) →
 R (.tuple #[(.agg (Z8 0 0 0 none 0 0)), .int .i64 0, .int .i64 a0]) c5)
 ((((.int .i64 a1) : Value) = (.int .i64 a1)) ∧
 ∀ c6, Adv [n0] [] w c6 → c6.heap[n1]? = some (.cells (Z2 a2 a1 a0) 181) →
 R (.tuple #[(.agg (Z8 i4 i5 i6 a3 a5 a4)), .int .i64 a1, .int .i64 0]) c6)))
 (
 brB (a0 != 0) ((((.int .i64 a0) : Value) = (.int .i64 a0)) ∧
 ∀ c7, Adv [n0] [] w c7 → c7.heap[n1]? = some (.cells (Z2 a2 a1 a0) 181) →
 R (.tuple #[(.agg (Z8 0 0 0 none 0 0)), .int .i64 0, .int .i64 a0]) c7)
 ((((.int .i64 a1) : Value) = (.int .i64 a1)) ∧
 ∀ c8, Adv [n0] [] w c8 → c8.heap[n1]? = some (.cells (Z2 a2 a1 a0) 181) →
 R (.tuple #[(.agg (Z8 i4 i5 i6 a3 a5 a4)), .int .i64 a1, .int .i64 0]) c8))) :
 yaK ysH (yI6 394 [0, 0, 1, 0, 1, 1, 1, 1]) (yI7 [1, 1, 1, 1, 0, 1, 0] [] R) (yl7 n0 n1 n2 i0 i1 i2 i3 n3 i4 i5 i6 (i7, s0, i8, i9, q0, n4, n5)) w0 :=
 lrule (yl7 n0 n1 n2 i0 i1 i2 i3 n3 i4 i5 i6) (U7 I) h0 (by rintro m ⟨b3, a2, a1, a0, a3, a5, a4⟩ w h; exact ⟨by kernel_rfl, by kernel_rfl, fun js => Eq.mpr (by kernel_rfl) (hr m b3 a2 a1 a0 a3 a5 a4 w h)⟩)
theorem yI8 {a1 : BA} (h :
 ∀ b1, w.heap.size ≤ b1 →
 ∀ b2, w.heap.size ≤ b2 →
 ∀ w3, Adv [] [b2, b1] w w3 → w3.heap[b2]? = some (.cells (Z2 a1 i0 0) 181) →
 Calls pP 170 #[(.pointer (some ⟨b2, 0, none⟩))] w3 fun e w4 => ∃ x5 x6 x7 x8, e = .returned (.agg (Z9 x5 x6 x7 x8)) ∧ ya2 [b2] [(b1, 46)] [b1] w3 w4 ∧ ∃ s9 a5 a6, w4.heap[b2]? = some (.cells (Z2 s9 a5 a6) 181) ∧
 ∀ a2, w4.heap.size ≤ a2 →
 ∀ a3, w4.heap.size ≤ a3 →
 ∀ a4, Adv [] [a3, a2] w4 a4 → a4.heap[b2]? = some (.cells (Z2 s9 a5 a6) 181) →
 yaK ysH (yI6 394 [0, 0, 1, 0, 1, 1, 1, 1]) (yI7 [1, 1, 1, 1, 0, 1, 0] [] R) (yl7 b1 b2 a2 x5 x6 x7 x8 a3 x5 x6 x7 (0, s9, a5, a6, none, 0, 0)) a4) :
 CR pP 169 #[.string a1, .int .i64 i0] w R :=
 yaA Tryz.wide_mixed (an := yuH) Tryz.func169 rfl rfl (by kernel_rfl) rfl (Eq.mpr (by kernel_rfl) h)
theorem yI9 {a3 : BA} (h :
 ∀ b1, w.heap.size ≤ b1 →
 ∀ b2, w.heap.size ≤ b2 →
 ∀ w3, Adv [] [b2, b1] w w3 → w3.heap[b2]? = some (.cells (Z2 a3 i0 0) 181) →
 Calls pP 132 #[(.pointer (some ⟨b2, 0, none⟩))] w3 fun e w4 => ∃ t5 s6 t7 s8, e = .returned (.agg (Z7 t5 s6 t7 s8)) ∧ ya2 [b2] [(b1, 53)] [b1] w3 w4 ∧ ∃ s9 a1 a0, w4.heap[b2]? = some (.cells (Z2 s9 a1 a0) 181) ∧
 ∀ a4, w4.heap.size ≤ a4 →
 brB (a0 != 0) ((((.int .i64 a0) : Value) = (.int .i64 a0)) ∧
 ∀ a5, Adv [b1] [a4] w4 a5 → a5.heap[b2]? = some (.cells (Z2 s9 a1 a0) 181) →
 R (.tuple #[(.agg (Z7 false ByteArray.empty false ByteArray.empty)), .int .i64 0, .int .i64 a0]) a5)
 ((((.int .i64 a1) : Value) = (.int .i64 a1)) ∧
 ∀ a6, Adv [b1] [a4] w4 a6 → a6.heap[b2]? = some (.cells (Z2 s9 a1 a0) 181) →
 R (.tuple #[(.agg (Z7 t5 s6 t7 s8)), .int .i64 a1, .int .i64 0]) a6)) :
 CR pP 113 #[.string a3, .int .i64 i0] w R :=
 yaA Tryz.wide_mixed (an := []) Tryz.func113 rfl rfl (by kernel_rfl) rfl (Eq.mpr (by kernel_rfl) h)
end
def ycH (b : PBatch) : List Nat := [b.prod.toNat, b.epoch.toNat, b.seq.toNat, b.recs.length]
def ydH (b : PBatch) : List UInt8 := (ycH b).flatMap yaJ ++ b.recs.flatMap yf7
structure BatGood (b : PBatch) : Prop where
 hd : 0 ≤ b.prod ∧ b.prod ≤ 1099511627776 ∧ 0 ≤ b.epoch ∧ b.epoch ≤ 1099511627776 ∧ 0 ≤ b.seq ∧ b.seq ≤ 1099511627776
 r : ∀ x ∈ b.recs, yfQ x = 0
 lr : 1 ≤ b.recs.length ∧ b.recs.length ≤ 16
theorem BatGood.of {b : PBatch} (h : ybD b = 0) : BatGood b := by
 unfold ybD at h
 split at h
 ·omega
 rename_i h1
 split at h
 ·omega
 split at h
 ·omega
 rename_i h2 h3
 have h1 := Bool.not_eq_false _ ▸ h1
 simp only [Bool.and_eq_true] at h1
 have nb : ∀ {x : Int}, num x = true → 0 ≤ x ∧ x ≤ 1099511627776 := fun h => by simpa [num] using h
 have a1 := nb h1.1.1
 have a2 := nb h1.1.2
 have a3 := nb h1.2
 refine ⟨by omega, fun x hx => ?_, by omega⟩
 split at h
 ·rename_i hn
  have := List.find?_eq_none.1 hn x hx
  simpa using this
 ·rename_i r hr
  have := List.find?_some hr
  simp [h] at this
theorem BatGood.le {b : PBatch} (h : BatGood b) : ∀ x ∈ ycH b, x ≤ 1099511627776 := by
 intro x hx
 have := h.hd
 have := h.lr
 simp [ycH] at hx
 omega
theorem BatGood.len1 {b : PBatch} (h : BatGood b) (k : Nat) : (((ycH b).take k).flatMap yaJ).length ≤ 40 := by
 have := ydF (f := yaJ) (c := 10) (l := (ycH b).take k) fun x hx => (yaL x (by have := h.le x (List.mem_of_mem_take hx); omega)).2
 have e : ((ycH b).take k).length ≤ 4 := by rw [List.length_take]; simp [ycH]; omega
 omega
theorem BatGood.len2 {b : PBatch} (h : BatGood b) (k : Nat) : ((b.recs.take k).flatMap yf7).length ≤ 9600 := by
 have := ydF (f := yf7) (c := 600) (l := b.recs.take k) fun x hx => yg3 (h.r x (List.mem_of_mem_take hx))
 have e : (b.recs.take k).length ≤ 16 := by rw [List.length_take]; have := h.lr; omega
 omega
theorem BatGood.len {b : PBatch} (h : BatGood b) : (ydH b).length ≤ 10000 ∧ 1 ≤ (ydH b).length := by
 have h1 := h.len1 4
 have h2 := h.len2 b.recs.length
 have e : (ycH b).take 4 = ycH b := List.take_of_length_le (by simp [ycH])
 rw [e] at h1
 rw [List.take_length] at h2
 have h3 := (yaL b.recs.length (by have := h.lr; omega)).1
 have h4 : (yaJ b.recs.length).length ≤ ((ycH b).flatMap yaJ).length := by simp [ycH]; omega
 unfold ydH; rw [List.length_append]; omega
theorem yCJ {w : World} {b : PBatch} {rs : Sl} (h : yb3 w 4 ye7 rs.a rs.n b.recs) (hl : b.recs.length ≤ 1000000) :
  Calls pP 162 #[b.v rs] w fun e w' => e = .returned (.tuple #[.string (if ybD b = 0 then bs (ydH b) else bs []), .int .i64 (ybD b)]) ∧ Mod [] w w' := by
 refine yaP (yIY ?_)
 intro b1 f1 w1 A1
 have l1 := A1.lt b1 (by simp)
 refine (yp8 (b := b) (rs := rs) (h.keep0 A1.mod) hl).mono ?_
 rintro e w2 ⟨rfl, M2⟩
 refine ⟨_, rfl, yaE.of0 M2, ?_⟩
 have N2 := A1.mod.go0 M2 (by simp)
 have s2 := N2.size
 have s2' := M2.size
 refine yaB (fun g1 => ?_) fun g1 => ?_
 ·have g : ¬ ybD b = 0 := by simpa using g1
  rw [if_neg g]; exact ⟨rfl, N2⟩
 have g : ybD b = 0 := by simpa using g1
 have G := BatGood.of g
 have hhd := G.hd
 have hlr := G.lr
 intro b3 f3 w3 A3
 have l3 := A3.lt b3 (by simp)
 refine ydB fun b4 w4 c4 M4 f4 => ?_
 intro w5 A5 hb5
 have s3 := A3.mod.size
 have s4 := M4.size
 have s5 := A5.mod.size
 have M5 := (A3.mod.go0 M4 (by simp)).go0 A5.mod (by simp)
 have c5 := A5.mod.keep0 c4
 have hbd : Sb w2.heap.size b3 [] w5 := Sb.fresh f3 hb5
 have hne : b4 ≠ b3 := by omega
 have Wr0 : Wr w2.heap.size b3 w2 w5 := Wr.of0 M5 (Nat.le_refl _)
 have mod0 : ∀ {w'}, Wr w2.heap.size b3 w5 w' → Mod [] w w' := fun W => (Wr0.trans W).mod N2 s2
 have hcell : ∀ {w' : World}, Wr w2.heap.size b3 w5 w' → yb3 w' 1 yGv (some ⟨b4, 0, none⟩) 4 (ycH b) := fun {w'} W => by
  have c6 := W.keep c5 hne (by decide)
  refine ⟨rfl, fun i x hx => ⟨_, rfl, fun j v hv => ?_⟩⟩
  have hj : j = 0 := by have := (List.getElem?_eq_some_iff.1 hv).1; simp [yGv] at this; omega
  subst hj
  rw [ya3, ya3, yaZ c6]
  simp [yGv] at hv
  subst hv
  have hi := (List.getElem?_eq_some_iff.1 hx).1
  simp [ycH] at hi
  have e4 := h.1
  match i, hi, hx with
  | 0, _, hx => simp [ycH] at hx; subst hx; simp; omega
  | 1, _, hx => simp [ycH] at hx; subst hx; simp; omega
  | 2, _, hx => simp [ycH] at hx; subst hx; simp; omega
  | 3, _, hx => simp [ycH] at hx; subst hx; simp; omega
 refine yAB (fun mm x p0 a0 n0 c0 w' => ∃ k : Nat, x = k ∧ k ≤ 4 ∧ Sb w2.heap.size b3 (((ycH b).take k).flatMap yaJ) w' ∧ Wr w2.heap.size b3 w5 w' ∧ mm = 4 - k) 4 ⟨0, rfl, by omega, by simpa using hbd, Wr.of0 (Mod.refl _) (by omega), rfl⟩ ?_
 rintro mm x p0 a0 n0 c0 w6 ⟨k, rfl, hk, hB6, W6, rfl⟩ hc6
 have s6 := W6.bel.size
 refine yaC (fun hlt => ?_) fun hge => ?_
 ·obtain ⟨x, hx⟩ : ∃ x, (ycH b)[k]? = some x := ⟨_, List.getElem?_eq_getElem (by simp [ycH]; omega)⟩
  have hx2 := G.le x (List.mem_of_getElem? hx)
  refine (hcell W6).ix hx fun q hq => yaF (x := (x : Nat)) (by simpa [add_zero] using hq 0 _ rfl) ?_
  rw [yd8 (by omega)]
  refine (yjV x (by omega) w6).mono ?_
  rintro e w7 ⟨rfl, M7⟩
  have hB7 := hB6.keep0 M7
  have s7 := M7.size
  obtain ⟨p7, a7, n7, c7, hc7⟩ := Sb.cells hB7
  refine ⟨_, rfl, yaE.of0 M7, p7, a7, n7, c7, hc7, ?_⟩
  refine (yAz (l2 := yaJ x) hB7 (by have := G.len1 k; have := yaL x (by omega); omega) (by omega)).mono ?_
  rintro e w8 ⟨rfl, hB8, W8⟩
  obtain ⟨p8, a8, n8, c8, hc8⟩ := Sb.cells hB8
  refine ⟨_, _, rfl, W8.keepE fun k hk he => ?_, p8, a8, n8, c8, hc8, ?_⟩
  ·simp at hk he; omega
  refine yAA (4 - (k + 1)) (by omega) ⟨k + 1, by rw [yaH (by omega) (by omega)]; omega, by omega, ?_, (W6.trans (Wr.of0 M7 (by omega))).trans W8, rfl⟩
  rw [ybB hx]
  exact hB8
 have hk4 : k = 4 := by omega
 subst hk4
 have e1 : (ycH b).take 4 = ycH b := List.take_of_length_le (by simp [ycH])
 have len1 := G.len1 4
 rw [e1] at hB6 len1
 have e4 := h.1
 refine yAD (fun mm x p0 a0 n0 c0 w' => ∃ k : Nat, x = k ∧ k ≤ b.recs.length ∧ Sb w2.heap.size b3 ((ycH b).flatMap yaJ ++ (b.recs.take k).flatMap yf7) w' ∧ Wr w2.heap.size b3 w5 w' ∧ mm = b.recs.length - k) b.recs.length ⟨0, rfl, by omega, by simpa using hB6, W6, rfl⟩ ?_
 clear hB6 W6 hc6 s6
 rintro mm x p0 a0 n0 c0 w6 ⟨k, rfl, hk, hB6, W6, rfl⟩ hc6
 have s6 := W6.bel.size
 have len2 := G.len2 k
 refine yaC (fun hlt => ?_) fun hge => ?_
 ·obtain ⟨x, hx⟩ : ∃ x, b.recs[k]? = some x := ⟨_, List.getElem?_eq_getElem (by omega)⟩
  have hx2 := G.r x (List.mem_of_getElem? hx)
  refine (h.keep0 (mod0 W6)).ix hx fun q hq => yaN (by simpa [add_zero] using hq 0 _ rfl) (yaG (hq 1 _ rfl) (yaN (hq 2 _ rfl) (yaG (hq 3 _ rfl) ?_)))
  intro b7 f7 w7 A7 hb7
  have s7 := A7.mod.size
  refine (yzC x hx2 w7).mono ?_
  rintro e w8 ⟨rfl, M8⟩
  have hB8 := (hB6.keep0 A7.mod).keep0 M8
  have s8 := M8.size
  obtain ⟨p8, a8, n8, c8, hc8⟩ := Sb.cells hB8
  refine ⟨_, rfl, yaE.of0 M8, p8, a8, n8, c8, hc8, ?_⟩
  refine (yAz (l2 := yf7 x) hB8 (by rw [List.length_append]; have := yg3 hx2; omega) (by omega)).mono ?_
  rintro e w9 ⟨rfl, hB9, W9⟩
  obtain ⟨p9, a9, n9, c9, hc9⟩ := Sb.cells hB9
  refine ⟨_, _, rfl, W9.keepE fun k hk he => ?_, p9, a9, n9, c9, hc9, ?_⟩
  ·simp at hk he
   rcases hk with rfl | rfl
   ·omega
   ·exact ⟨he, .inr ⟨_, by simp; exact .inr rfl, by decide⟩⟩
  refine yAC (b.recs.length - (k + 1)) (by omega) ⟨k + 1, by rw [yaH (by omega) (by omega)]; omega, by omega, ?_, (W6.trans ((Wr.of0 A7.mod (by omega)).trans (Wr.of0 M8 (by omega)))).trans W9, rfl⟩
  rw [ybB hx, ← List.append_assoc]
  exact hB9
 ·have hk : k = b.recs.length := by omega
  subst hk
  rw [List.take_length] at hB6
  have hlen := G.len
  refine (yFg (l := ydH b) hB6 (by intro h; rw [h] at hlen; simp at hlen)).mono ?_
  rintro e w7 ⟨rfl, hB7, W7⟩
  obtain ⟨p7, a7, n7, c7, hc7⟩ := Sb.cells hB7
  refine ⟨_, rfl, W7.keepE fun k hk he => ?_, p7, a7, n7, c7, hc7, ?_, mod0 (W6.trans W7)⟩
  ·simp at hk he; omega
  rw [if_pos g, g]
section
set_option maxRecDepth 100000
variable {R : VWP} {w w0 : World} {m : Nat} {i0 i1 i2 i3 i4 i5 i6 i7 i8 i9 j0 j1 j2 j3 j4 j5 j6 j7 j8 j9 k0 k1 k2 k3 k4 k5 k6 k7 k8 k9 l0 l1 l2 l3 l4 l5 l6 l7 l8 l9 : Int} {s0 s1 s2 s3 s4 s5 s6 s7 s8 s9 t0 t1 t2 t3 t4 t5 t6 t7 t8 t9 : BA} {n0 n1 n2 n3 n4 n5 n6 n7 n8 n9 o0 o1 o2 o3 o4 o5 o6 o7 o8 o9 p0 p1 p2 p3 p4 p5 p6 p7 p8 p9 : Nat} {q0 q1 q2 q3 q4 q5 q6 q7 q8 q9 r0 r1 r2 r3 r4 r5 r6 r7 r8 r9 : OA} {B0 B1 B2 B3 B4 B5 B6 B7 B8 B9 : Bool} {M0 M1 M2 M3 : Option Nat} {V0 V1 V2 V3 V4 V5 : Value} {A0 A1 A2 : Addr}
theorem yJa (h :
 ∀ b1, w.heap.size ≤ b1 →
 ∀ w2, Adv [] [b1] w w2 →
 yaT w2 A1 fun t3 =>
 brB t3 (
 ∀ w4, Adv [b1] [] w2 w4 → w4.heap[b1]? = some (.cells #[.int .i64 1] 3) →
 Calls pP 58 #[(.pointer (some A0)), (.pointer (some ⟨b1, 0, none⟩))] w4 fun e w5 => e = .returned (.tuple #[]) ∧ ∃ x6, w5.heap[b1]? = some (.cells #[.int .i64 x6] 3) ∧
 R (.tuple #[]) w5)
 (
 ∀ w7, Adv [] [] w2 w7 → w7.heap[b1]? = some (.cells #[.int .i64 0] 3) →
 Calls pP 58 #[(.pointer (some A0)), (.pointer (some ⟨b1, 0, none⟩))] w7 fun e w8 => e = .returned (.tuple #[]) ∧ ∃ x9, w8.heap[b1]? = some (.cells #[.int .i64 x9] 3) ∧
 R (.tuple #[]) w8)) :
 CR pP 159 #[(.pointer (some A0)), (.pointer (some A1))] w R :=
 yaA Tryz.wide_mixed (an := []) Tryz.func159 rfl rfl (by kernel_rfl) rfl (Eq.mpr (by kernel_rfl) h)
theorem yJb (h :
 yaI .i64 w A1 fun x1 => yaI .i64 w (Addr.add A1 1) fun x2 => yaI .i64 w (Addr.add A1 2) fun x3 => yaU w (Addr.add A1 3) fun a4 n5 c6 =>
 Calls pP 162 #[(.agg (Z8 x1 x2 x3 a4 n5 c6))] w fun e w7 => ∃ s8 x9, e = .returned (.tuple #[.string s8, .int .i64 x9]) ∧
 Calls pP 23 #[(.pointer (some A0)), .string s8] w7 fun e a3 => ∃ a5 a2, e = .returned (.tuple #[.int .i64 a5, a2]) ∧
 R (.tuple #[]) a3) :
 CR pP 158 #[(.pointer (some A0)), (.pointer (some A1))] w R :=
 yaA Tryz.wide_mixed (an := []) Tryz.func158 rfl rfl (by kernel_rfl) rfl (Eq.mpr (by kernel_rfl) h)
def ysI : LA := ⟨[0, 0, 1, 1, 1], [0, 15, 16, 17], [], 1, [0]⟩
def yuI : List LA := [ysI]
abbrev yJc := dnF pP yuI (code Tryz.f161)
abbrev yLs := yaO pP yuI (code Tryz.f161)
abbrev yJd (p : List Nat) (K : List Kh) (R : VWP) := yaO pP yuI (code Tryz.f161) p K (ya4 pP Tryz.f161 [] R)
def yl8 (a6 : Addr) (a1 : OA) (a3 a2 : Nat) (a4 : Int) (bm0 : Nat) : Int × Int → List Value × List TB := fun (a5, a0) => ([(.pointer (some a6)), .slice a1 a3 a2, .int .i64 a4, .int .i64 a5], [⟨bm0, 3, [.int .i64 a0], true⟩])
abbrev yD3 (a4 : Addr) (a0 : OA) (a2 a1 : Nat) (a3 : Int) (bm0 : Nat) (I : Nat → Int → Int → World → Prop) (m : Nat) : Kh := KG (yl8 a4 a0 a2 a1 a3 bm0) (U2 I) m
theorem yAH {I : Nat → Int → Int → World → Prop} (m' : Nat) (h1 : m' < m) (h2 : I m' i1 i2 w) : KS (yD3 A0 q0 n0 n1 i0 n2 I m) (yl8 A0 q0 n0 n1 i0 n2 (i1, i2)) w := ⟨m', h1, _, rfl, rfl, h2⟩
theorem yAI (I : Nat → Int → Int → World → Prop) (m0 : Nat) (h0 : I m0 i1 i2 w0)
 (hr : ∀ m a1 a0 w, I m a1 a0 w →
 w.heap[n2]? = some (.cells #[.int .i64 a0] 3) →
 brB (decide (a1 < i0)) (
 ixA q0 n0 a1 1 fun b3 =>
 yaQ w b3 fun b4 =>
 ∀ a7, w.heap.size ≤ a7 →
 ∀ a9, Adv [] [a7] w a9 → a9.heap[n2]? = some (.cells #[.int .i64 a0] 3) →
 a9.heap[a7]? = some (.cells #[.string b4] 9) →
 Calls pP 160 #[(.pointer (some A0)), (.pointer (some ⟨a7, 0, none⟩))] a9 fun e b1 => e = .returned (.tuple #[]) ∧ ∃ b2, b1.heap[n2]? = some (.cells #[.int .i64 b2] 3) ∧ ∃ b5, b1.heap[a7]? = some (.cells #[.string b5] 9) ∧
 KS (yD3 A0 q0 n0 n1 i0 n2 I m) (yl8 A0 q0 n0 n1 i0 n2 ((IntKind.wrap .i64 (a1 + 1)), b2)) b1)
 (
 R (.tuple #[]) w)) :
 yaK ysI (yJc 396 [0, 0, 1, 1, 1]) (yJd [1, 1, 1, 0] [] R) (yl8 A0 q0 n0 n1 i0 n2 (i1, i2)) w0 :=
 lrule (yl8 A0 q0 n0 n1 i0 n2) (U2 I) h0 (by rintro m ⟨a1, a0⟩ w h; exact ⟨by kernel_rfl, by kernel_rfl, fun js => Eq.mpr (by kernel_rfl) (hr m a1 a0 w h)⟩)
theorem yJe (h :
 yaU w A1 fun a1 n2 c3 =>
 ∀ b4, w.heap.size ≤ b4 →
 ∀ w5, Adv [] [b4] w w5 → w5.heap[b4]? = some (.cells #[(.int .i64 (n2 : Int))] 3) →
 Calls pP 58 #[(.pointer (some A0)), (.pointer (some ⟨b4, 0, none⟩))] w5 fun e w6 => e = .returned (.tuple #[]) ∧ ∃ x7, w6.heap[b4]? = some (.cells #[.int .i64 x7] 3) ∧
 yaU w6 A1 fun a8 n9 a3 =>
 yaK ysI (yJc 396 [0, 0, 1, 1, 1]) (yJd [1, 1, 1, 0] [] R) (yl8 A0 a8 n9 a3 (n9 : Int) b4 (0, x7)) w6) :
 CR pP 161 #[(.pointer (some A0)), (.pointer (some A1))] w R :=
 yaA Tryz.wide_mixed (an := yuI) Tryz.func161 rfl rfl (by kernel_rfl) rfl (Eq.mpr (by kernel_rfl) h)
theorem yJf (h :
 ∀ w1, Adv [] [] w w1 →
 Calls pP 160 #[(.pointer (some A1)), (.pointer (some A0))] w1 fun e w2 => e = .returned (.tuple #[]) ∧
 ∀ w3, Adv [] [] w2 w3 →
 Calls pP 58 #[(.pointer (some A1)), (.pointer (some (Addr.add A0 1)))] w3 fun e w4 => e = .returned (.tuple #[]) ∧
 R (.tuple #[]) w4) :
 CR pP 60 #[(.iface 101 (.pointer (some A1))), (.pointer (some A0))] w R :=
 yaA Tryz.wide_mixed (an := []) Tryz.func60 rfl rfl (by kernel_rfl) rfl (Eq.mpr (by kernel_rfl) h)
theorem yJg (h :
 ∀ w1, Adv [] [] w w1 →
 Calls pP 160 #[(.pointer (some A1)), (.pointer (some (Addr.add A0 9)))] w1 fun e w2 => e = .returned (.tuple #[]) ∧
 ∀ w3, Adv [] [] w2 w3 →
 Calls pP 160 #[(.pointer (some A1)), (.pointer (some (Addr.add A0 10)))] w3 fun e w4 => e = .returned (.tuple #[]) ∧
 R (.tuple #[]) w4) :
 CR pP 118 #[(.iface 101 (.pointer (some A1))), (.pointer (some A0))] w R :=
 yaA Tryz.wide_mixed (an := []) Tryz.func118 rfl rfl (by kernel_rfl) rfl (Eq.mpr (by kernel_rfl) h)
theorem yJh (h :
 yaI .i64 w A0 fun x1 =>
 brB (x1 == 0) (
 ∀ w2, Adv [] [] w w2 →
 Calls pP 160 #[(.pointer (some A1)), (.pointer (some (Addr.add A0 1)))] w2 fun e w3 => e = .returned (.tuple #[]) ∧
 ∀ w4, Adv [] [] w3 w4 →
 Calls pP 58 #[(.pointer (some A1)), (.pointer (some (Addr.add A0 3)))] w4 fun e w5 => e = .returned (.tuple #[]) ∧
 R (.tuple #[]) w5)
 (
 brB (x1 == 1) (
 brB (x1 == 1) (
 ∀ w6, Adv [] [] w w6 →
 Calls pP 58 #[(.pointer (some A1)), (.pointer (some (Addr.add A0 3)))] w6 fun e w7 => e = .returned (.tuple #[]) ∧
 R (.tuple #[]) w7)
 (
 brB (x1 == 2) (
 Calls pP 60 #[(.iface 101 (.pointer (some A1))), (.pointer (some (Addr.add A0 1)))] w fun e w8 => e = .returned (.tuple #[]) ∧
 ∀ w9, Adv [] [] w8 w9 →
 Calls pP 158 #[(.pointer (some A1)), (.pointer (some (Addr.add A0 5)))] w9 fun e f3 => e = .returned (.tuple #[]) ∧
 R (.tuple #[]) f3)
 (
 brB (x1 == 3) (
 Calls pP 60 #[(.iface 101 (.pointer (some A1))), (.pointer (some (Addr.add A0 1)))] w fun e f4 => e = .returned (.tuple #[]) ∧
 ∀ a9, Adv [] [] f4 a9 →
 Calls pP 58 #[(.pointer (some A1)), (.pointer (some (Addr.add A0 4)))] a9 fun e f5 => e = .returned (.tuple #[]) ∧
 ∀ b0, Adv [] [] f5 b0 →
 Calls pP 58 #[(.pointer (some A1)), (.pointer (some (Addr.add A0 3)))] b0 fun e f6 => e = .returned (.tuple #[]) ∧
 R (.tuple #[]) f6)
 (
 brB (x1 == 4) (
 Calls pP 60 #[(.iface 101 (.pointer (some A1))), (.pointer (some (Addr.add A0 1)))] w fun e f7 => e = .returned (.tuple #[]) ∧
 ∀ b1, Adv [] [] f7 b1 →
 Calls pP 58 #[(.pointer (some A1)), (.pointer (some (Addr.add A0 4)))] b1 fun e f8 => e = .returned (.tuple #[]) ∧
 R (.tuple #[]) f8)
 (
 brB (x1 == 5) (
 Calls pP 60 #[(.iface 101 (.pointer (some A1))), (.pointer (some (Addr.add A0 1)))] w fun e f9 => e = .returned (.tuple #[]) ∧
 R (.tuple #[]) f9)
 (
 brB (x1 == 6) (
 Calls pP 118 #[(.iface 101 (.pointer (some A1))), (.pointer (some A0))] w fun e g0 => e = .returned (.tuple #[]) ∧
 ∀ b2, Adv [] [] g0 b2 →
 Calls pP 58 #[(.pointer (some A1)), (.pointer (some (Addr.add A0 3)))] b2 fun e g1 => e = .returned (.tuple #[]) ∧
 ∀ b3, Adv [] [] g1 b3 →
 Calls pP 159 #[(.pointer (some A1)), (.pointer (some (Addr.add A0 12)))] b3 fun e g2 => e = .returned (.tuple #[]) ∧
 ∀ b4, Adv [] [] g2 b4 →
 Calls pP 161 #[(.pointer (some A1)), (.pointer (some (Addr.add A0 13)))] b4 fun e g3 => e = .returned (.tuple #[]) ∧
 R (.tuple #[]) g3)
 (
 brB (x1 == 7) (
 brB (x1 == 7) (
 Calls pP 118 #[(.iface 101 (.pointer (some A1))), (.pointer (some A0))] w fun e g4 => e = .returned (.tuple #[]) ∧
 ∀ b5, Adv [] [] g4 b5 →
 Calls pP 58 #[(.pointer (some A1)), (.pointer (some (Addr.add A0 11)))] b5 fun e g5 => e = .returned (.tuple #[]) ∧
 R (.tuple #[]) g5)
 (
 brB (x1 == 10) (
 Calls pP 118 #[(.iface 101 (.pointer (some A1))), (.pointer (some A0))] w fun e g6 => e = .returned (.tuple #[]) ∧
 ∀ b6, Adv [] [] g6 b6 →
 Calls pP 58 #[(.pointer (some A1)), (.pointer (some (Addr.add A0 11)))] b6 fun e g7 => e = .returned (.tuple #[]) ∧
 Calls pP 60 #[(.iface 101 (.pointer (some A1))), (.pointer (some (Addr.add A0 1)))] g7 fun e g8 => e = .returned (.tuple #[]) ∧
 ∀ b7, Adv [] [] g8 b7 →
 Calls pP 58 #[(.pointer (some A1)), (.pointer (some (Addr.add A0 4)))] b7 fun e g9 => e = .returned (.tuple #[]) ∧
 R (.tuple #[]) g9)
 (
 brB (x1 == 11) (
 ∀ b8, Adv [] [] w b8 →
 Calls pP 160 #[(.pointer (some A1)), (.pointer (some (Addr.add A0 9)))] b8 fun e h0 => e = .returned (.tuple #[]) ∧
 Calls pP 60 #[(.iface 101 (.pointer (some A1))), (.pointer (some (Addr.add A0 1)))] h0 fun e h1 => e = .returned (.tuple #[]) ∧
 R (.tuple #[]) h1)
 (
 R (.tuple #[]) w))))
 (
 brB (x1 == 8) (
 brB (x1 == 8) (
 Calls pP 118 #[(.iface 101 (.pointer (some A1))), (.pointer (some A0))] w fun e h2 => e = .returned (.tuple #[]) ∧
 ∀ b9, Adv [] [] h2 b9 →
 Calls pP 58 #[(.pointer (some A1)), (.pointer (some (Addr.add A0 11)))] b9 fun e h3 => e = .returned (.tuple #[]) ∧
 R (.tuple #[]) h3)
 (
 brB (x1 == 10) (
 Calls pP 118 #[(.iface 101 (.pointer (some A1))), (.pointer (some A0))] w fun e h4 => e = .returned (.tuple #[]) ∧
 ∀ c0, Adv [] [] h4 c0 →
 Calls pP 58 #[(.pointer (some A1)), (.pointer (some (Addr.add A0 11)))] c0 fun e h5 => e = .returned (.tuple #[]) ∧
 Calls pP 60 #[(.iface 101 (.pointer (some A1))), (.pointer (some (Addr.add A0 1)))] h5 fun e h6 => e = .returned (.tuple #[]) ∧
 ∀ c1, Adv [] [] h6 c1 →
 Calls pP 58 #[(.pointer (some A1)), (.pointer (some (Addr.add A0 4)))] c1 fun e h7 => e = .returned (.tuple #[]) ∧
 R (.tuple #[]) h7)
 (
 brB (x1 == 11) (
 ∀ c2, Adv [] [] w c2 →
 Calls pP 160 #[(.pointer (some A1)), (.pointer (some (Addr.add A0 9)))] c2 fun e h8 => e = .returned (.tuple #[]) ∧
 Calls pP 60 #[(.iface 101 (.pointer (some A1))), (.pointer (some (Addr.add A0 1)))] h8 fun e h9 => e = .returned (.tuple #[]) ∧
 R (.tuple #[]) h9)
 (
 R (.tuple #[]) w))))
 (
 brB (x1 == 9) (
 Calls pP 118 #[(.iface 101 (.pointer (some A1))), (.pointer (some A0))] w fun e u0 => e = .returned (.tuple #[]) ∧
 ∀ c3, Adv [] [] u0 c3 →
 Calls pP 58 #[(.pointer (some A1)), (.pointer (some (Addr.add A0 11)))] c3 fun e u1 => e = .returned (.tuple #[]) ∧
 R (.tuple #[]) u1)
 (
 brB (x1 == 10) (
 Calls pP 118 #[(.iface 101 (.pointer (some A1))), (.pointer (some A0))] w fun e u2 => e = .returned (.tuple #[]) ∧
 ∀ c4, Adv [] [] u2 c4 →
 Calls pP 58 #[(.pointer (some A1)), (.pointer (some (Addr.add A0 11)))] c4 fun e u3 => e = .returned (.tuple #[]) ∧
 Calls pP 60 #[(.iface 101 (.pointer (some A1))), (.pointer (some (Addr.add A0 1)))] u3 fun e u4 => e = .returned (.tuple #[]) ∧
 ∀ c5, Adv [] [] u4 c5 →
 Calls pP 58 #[(.pointer (some A1)), (.pointer (some (Addr.add A0 4)))] c5 fun e u5 => e = .returned (.tuple #[]) ∧
 R (.tuple #[]) u5)
 (
 brB (x1 == 11) (
 ∀ c6, Adv [] [] w c6 →
 Calls pP 160 #[(.pointer (some A1)), (.pointer (some (Addr.add A0 9)))] c6 fun e u6 => e = .returned (.tuple #[]) ∧
 Calls pP 60 #[(.iface 101 (.pointer (some A1))), (.pointer (some (Addr.add A0 1)))] u6 fun e u7 => e = .returned (.tuple #[]) ∧
 R (.tuple #[]) u7)
 (
 R (.tuple #[]) w))))))))))))
 (
 brB (x1 == 12) (
 ∀ c7, Adv [] [] w c7 →
 Calls pP 58 #[(.pointer (some A1)), (.pointer (some (Addr.add A0 3)))] c7 fun e u9 => e = .returned (.tuple #[]) ∧
 R (.tuple #[]) u9)
 (
 brB (x1 == 2) (
 Calls pP 60 #[(.iface 101 (.pointer (some A1))), (.pointer (some (Addr.add A0 1)))] w fun e v0 => e = .returned (.tuple #[]) ∧
 ∀ c8, Adv [] [] v0 c8 →
 Calls pP 158 #[(.pointer (some A1)), (.pointer (some (Addr.add A0 5)))] c8 fun e v1 => e = .returned (.tuple #[]) ∧
 R (.tuple #[]) v1)
 (
 brB (x1 == 3) (
 Calls pP 60 #[(.iface 101 (.pointer (some A1))), (.pointer (some (Addr.add A0 1)))] w fun e v2 => e = .returned (.tuple #[]) ∧
 ∀ c9, Adv [] [] v2 c9 →
 Calls pP 58 #[(.pointer (some A1)), (.pointer (some (Addr.add A0 4)))] c9 fun e v3 => e = .returned (.tuple #[]) ∧
 ∀ d0, Adv [] [] v3 d0 →
 Calls pP 58 #[(.pointer (some A1)), (.pointer (some (Addr.add A0 3)))] d0 fun e v4 => e = .returned (.tuple #[]) ∧
 R (.tuple #[]) v4)
 (
 brB (x1 == 4) (
 Calls pP 60 #[(.iface 101 (.pointer (some A1))), (.pointer (some (Addr.add A0 1)))] w fun e v5 => e = .returned (.tuple #[]) ∧
 ∀ d1, Adv [] [] v5 d1 →
 Calls pP 58 #[(.pointer (some A1)), (.pointer (some (Addr.add A0 4)))] d1 fun e v6 => e = .returned (.tuple #[]) ∧
 R (.tuple #[]) v6)
 (
 brB (x1 == 5) (
 Calls pP 60 #[(.iface 101 (.pointer (some A1))), (.pointer (some (Addr.add A0 1)))] w fun e v7 => e = .returned (.tuple #[]) ∧
 R (.tuple #[]) v7)
 (
 brB (x1 == 6) (
 Calls pP 118 #[(.iface 101 (.pointer (some A1))), (.pointer (some A0))] w fun e v8 => e = .returned (.tuple #[]) ∧
 ∀ d2, Adv [] [] v8 d2 →
 Calls pP 58 #[(.pointer (some A1)), (.pointer (some (Addr.add A0 3)))] d2 fun e v9 => e = .returned (.tuple #[]) ∧
 ∀ d3, Adv [] [] v9 d3 →
 Calls pP 159 #[(.pointer (some A1)), (.pointer (some (Addr.add A0 12)))] d3 fun e w0 => e = .returned (.tuple #[]) ∧
 ∀ d4, Adv [] [] w0 d4 →
 Calls pP 161 #[(.pointer (some A1)), (.pointer (some (Addr.add A0 13)))] d4 fun e w1 => e = .returned (.tuple #[]) ∧
 R (.tuple #[]) w1)
 (
 brB (x1 == 7) (
 brB (x1 == 7) (
 Calls pP 118 #[(.iface 101 (.pointer (some A1))), (.pointer (some A0))] w fun e x0 => e = .returned (.tuple #[]) ∧
 ∀ d5, Adv [] [] x0 d5 →
 Calls pP 58 #[(.pointer (some A1)), (.pointer (some (Addr.add A0 11)))] d5 fun e x2 => e = .returned (.tuple #[]) ∧
 R (.tuple #[]) x2)
 (
 brB (x1 == 10) (
 Calls pP 118 #[(.iface 101 (.pointer (some A1))), (.pointer (some A0))] w fun e x3 => e = .returned (.tuple #[]) ∧
 ∀ d6, Adv [] [] x3 d6 →
 Calls pP 58 #[(.pointer (some A1)), (.pointer (some (Addr.add A0 11)))] d6 fun e x4 => e = .returned (.tuple #[]) ∧
 Calls pP 60 #[(.iface 101 (.pointer (some A1))), (.pointer (some (Addr.add A0 1)))] x4 fun e x5 => e = .returned (.tuple #[]) ∧
 ∀ d7, Adv [] [] x5 d7 →
 Calls pP 58 #[(.pointer (some A1)), (.pointer (some (Addr.add A0 4)))] d7 fun e x6 => e = .returned (.tuple #[]) ∧
 R (.tuple #[]) x6)
 (
 brB (x1 == 11) (
 ∀ d8, Adv [] [] w d8 →
 Calls pP 160 #[(.pointer (some A1)), (.pointer (some (Addr.add A0 9)))] d8 fun e x7 => e = .returned (.tuple #[]) ∧
 Calls pP 60 #[(.iface 101 (.pointer (some A1))), (.pointer (some (Addr.add A0 1)))] x7 fun e x8 => e = .returned (.tuple #[]) ∧
 R (.tuple #[]) x8)
 (
 R (.tuple #[]) w))))
 (
 brB (x1 == 8) (
 brB (x1 == 8) (
 Calls pP 118 #[(.iface 101 (.pointer (some A1))), (.pointer (some A0))] w fun e x9 => e = .returned (.tuple #[]) ∧
 ∀ d9, Adv [] [] x9 d9 →
 Calls pP 58 #[(.pointer (some A1)), (.pointer (some (Addr.add A0 11)))] d9 fun e y0 => e = .returned (.tuple #[]) ∧
 R (.tuple #[]) y0)
 (
 brB (x1 == 10) (
 Calls pP 118 #[(.iface 101 (.pointer (some A1))), (.pointer (some A0))] w fun e y1 => e = .returned (.tuple #[]) ∧
 ∀ a2, Adv [] [] y1 a2 →
 Calls pP 58 #[(.pointer (some A1)), (.pointer (some (Addr.add A0 11)))] a2 fun e e0 => e = .returned (.tuple #[]) ∧
 Calls pP 60 #[(.iface 101 (.pointer (some A1))), (.pointer (some (Addr.add A0 1)))] e0 fun e e1 => e = .returned (.tuple #[]) ∧
 ∀ a3, Adv [] [] e1 a3 →
 Calls pP 58 #[(.pointer (some A1)), (.pointer (some (Addr.add A0 4)))] a3 fun e e2 => e = .returned (.tuple #[]) ∧
 R (.tuple #[]) e2)
 (
 brB (x1 == 11) (
 ∀ a4, Adv [] [] w a4 →
 Calls pP 160 #[(.pointer (some A1)), (.pointer (some (Addr.add A0 9)))] a4 fun e e3 => e = .returned (.tuple #[]) ∧
 Calls pP 60 #[(.iface 101 (.pointer (some A1))), (.pointer (some (Addr.add A0 1)))] e3 fun e e4 => e = .returned (.tuple #[]) ∧
 R (.tuple #[]) e4)
 (
 R (.tuple #[]) w))))
 (
 brB (x1 == 9) (
 Calls pP 118 #[(.iface 101 (.pointer (some A1))), (.pointer (some A0))] w fun e e5 => e = .returned (.tuple #[]) ∧
 ∀ a5, Adv [] [] e5 a5 →
 Calls pP 58 #[(.pointer (some A1)), (.pointer (some (Addr.add A0 11)))] a5 fun e e6 => e = .returned (.tuple #[]) ∧
 R (.tuple #[]) e6)
 (
 brB (x1 == 10) (
 Calls pP 118 #[(.iface 101 (.pointer (some A1))), (.pointer (some A0))] w fun e e7 => e = .returned (.tuple #[]) ∧
 ∀ a6, Adv [] [] e7 a6 →
 Calls pP 58 #[(.pointer (some A1)), (.pointer (some (Addr.add A0 11)))] a6 fun e e8 => e = .returned (.tuple #[]) ∧
 Calls pP 60 #[(.iface 101 (.pointer (some A1))), (.pointer (some (Addr.add A0 1)))] e8 fun e e9 => e = .returned (.tuple #[]) ∧
 ∀ a7, Adv [] [] e9 a7 →
 Calls pP 58 #[(.pointer (some A1)), (.pointer (some (Addr.add A0 4)))] a7 fun e f0 => e = .returned (.tuple #[]) ∧
 R (.tuple #[]) f0)
 (
 brB (x1 == 11) (
 ∀ a8, Adv [] [] w a8 →
 Calls pP 160 #[(.pointer (some A1)), (.pointer (some (Addr.add A0 9)))] a8 fun e f1 => e = .returned (.tuple #[]) ∧
 Calls pP 60 #[(.iface 101 (.pointer (some A1))), (.pointer (some (Addr.add A0 1)))] f1 fun e f2 => e = .returned (.tuple #[]) ∧
 R (.tuple #[]) f2)
 (
 R (.tuple #[]) w)))))))))))))) :
 CR pP 93 #[(.iface 101 (.pointer (some A1))), (.pointer (some A0))] w R :=
 yaA Tryz.wide_mixed (an := []) Tryz.func93 rfl rfl (by kernel_rfl) rfl (Eq.mpr (by kernel_rfl) h)
theorem yJi {b0 : BA} {b9 a6 : BA} (h :
 ∀ b1, w.heap.size ≤ b1 →
 ∀ w2, Adv [] [b1] w w2 →
 Calls pP 92 #[(.agg (Z1 i0 b0 i1 i2 i3 i4 i5 i6 q0 n0 n1 b9 a6 i7 B0 q1 n2 n3))] w2 fun e w3 => ∃ x4, e = .returned (.int .i64 x4) ∧ yaE [b1] w2 w3 ∧
 brB (x4 != 0) (
 R (.tuple #[(.string (⟨#[]⟩ : BA)), .int .i64 x4]) w3)
 (
 ∀ b5, w3.heap.size ≤ b5 →
 ∀ w6, Adv [] [b5] w3 w6 → w6.heap[b1]? = some (.cells (Z1 i0 b0 i1 i2 i3 i4 i5 i6 q0 n0 n1 b9 a6 i7 B0 q1 n2 n3) 49) →
 w6.heap[b5]? = some (.cells #[.pointer none, .slice none 0 0] 103) →
 Calls pP 58 #[(.pointer (some ⟨b5, 0, none⟩)), (.pointer (some ⟨b1, 0, none⟩))] w6 fun e w7 => e = .returned (.tuple #[]) ∧ ∃ x8 s9 g4 g5 g6 g7 g8 g9 c3 e1 d2 f3 f4 h0 g1 c4 e2 d3, w7.heap[b1]? = some (.cells (Z1 x8 s9 g4 g5 g6 g7 g8 g9 c3 e1 d2 f3 f4 h0 g1 c4 e2 d3) 49) ∧ ∃ f0 c5 e3 d4, w7.heap[b5]? = some (.cells #[.pointer f0, .slice c5 e3 d4] 103) ∧
 Calls pP 93 #[(.iface 101 (.pointer (some ⟨b5, 0, none⟩))), (.pointer (some ⟨b1, 0, none⟩))] w7 fun e c0 => e = .returned (.tuple #[]) ∧ ∃ h1 f5 h2 h3 h4 h5 h6 h7 c6 e4 d5 f6 f7 h8 g2 c7 e5 d6, c0.heap[b1]? = some (.cells (Z1 h1 f5 h2 h3 h4 h5 h6 h7 c6 e4 d5 f6 f7 h8 g2 c7 e5 d6) 49) ∧ ∃ f1 c8 e6 d7, c0.heap[b5]? = some (.cells #[.pointer f1, .slice c8 e6 d7] 103) ∧
 Calls pP 27 #[(.pointer (some ⟨b5, 0, none⟩))] c0 fun e c1 => ∃ c2, e = .returned (.string c2) ∧ ∃ h9 f8 u0 u1 u2 u3 u4 u5 c9 e7 d8 f9 g0 u6 g3 d0 e8 d9, c1.heap[b1]? = some (.cells (Z1 h9 f8 u0 u1 u2 u3 u4 u5 c9 e7 d8 f9 g0 u6 g3 d0 e8 d9) 49) ∧ ∃ f2 d1 e9 e0, c1.heap[b5]? = some (.cells #[.pointer f2, .slice d1 e9 e0] 103) ∧
 R (.tuple #[.string c2, .int .i64 0]) c1)) :
 CR pP 56 #[(.agg (Z1 i0 b0 i1 i2 i3 i4 i5 i6 q0 n0 n1 b9 a6 i7 B0 q1 n2 n3))] w R :=
 yaA Tryz.wide_mixed (an := []) Tryz.func56 rfl rfl (by kernel_rfl) rfl (Eq.mpr (by kernel_rfl) h)
end
end Go.Proofs.YtkbcmppbjfpjmaaGreat
