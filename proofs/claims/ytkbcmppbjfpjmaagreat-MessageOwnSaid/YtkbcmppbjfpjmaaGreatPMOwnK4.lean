/- Part 4 of the proof of PMOwn. -/
import Derived.Test.YtkbcmppbjfpjmaaGreatPMOwnK3
namespace Go.Proofs.YtkbcmppbjfpjmaaGreat
open Go Go.RowKit
set_option linter.all false
section
set_option maxRecDepth 100000
variable {R : VWP} {w w0 : World} {m : Nat} {i0 i1 i2 i3 i4 i5 i6 i7 i8 i9 j0 j1 j2 j3 j4 j5 j6 j7 j8 j9 k0 k1 k2 k3 k4 k5 k6 k7 k8 k9 l0 l1 l2 l3 l4 l5 l6 l7 l8 l9 : Int} {s0 s1 s2 s3 s4 s5 s6 s7 s8 s9 t0 t1 t2 t3 t4 t5 t6 t7 t8 t9 : BA} {n0 n1 n2 n3 n4 n5 n6 n7 n8 n9 o0 o1 o2 o3 o4 o5 o6 o7 o8 o9 p0 p1 p2 p3 p4 p5 p6 p7 p8 p9 : Nat} {q0 q1 q2 q3 q4 q5 q6 q7 q8 q9 r0 r1 r2 r3 r4 r5 r6 r7 r8 r9 : OA} {B0 B1 B2 B3 B4 B5 B6 B7 B8 B9 : Bool} {M0 M1 M2 M3 : Option Nat} {V0 V1 V2 V3 V4 V5 : Value} {A0 A1 A2 : Addr}
theorem yHw (h :
 ∀ b1, w.heap.size ≤ b1 →
 ∀ w2, Adv [] [b1] w w2 →
 Calls pP 79 #[.string s0, .int .i64 0] w2 fun e w3 => ∃ x4 x5 x6, e = .returned (.tuple #[.int .u64 x4, .int .i64 x5, .int .i64 x6]) ∧ yaI [b1] w2 w3 ∧
 brB (x6 != 0) (
 ∀ w7, Adv [b1] [] w3 w7 →
 R (.agg (Z5 0 0 0 ByteArray.empty 0 0 0 0 0 0 none 0 0 ByteArray.empty ByteArray.empty 0 false none 0 0)) w7)
 (
 Calls pP 79 #[.string s0, .int .i64 x5] w3 fun e w8 => ∃ x9 b8 b9, e = .returned (.tuple #[.int .u64 x9, .int .i64 b8, .int .i64 b9]) ∧ yaI [b1] w3 w8 ∧
 brB (b9 != 0) (
 ∀ b6, Adv [b1] [] w8 b6 →
 R (.agg (Z5 0 0 0 ByteArray.empty 0 0 0 0 0 0 none 0 0 ByteArray.empty ByteArray.empty 0 false none 0 0)) b6)
 (
 Calls pP 78 (Z2 s0 b8 65536) w8 fun e a1 => ∃ b0 c8 c9, e = .returned (.tuple (Z2 b0 c8 c9)) ∧ yaI [b1] w8 a1 ∧
 Calls pP 131 #[.string b0] a1 fun e a2 => ∃ c0 b2 c1 c2 c3 c4 c5 c6 a3 a8 a6 b3 b4 c7 b5 a4 a9 a7 d0, e = .returned (.tuple #[(.agg (Z1 c0 b2 c1 c2 c3 c4 c5 c6 a3 a8 a6 b3 b4 c7 b5 a4 a9 a7)), .int .i64 d0]) ∧ yaI [b1] a1 a2 ∧
 ∀ a5, a2.heap.size ≤ a5 →
 ∀ b7, Adv [b1] [a5] a2 b7 →
 R (.agg (Z5 (IntKind.wrap .i64 x4) (IntKind.wrap .i64 x9) c0 b2 c1 c2 c3 c4 c5 c6 a3 a8 a6 b3 b4 c7 b5 a4 a9 a7)) b7))) :
 CR pP 111 #[.string s0] w R :=
 yaA Tryz.wide_mixed (an := []) Tryz.func111 rfl rfl (by kernel_rfl) rfl (Eq.mpr (by kernel_rfl) h)
def yrF : LA := ⟨[0, 0, 1, 0, 1, 1, 1], [0, 4, 5, 6, 7, 8], [], 0, []⟩
def ys3 : List LA := [yrF]
abbrev yHx := dnF pP ys3 (code Tryz.f80)
abbrev yJy := yaO pP ys3 (code Tryz.f80)
abbrev yHy (p : List Nat) (K : List Kh) (R : VWP) := yaO pP ys3 (code Tryz.f80) p K (ya4 pP Tryz.f80 [] R)
def ylI (a3 : BA) (a4 : Int) : Int × Int × (Option Addr) × Nat × Nat × Int → List Value × List TB := fun (a5, a6, a0, a2, a1, a7) => ([.string a3, .int .u64 a4, .int .i64 a5, .int .i64 a6, .slice a0 a2 a1, .int .u64 a7], [])
abbrev yCG (a0 : BA) (a1 : Int) (I : Nat → Int → Int → Option Addr → Nat → Nat → Int → World → Prop) (m : Nat) : Kh := KG (ylI a0 a1) (U6 I) m
theorem yzH {I : Nat → Int → Int → Option Addr → Nat → Nat → Int → World → Prop} (m' : Nat) (h1 : m' < m) (h2 : I m' i1 i2 q0 n0 n1 i3 w) : KS (yCG s0 i0 I m) (ylI s0 i0 (i1, i2, q0, n0, n1, i3)) w := ⟨m', h1, _, rfl, rfl, h2⟩
theorem yzI {a3 : BA} (I : Nat → Int → Int → Option Addr → Nat → Nat → Int → World → Prop) (m0 : Nat) (h0 : I m0 i1 i2 q0 n0 n1 i3 w0)
 (hr : ∀ m a9 a4 a0 a2 a1 a6 w, I m a9 a4 a0 a2 a1 a6 w →
 brB (decide (a6 < i0)) (
 brB (a4 == 0) (
 Calls pP 41 (Z2 a3 a9 65536) w fun e w5 => ∃ s6 x7 x8, e = .returned (.tuple (Z2 s6 x7 x8)) ∧
 Calls pP 111 #[.string s6] w5 fun e w9 => ∃ c8 c9 d0 c2 d1 d2 d3 d4 d5 d6 b6 c0 b8 c3 c4 d7 c7 b7 c1 b9, e = .returned (.agg (Z5 c8 c9 d0 c2 d1 d2 d3 d4 d5 d6 b6 c0 b8 c3 c4 d7 c7 b7 c1 b9)) ∧
 al w9 (.cells (Z5 c8 c9 d0 c2 d1 d2 d3 d4 d5 d6 b6 c0 b8 c3 c4 d7 c7 b7 c1 b9) 51) fun e1 e4 =>
 ycN pP (Builtin.append_ #[22, 22] 22 #[.slice a0 a2 a1, (.slice (some ⟨e1, 0, none⟩) 1 1)]) e4 fun e0 e3 e2 e5 =>
 KS (yCG a3 i0 I m) (ylI a3 i0 (x7, x8, e0, e3, e2, (IntKind.wrap .u64 (a6 + 1)))) e5)
 (
 Calls pP 25 #[.slice a0 a2 a1] w fun e a7 => ∃ c5 d8, e = .returned (.tuple #[.string c5, .int .i64 d8]) ∧
 brB (a4 != 0) (
 R (.tuple #[.slice none 0 0, .int .i64 162]) a7)
 (
 brB (d8 != 0) (
 R (.tuple #[.slice none 0 0, .int .i64 162]) a7)
 (
 brB (!(c5.toList == a3.toList)) (
 R (.tuple #[.slice none 0 0, .int .i64 162]) a7)
 (
 R (.tuple #[.slice a0 a2 a1, .int .i64 0]) a7)))))
 (
 Calls pP 25 #[.slice a0 a2 a1] w fun e a8 => ∃ c6 d9, e = .returned (.tuple #[.string c6, .int .i64 d9]) ∧
 brB (a4 != 0) (
 R (.tuple #[.slice none 0 0, .int .i64 162]) a8)
 (
 brB (d9 != 0) (
 R (.tuple #[.slice none 0 0, .int .i64 162]) a8)
 (
 brB (!(c6.toList == a3.toList)) (
 R (.tuple #[.slice none 0 0, .int .i64 162]) a8)
 (
 R (.tuple #[.slice a0 a2 a1, .int .i64 0]) a8))))) :
 yaJ yrF (yHx 395 [0, 0, 1, 0, 1, 1, 1]) (yHy [1, 1, 1, 0, 1, 0] [] R) (ylI a3 i0 (i1, i2, q0, n0, n1, i3)) w0 :=
 lrule (ylI a3 i0) (U6 I) h0 (by rintro m ⟨a9, a4, a0, a2, a1, a6⟩ w h; exact ⟨by kernel_rfl, by kernel_rfl, fun js => Eq.mpr (by kernel_rfl) (hr m a9 a4 a0 a2 a1 a6 w h)⟩)
theorem yHz (h :
 Calls pP 79 #[.string s0, .int .i64 0] w fun e w1 => ∃ x2 x3 x4, e = .returned (.tuple #[.int .u64 x2, .int .i64 x3, .int .i64 x4]) ∧
 yaJ yrF (yHx 395 [0, 0, 1, 0, 1, 1, 1]) (yHy [1, 1, 1, 0, 1, 0] [] R) (ylI s0 x2 (x3, x4, none, 0, 0, 0)) w1) :
 CR pP 80 #[.string s0] w R :=
 yaA Tryz.wide_mixed (an := ys3) Tryz.func80 rfl rfl (by kernel_rfl) rfl (Eq.mpr (by kernel_rfl) h)
theorem yHA {c5 : BA} {b4 b5 : BA} {d5 : BA} {b8 b9 : BA} (h :
 ∀ b1, w.heap.size ≤ b1 →
 ∀ b2, w.heap.size ≤ b2 →
 brB (i0 == j0) (
 brB (i1 == j1) (
 ∀ w3, Adv [] [b2, b1] w w3 →
 Calls pP 72 #[(.agg (Z1 i2 c5 i3 i4 i5 i6 i7 i8 q0 n0 n1 b4 b5 i9 B0 q1 n2 n3)), (.agg (Z1 j2 d5 j3 j4 j5 j6 j7 j8 q2 n4 n5 b8 b9 j9 B1 q3 n6 n7))] w3 fun e w4 => ∃ t5, e = .returned (.bool t5) ∧ yaI [b1, b2] w3 w4 ∧
 R (.bool t5) w4)
 (
 ∀ w6, Adv [] [b2, b1] w w6 →
 R (.bool false) w6))
 (
 ∀ w7, Adv [] [b2, b1] w w7 →
 R (.bool false) w7)) :
 CR pP 71 #[(.agg (Z5 i0 i1 i2 c5 i3 i4 i5 i6 i7 i8 q0 n0 n1 b4 b5 i9 B0 q1 n2 n3)), (.agg (Z5 j0 j1 j2 d5 j3 j4 j5 j6 j7 j8 q2 n4 n5 b8 b9 j9 B1 q3 n6 n7))] w R :=
 yaA Tryz.wide_mixed (an := []) Tryz.func71 rfl rfl (by kernel_rfl) rfl (Eq.mpr (by kernel_rfl) h)
theorem yHB (h :
 Calls pP 70 #[.slice q0 n0 n1, .slice q1 n2 n3, (.func (.func 71) #[] #[])] w fun e w1 => ∃ t2, e = .returned (.bool t2) ∧
 R (.bool t2) w1) :
 CR pP 37 #[.slice q0 n0 n1, .slice q1 n2 n3] w R :=
 yaA Tryz.wide_mixed (an := []) Tryz.func37 rfl rfl (by kernel_rfl) rfl (Eq.mpr (by kernel_rfl) h)
def yrG : LA := ⟨[0, 0, 1, 0, 1, 1], [1, 2, 15, 16, 17], [], 0, []⟩
def ys4 : List LA := [yrG]
abbrev yHC := dnF pP ys4 (code Tryz.f70)
abbrev yJz := yaO pP ys4 (code Tryz.f70)
abbrev yHD (p : List Nat) (K : List Kh) (R : VWP) := yaO pP ys4 (code Tryz.f70) p K (ya4 pP Tryz.f70 [] R)
def ylJ (a5 : OA) (a7 a6 : Nat) (a0 : OA) (a2 a1 : Nat) (a3 : Int) : Int → List Value × List TB := fun a4 => ([.slice a5 a7 a6, (.func (.func 71) #[] #[]), .slice a0 a2 a1, .int .i64 a3, .int .i64 a4], [])
abbrev yCH (a4 : OA) (a6 a5 : Nat) (a0 : OA) (a2 a1 : Nat) (a3 : Int) (I : Nat → Int → World → Prop) (m : Nat) : Kh := KG (ylJ a4 a6 a5 a0 a2 a1 a3) (U1 I) m
theorem yzJ {I : Nat → Int → World → Prop} (m' : Nat) (h1 : m' < m) (h2 : I m' i1 w) : KS (yCH q0 n0 n1 q1 n2 n3 i0 I m) (ylJ q0 n0 n1 q1 n2 n3 i0 i1) w := ⟨m', h1, _, rfl, rfl, h2⟩
theorem yzK {a7 : OA} {a3 : OA} (I : Nat → Int → World → Prop) (m0 : Nat) (h0 : I m0 i1 w0)
 (hr : ∀ m a2 w, I m a2 w →
 brB (decide (a2 < i0)) (
 ixA a3 n2 a2 16 fun q1 =>
 yaF .i64 w q1 fun x2 => yaF .i64 w (Addr.add q1 1) fun x3 => yaF .i64 w (Addr.add q1 2) fun x4 => yaP w (Addr.add q1 3) fun s5 => yaF .i64 w (Addr.add q1 4) fun x6 => yaF .i64 w (Addr.add q1 5) fun x7 => yaF .i64 w (Addr.add q1 6) fun x8 => yaF .i64 w (Addr.add q1 7) fun x9 => yaF .i64 w (Addr.add q1 8) fun d5 => yaF .i64 w (Addr.add q1 9) fun d6 => yaR w (Addr.add q1 10) fun b6 c4 c0 => yaP w (Addr.add q1 11) fun c8 => yaP w (Addr.add q1 12) fun c9 => yaF .i64 w (Addr.add q1 13) fun d7 => yaU w (Addr.add q1 14) fun d3 => yaR w (Addr.add q1 15) fun b7 c5 c1 =>
 ∀ b1, w.heap.size ≤ b1 →
 ixA a7 n0 a2 16 fun a1 =>
 ∀ a0, Adv [] [b1] w a0 →
 yaF .i64 a0 a1 fun d8 => yaF .i64 a0 (Addr.add a1 1) fun d9 => yaF .i64 a0 (Addr.add a1 2) fun e0 => yaP a0 (Addr.add a1 3) fun d0 => yaF .i64 a0 (Addr.add a1 4) fun e1 => yaF .i64 a0 (Addr.add a1 5) fun e2 => yaF .i64 a0 (Addr.add a1 6) fun e3 => yaF .i64 a0 (Addr.add a1 7) fun e4 => yaF .i64 a0 (Addr.add a1 8) fun e5 => yaF .i64 a0 (Addr.add a1 9) fun e6 => yaR a0 (Addr.add a1 10) fun b8 c6 c2 => yaP a0 (Addr.add a1 11) fun d1 => yaP a0 (Addr.add a1 12) fun d2 => yaF .i64 a0 (Addr.add a1 13) fun e7 => yaU a0 (Addr.add a1 14) fun d4 => yaR a0 (Addr.add a1 15) fun b9 c7 c3 =>
 ∀ b2, a0.heap.size ≤ b2 →
 ∀ b3, Adv [] [b2] a0 b3 →
 Calls pP 71 #[(.agg (Z5 x2 x3 x4 s5 x6 x7 x8 x9 d5 d6 b6 c4 c0 c8 c9 d7 d3 b7 c5 c1)), (.agg (Z5 d8 d9 e0 d0 e1 e2 e3 e4 e5 e6 b8 c6 c2 d1 d2 e7 d4 b9 c7 c3))] b3 fun e b4 => ∃ b5, e = .returned (.bool b5) ∧ yaI [b1, b2] b3 b4 ∧
 brB (!b5) (
 R (.bool false) b4)
 (
 KS (yCH a7 n0 n1 a3 n2 n3 i0 I m) (ylJ a7 n0 n1 a3 n2 n3 i0 (IntKind.wrap .i64 (a2 + 1))) b4))
 (
 R (.bool true) w)) :
 yaJ yrG (yHC 396 [0, 0, 1, 0, 1, 1]) (yHD [1, 1, 0, 1, 0] [] R) (ylJ a7 n0 n1 a3 n2 n3 i0 i1) w0 :=
 lrule (ylJ a7 n0 n1 a3 n2 n3 i0) (U1 I) h0 (by rintro m a2 w h; exact ⟨by kernel_rfl, by kernel_rfl, fun js => Eq.mpr (by kernel_rfl) (hr m a2 w h)⟩)
theorem yHE (h :
 brB ((n0 : Int) != (n2 : Int)) (
 R (.bool false) w)
 (
 yaJ yrG (yHC 396 [0, 0, 1, 0, 1, 1]) (yHD [1, 1, 0, 1, 0] [] R) (ylJ q1 n2 n3 q0 n0 n1 (n0 : Int) 0) w)) :
 CR pP 70 #[.slice q0 n0 n1, .slice q1 n2 n3, (.func (.func 71) #[] #[])] w R :=
 yaA Tryz.wide_mixed (an := ys4) Tryz.func70 rfl rfl (by kernel_rfl) rfl (Eq.mpr (by kernel_rfl) h)
end
end Go.Proofs.YtkbcmppbjfpjmaaGreat
namespace Go.Proofs.YtkbcmppbjfpjmaaGreat
open Go Go.RowKit Go.Shelf
set_option linter.unusedVariables false
set_option linter.unusedSimpArgs false
def yAK (n : Int) : Bool := decide (n < 1 ∨ n > 1099511627776)
theorem yzL (n : Int) (w : World) : Calls pP 89 #[.int .i64 n] w fun e w' => e = .returned (.bool (yAK n)) ∧ w' = w := by
 refine yaQ (yGL ?_)
 refine yaC (fun h => ⟨?_, rfl⟩) fun h => ⟨?_, rfl⟩
 ·congr 1; symm; simp [yAK]; omega
 ·congr 1; rw [yAK]; congr 1; apply propext; omega
set_option maxRecDepth 100000 in
set_option maxHeartbeats 2000000 in
theorem yBv {w : World} {b1 : Nat} {T : TypeId} (h : w.heap[b1]? = some (.cells #[.func (.func 89) #[] #[]] T)) (c n : Int) (v2 v3 v4 v5 v6 v7 v8 v9 v10 v11 v12 v13 v14 v15 : Value) :
  Calls pP 91 #[.agg #[.int .i64 c, .int .i64 n, v2, v3, v4, v5, v6, v7, v8, v9, v10, v11, v12, v13, v14, v15], .pointer (some ⟨b1, 0, none⟩)] w fun e w' => e = .returned (.bool (yAK c || yAK n)) ∧ Mod [] w w' := by
 have mixed := Tryz.wide_mixed
 have hM : Mod [] w (w.alloc (.cells #[.int .i64 c, .int .i64 n, v2, v3, v4, v5, v6, v7, v8, v9, v10, v11, v12, v13, v14, v15] 51)) := Mod.of_below ((Below.refl _ _).alloc (Nat.le_refl _) _)
 have hN := World.alloc_heap_new w (.cells #[.int .i64 c, .int .i64 n, v2, v3, v4, v5, v6, v7, v8, v9, v10, v11, v12, v13, v14, v15] 51)
 have c0 : (w.alloc (.cells #[.int .i64 c, .int .i64 n, v2, v3, v4, v5, v6, v7, v8, v9, v10, v11, v12, v13, v14, v15] 51)).cell? ⟨b1, 0, none⟩ = some (.func (.func 89) #[] #[]) := by rw [yaY (hM.keep0 h)]; rfl
 have c1 : (w.alloc (.cells #[.int .i64 c, .int .i64 n, v2, v3, v4, v5, v6, v7, v8, v9, v10, v11, v12, v13, v14, v15] 51)).cell? ⟨w.heap.size, 0, none⟩ = some (.int .i64 c) := by rw [yaY hN]; rfl
 have c2 : (w.alloc (.cells #[.int .i64 c, .int .i64 n, v2, v3, v4, v5, v6, v7, v8, v9, v10, v11, v12, v13, v14, v15] 51)).cell? ⟨w.heap.size, 1, none⟩ = some (.int .i64 n) := by rw [yaY hN]; rfl
 go_enter Tryz.func91, Tryz.ntmps91
 go_wp2_with fail
 refine (yzL _ _).mono ?_
 rintro _ w' ⟨rfl, rfl⟩
 cases hc : yAK c with
 | true =>
  go_wp2
  go_ret
  exact ⟨by rw [hc]; rfl, hM⟩
 | false =>
  go_wp2_with fail
  refine (yzL _ _).mono ?_
  rintro _ w' ⟨rfl, rfl⟩
  go_wp2
  go_ret
  exact ⟨by rw [hc]; rfl, hM⟩
def ymR (x : PCall) : Bool := yAK x.c || yAK x.n
def yfG (xs : List PCall) : Int := if xs.any ymR then 1 else match xs.find? fun x => opE x.op ≠ 0 with
 | none => 0
 | some x => opE x.op
structure CsAt (w : World) (s : Sl) (ll : List CV) : Prop where
 sl : ybS w 16 CV.cs s.a s.n ll
 op : ∀ q ∈ ll, OpAt w q.x.op q.rs q.ts
theorem yDQ {w : World} {b1 : Nat} {T : TypeId} (h : w.heap[b1]? = some (.cells #[.func (.func 89) #[] #[]] T)) (q : CV) :
 Calls pP 91 #[q.v, .pointer (some ⟨b1, 0, none⟩)] w fun e w' => e = .returned (.bool (ymR q.x)) ∧ Mod [] w w' := yBv h _ _ _ _ _ _ _ _ _ _ _ _ _ _ _ _
theorem yBw {α : Type} {p : α → Bool} {l : List α} {k : Nat} {x : α} (h : l[k]? = some x) : (l.take (k + 1)).any p = ((l.take k).any p || p x) := by
 rw [List.take_add_one, h]; simp
theorem ypB {w : World} {b1 : Nat} {s : Sl} {ll : List CV} (h : w.heap[b1]? = some (.cells #[.func (.func 89) #[] #[]] 78)) (hs : ybS w 16 CV.cs s.a s.n ll) (hl : ll.length ≤ 1000000) :
  Calls pP 117 #[.slice s.a s.n s.c, .func (.func 91) #[] #[.pointer (some ⟨b1, 0, none⟩)]] w fun e w' => ∃ v, e = .returned v ∧ ∃ x : Int, v = .int .i64 x ∧ (decide (x ≥ 0) = ll.any fun q => ymR q.x) ∧ Mod [] w w' := by
 have hn := hs.1
 refine yGP ?_
 refine yyS (fun mm x w' => ∃ k : Nat, x = k ∧ k ≤ ll.length ∧ Mod [] w w' ∧ ((ll.take k).any fun q => ymR q.x) = false ∧ mm = ll.length - k) ll.length ⟨0, rfl, by omega, Mod.refl _, by simp, rfl⟩ ?_
 rintro mm x w' ⟨k, rfl, hk, M, ha, rfl⟩
 refine yaC (fun hlt => ?_) fun hge => ?_
 ·obtain ⟨q, hq⟩ : ∃ q, ll[k]? = some q := ⟨_, List.getElem?_eq_getElem (by omega)⟩
  refine (hs.keep0 M).ix hq fun ad had => yjJ had ?_
  refine (yDQ (M.keep0 h) q).mono ?_
  rintro _ w2 ⟨rfl, M2⟩
  have e1 := yBw (p := fun q : CV => ymR q.x) hq
  rw [ha, Bool.false_or] at e1
  refine ⟨_, rfl, yaB (fun g => ?_) fun g => ?_⟩
  ·refine ⟨k, rfl, ?_, M.go0 M2 (by simp)⟩
   have h1 : (ll.any fun q => ymR q.x) = true := List.any_eq_true.2 ⟨q, List.mem_of_getElem? hq, g⟩
   rw [h1]; simp
  ·exact yyR (ll.length - (k + 1)) (by omega) ⟨k + 1, by rw [yaG (by omega) (by omega)]; omega, by omega, M.go0 M2 (by simp), by rw [e1]; exact g, rfl⟩
 ·have hk : k = ll.length := by omega
  subst hk
  rw [List.take_length] at ha
  exact ⟨-1, rfl, by rw [ha]; rfl, M⟩
theorem yjK {w : World} {b1 : Nat} {s : Sl} {ll : List CV} (h : w.heap[b1]? = some (.cells #[.func (.func 89) #[] #[]] 78)) (hs : ybS w 16 CV.cs s.a s.n ll) (hl : ll.length ≤ 1000000) :
  Calls pP 90 #[.slice s.a s.n s.c, .func (.func 91) #[] #[.pointer (some ⟨b1, 0, none⟩)]] w fun e w' => e = .returned (.bool (ll.any fun q => ymR q.x)) ∧ Mod [] w w' := by
 refine yaQ (yGM ?_)
 refine (ypB h hs hl).mono ?_
 rintro _ w1 ⟨_, rfl, x, rfl, hx, M⟩
 exact ⟨_, rfl, by rw [← hx], M⟩
theorem yzM {l : List CV} {k : Nat} (h : ∀ q ∈ l.take k, opE q.x.op = 0) {q : CV} (hq : l[k]? = some q) (he : opE q.x.op ≠ 0) : (l.map (·.x)).find? (fun x => opE x.op ≠ 0) = some q.x := by
 have hk := (List.getElem?_eq_some_iff.1 hq).1
 have e : l = l.take k ++ q :: l.drop (k + 1) := by
  rw [← (List.getElem?_eq_some_iff.1 hq).2, ← List.drop_eq_getElem_cons hk, List.take_append_drop]
 rw [e, List.map_append, List.find?_append]
 have h0 : ((l.take k).map (·.x)).find? (fun x => opE x.op ≠ 0) = none := by
  rw [List.find?_eq_none]
  intro x hx
  obtain ⟨q', hq', rfl⟩ := List.mem_map.1 hx
  simpa using h q' hq'
 rw [h0]
 simp [he]
theorem yuF {w : World} {s : Sl} {ll : List CV} (h : CsAt w s ll) (hl : ll.length ≤ 1000000) :
  Calls pP 55 #[.slice s.a s.n s.c] w fun e w' => e = .returned (.int .i64 (yfG (ll.map (·.x)))) ∧ Mod [] w w' := by
 have hn := h.sl.1
 refine yaQ (yGK ?_)
 intro b1 f1 w2 A2 h2
 refine (yjK h2 (h.sl.keep0 A2.mod) hl).mono ?_
 rintro _ w3 ⟨rfl, M3⟩
 have N3 := A2.mod.go0 M3 (by simp)
 have ea : ((ll.map (·.x)).any ymR) = ll.any fun q => ymR q.x := by rw [List.any_map]; rfl
 refine ⟨_, rfl, _, M3.keep0 h2, yaB (fun g => ?_) fun g => ?_⟩
 ·refine ⟨?_, N3⟩
  rw [yfG, ea, g]; rfl
 have hE : yfG (ll.map (·.x)) = match (ll.map (·.x)).find? fun x => opE x.op ≠ 0 with
   | none => 0
   | some x => opE x.op := by rw [yfG, ea, g]; rfl
 refine yyQ (fun mm x v w' => ∃ k : Nat, x = k ∧ k ≤ ll.length ∧ Mod [] w w' ∧ b1 < w'.heap.size ∧ (∀ q ∈ ll.take k, opE q.x.op = 0) ∧ mm = ll.length - k) ll.length ⟨0, rfl, by omega, N3, yaT (M3.keep0 h2), by simp, rfl⟩ ?_
 rintro mm x v w4 ⟨k, rfl, hk, M4, lb, hz, rfl⟩ h4
 refine yaC (fun hlt => ?_) fun hge => ?_
 ·obtain ⟨q, hq⟩ : ∃ q, ll[k]? = some q := ⟨_, List.getElem?_eq_getElem (by omega)⟩
  refine (h.sl.keep0 M4).ix hq fun ad had => yjJ had ?_
  intro b5 f5 w5 A5 h5
  have l5 := A5.lt b5 (by simp)
  have s5 := A5.mod.size
  have N5 := M4.go0 A5.mod (by simp)
  refine (ysK ((h.op q (List.mem_of_getElem? hq)).keep0 N5)).mono ?_
  rintro _ w6 ⟨rfl, M6⟩
  have N6 := N5.go0 M6 (by simp)
  have s6 := M6.size
  refine ⟨_, rfl, yaI.of0 M6, _, M6.keep0 h5, yaB (fun g2 => ?_) fun g2 => ?_⟩
  ·have g2 : opE q.x.op ≠ 0 := by simpa using g2
   refine ⟨?_, N6⟩
   rw [hE, yzM hz hq g2]
  ·have g2 : opE q.x.op = 0 := by simpa using g2
   refine yyP (ll.length - (k + 1)) (by omega) ⟨k + 1, by rw [yaG (by omega) (by omega)]; omega, by omega, N6, by omega, ?_, rfl⟩
   intro q' hq'
   rw [List.take_add_one, hq] at hq'
   simp at hq'
   rcases hq' with hq' | rfl
   ·exact hz q' hq'
   ·exact g2
 ·have hk : k = ll.length := by omega
  subst hk
  rw [List.take_length] at hz
  refine ⟨?_, M4⟩
  rw [hE]
  have : (ll.map (·.x)).find? (fun x => opE x.op ≠ 0) = none := by
   rw [List.find?_eq_none]
   intro x hx
   obtain ⟨q', hq', rfl⟩ := List.mem_map.1 hx
   simpa using hz q' hq'
  rw [this]
theorem ypC {xs : List PCall} : yfG xs = 0 ↔ ∀ x ∈ xs, ymR x = false ∧ opE x.op = 0 := by
 unfold yfG
 constructor
 ·intro h
  split at h
  ·omega
  ·rename_i ha
   split at h
   ·rename_i hf
    intro x hx
    refine ⟨?_, ?_⟩
    ·cases ho : ymR x with
     | false => rfl
     | true => exact absurd (List.any_eq_true.2 ⟨x, hx, ho⟩) ha
    ·have := List.find?_eq_none.1 hf x hx
     simpa using this
   ·rename_i x hf
    have := List.find?_some hf
    simp [h] at this
 ·intro h
  rw [if_neg]
  ·have : xs.find? (fun x => opE x.op ≠ 0) = none := by
    rw [List.find?_eq_none]
    intro x hx
    simpa using (h x hx).2
   rw [this]
  ·intro ha
   obtain ⟨x, hx, ho⟩ := List.any_eq_true.1 ha
   rw [(h x hx).1] at ho; cases ho
end Go.Proofs.YtkbcmppbjfpjmaaGreat
namespace Go.Proofs.YtkbcmppbjfpjmaaGreat
open Go Go.RowKit
set_option linter.all false
theorem ypD (a : Addr) (i : Nat) : (a.add i).block = a.block := by unfold Addr.add; split <;> rfl
theorem yrH {o : POp} (G : OpGood o) : (opB o).length ≤ 30000 := by
 obtain ⟨hk, ⟨n1, n2, n3, n4⟩, hT, hG, hMm, hL, hb, ho⟩ := G
 have hT := fun h => (ycV (hT h)).1
 have hG := fun h => (ycV (hG h)).1
 have hMm := fun h => (ycV (hMm h)).1
 have nl : ∀ {x : Int}, num x = true → (yaL x.toNat).length ≤ 10 := fun {x} h => by
  have := yeT h
  exact (yaN x.toNat (by omega)).2
 have tl : ∀ {s : ByteArray}, s.size ≤ 16 → (ybP s).length ≤ 26 := fun {s} h => by have := (ya0 s (by omega)).2; omega
 obtain ⟨kd, pt, n, off, b, g, m, gen, robin, topics⟩ := o
 simp only at hk hT hG hMm hL hb n1 n2 n3 n4
 have hkn := nl (x := kd) (by simp [num]; omega)
 have l1 := nl n1
 have l2 := nl n2
 have l3 := nl n3
 have l4 := nl n4
 have hk : kd = 0 ∨ kd = 1 ∨ kd = 2 ∨ kd = 3 ∨ kd = 4 ∨ kd = 5 ∨ kd = 6 ∨ kd = 7 ∨ kd = 8 ∨ kd = 9 ∨ kd = 10 ∨ kd = 11 ∨ kd = 12 := by omega
 unfold opB
 rw [List.length_append]
 rcases hk with rfl | rfl | rfl | rfl | rfl | rfl | rfl | rfl | rfl | rfl | rfl | rfl | rfl
 ·have := tl (hT rfl); simp [ya6] at *; omega
 ·simp [ya6] at *; omega
 ·have := tl (hT rfl); have := (BatGood.of (hb rfl)).len; simp [ya6, ycJ] at *; omega
 ·have := tl (hT rfl); simp [ya6, ycJ] at *; omega
 ·have := tl (hT rfl); simp [ya6, ycJ] at *; omega
 ·have := tl (hT rfl); simp [ya6, ycJ] at *; omega
 ·have h1 := tl (hG rfl)
  have h2 := tl (hMm rfl)
  have hL := hL rfl
  simp only [ydZ, Bool.and_eq_true, decide_eq_true_eq] at hL
  obtain ⟨⟨⟨l1', l2'⟩, l3'⟩, _⟩ := hL
  have h3 : (yhQ topics).length ≤ 10 + 8 * 26 := by
   have e1 := ydQ (f := ybP) (c := 26) (l := topics) fun s hs => tl (ycV (List.all_eq_true.1 l3' s hs)).1
   have e2 := (yaN topics.length (by omega)).2
   have e3 : topics.length * 26 ≤ 8 * 26 := Nat.mul_le_mul_right _ l2'
   unfold yhQ; rw [List.length_append]; omega
  have h4 : (yaL (yjD robin)).length ≤ 10 := (yaN _ (by cases robin <;> decide)).2
  simp only [ya6, List.length_append, if_neg (show ¬ (6 : Int) = 0 by decide), if_neg (show ¬ (6 : Int) = 1 by decide), if_neg (show ¬ (6 : Int) = 2 by decide), if_neg (show ¬ (6 : Int) = 3 by decide), if_neg (show ¬ (6 : Int) = 4 by decide), if_neg (show ¬ (6 : Int) = 5 by decide), if_pos]
  omega
 iterate 3
  ·have h1 := tl (hG rfl)
   have h2 := tl (hMm rfl)
   simp [ya6] at *; omega
 ·have h1 := tl (hG rfl)
  have h2 := tl (hMm rfl)
  have := tl (hT rfl)
  simp [ya6, ycJ] at *; omega
 ·have h1 := tl (hG rfl)
  have := tl (hT rfl)
  simp [ya6, ycJ] at *; omega
 ·simp [ya6] at *; omega
def ygH (x : PCall) : List UInt8 := yaL x.c.toNat ++ yaL x.n.toNat ++ ybP (bs (opB x.op))
def yfV (x : PCall) : List UInt8 := ycW (bs (ygH x))
def ybJ (xs : List PCall) : List UInt8 := yaL xs.length ++ xs.flatMap yfV
def ycO (xs : List PCall) : Int := if xs.length > 4096 then 2 else yfG xs
theorem ys5 {n : Int} (h : yAK n = false) : 1 ≤ n ∧ n ≤ 1099511627776 := by
 simp [yAK] at h; omega
theorem ymS {x : PCall} (h : ymR x = false) : (1 ≤ x.c ∧ x.c ≤ 1099511627776) ∧ 1 ≤ x.n ∧ x.n ≤ 1099511627776 := by
 simp [ymR] at h
 exact ⟨ys5 h.1, ys5 h.2⟩
theorem yjL {x : PCall} (h : ymR x = false) (ho : opE x.op = 0) : (ygH x).length ≤ 30040 := by
 have h1 := ymS h
 have h2 := yrH (OpGood.of ho)
 have e1 := (yaN x.c.toNat (by omega)).2
 have e2 := (yaN x.n.toNat (by omega)).2
 have e3 := (ya0 (bs (opB x.op)) (by rw [yaE]; omega)).2
 rw [yaE] at e3
 unfold ygH
 rw [List.length_append, List.length_append]
 omega
theorem yjM {x : PCall} (h : ymR x = false) (ho : opE x.op = 0) : (yfV x).length ≤ 40000 ∧ 1 ≤ (yfV x).length := by
 have h1 := yjL h ho
 have e3 := ya0 (bs (ygH x)) (by rw [yaE]; omega)
 rw [yaE] at e3
 unfold yfV
 rw [ygW]
 omega
set_option maxHeartbeats 1000000 in
theorem yrI {w : World} {s : Sl} {ll : List CV} (h : CsAt w s ll) (hl : ll.length ≤ 1000000) :
  Calls pP 25 #[.slice s.a s.n s.c] w fun e w' => e = .returned (.tuple #[.string (if ycO (ll.map (·.x)) = 0 then bs (ybJ (ll.map (·.x))) else bs []), .int .i64 (ycO (ll.map (·.x)))]) ∧ Mod [] w w' := by
 have hn := h.sl.1
 have el : (ll.map (·.x)).length = ll.length := by simp
 refine yaQ (yGH ?_)
 refine yaC (fun g => ?_) fun g => ?_
 ·have e : ycO (ll.map (·.x)) = 2 := by rw [ycO, if_pos (by rw [el]; omega)]
  rw [e]; exact ⟨rfl, Mod.refl _⟩
 have e : ycO (ll.map (·.x)) = yfG (ll.map (·.x)) := by rw [ycO, if_neg (by rw [el]; omega)]
 refine (yuF h hl).mono ?_
 rintro _ w1 ⟨rfl, M1⟩
 have s1 := M1.size
 refine ⟨_, rfl, yaB (fun g2 => ?_) fun g2 => ?_⟩
 ·have g2 : yfG (ll.map (·.x)) ≠ 0 := by simpa using g2
  rw [e, if_neg g2]; exact ⟨rfl, M1⟩
 have g2 : yfG (ll.map (·.x)) = 0 := by simpa using g2
 have good : ∀ q ∈ ll, ymR q.x = false ∧ opE q.x.op = 0 := fun q hq => ypC.1 g2 q.x (List.mem_map.2 ⟨q, hq, rfl⟩)
 rw [e, if_pos g2, g2]
 intro b3 f3 w4 A4
 have l4 := A4.lt b3 (by simp)
 have s4 := A4.mod.size
 rw [ygF (by omega)]
 refine (yi0 s.n (by omega) w4).mono ?_
 rintro _ w5 ⟨rfl, M5⟩
 refine ⟨_, rfl, yaI.of0 M5, ?_⟩
 intro w7 A7 h7
 have s5 := M5.size
 have s7 := A7.mod.size
 have N7 : Mod [] w w7 := ((M1.go0 A4.mod (by simp)).go0 M5 (by simp)).go0 A7.mod (by simp)
 have v0 := yaN s.n (by omega)
 refine (yyZ (B := w1.heap.size) (Sb.fresh f3 h7) (l2 := yaL s.n) (by rw [List.length_nil]; omega) (by omega)).mono ?_
 rintro _ w8 ⟨rfl, hB8, W8⟩
 obtain ⟨p8, a8, n8, c8, hc8⟩ := Sb.cells hB8
 refine ⟨_, _, rfl, p8, a8, n8, c8, hc8, ?_⟩
 have modW : ∀ {w'}, Wr w1.heap.size b3 w7 w' → Mod [] w w' := fun W => W.mod N7 s1
 refine yyO (fun mm x p0 a0 n0 c0 w' => ∃ k : Nat, x = k ∧ k ≤ ll.length ∧ Sb w1.heap.size b3 (yaL s.n ++ (ll.take k).flatMap fun q => yfV q.x) w' ∧ Wr w1.heap.size b3 w7 w' ∧ mm = ll.length - k) ll.length ⟨0, rfl, by omega, by simpa using hB8, W8, rfl⟩ ?_
 rintro mm x p0 a0 n0 c0 w9 ⟨k, rfl, hk, hB9, W9, rfl⟩ h9
 have s9 := W9.bel.size
 have N9 := modW W9
 refine yaC (fun hlt => ?_) fun hge => ?_
 ·obtain ⟨q, hq⟩ : ∃ q, ll[k]? = some q := ⟨_, List.getElem?_eq_getElem (by omega)⟩
  obtain ⟨gq1, gq2⟩ := good q (List.mem_of_getElem? hq)
  have hodd := ymS gq1
  refine (h.sl.keep0 N9).ix hq fun ad had => yjJ had ?_
  intro b10 f10 w10 A10 h10
  have l10 := A10.lt b10 (by simp)
  have s10 := A10.mod.size
  have N10 := N9.go0 A10.mod (by simp)
  refine (yzE (o := q.x.op) ((h.op q (List.mem_of_getElem? hq)).keep0 N10)).mono ?_
  rintro _ w11 ⟨rfl, M11, hlen⟩
  rw [if_pos gq2]
  have s11 := M11.size
  refine ⟨_, _, rfl, yaI.of0 M11, _, _, _, _, M11.keep0 h10, ?_⟩
  intro w12 A12 h12
  have s12 := A12.mod.size
  obtain ⟨cN, hcN⟩ := Int.eq_ofNat_of_zero_le (show 0 ≤ q.x.c by omega)
  obtain ⟨nN, hnN⟩ := Int.eq_ofNat_of_zero_le (show 0 ≤ q.x.n by omega)
  rw [hcN, hnN, ygF (by omega), ygF (by omega)]
  refine (yi0 cN (by omega) w12).mono ?_
  rintro _ w13 ⟨rfl, M13⟩
  have s13 := M13.size
  refine ⟨_, rfl, yaI.of0 M13, _, _, _, _, M13.keep0 h12, rfl, ?_⟩
  refine (yi0 nN (by omega) w13).mono ?_
  rintro _ w14 ⟨rfl, M14⟩
  have s14 := M14.size
  refine ⟨_, rfl, yaI.of0 M14, _, _, _, _, M14.keep0 (M13.keep0 h12), ?_⟩
  have lc := yaN cN (by omega)
  have ln := yaN nN (by omega)
  have lo := yrH (OpGood.of gq2)
  refine ⟨by show (bs (yaL cN)).size + (bs (yaL nN)).size ≤ _; rw [yaE, yaE]; omega, ?_⟩
  have e1 : yAZ cN ++ yAZ nN = bs (yaL cN ++ yaL nN) := ybH _ _
  rw [e1]
  refine (yb6 (bs (opB q.x.op)) (by rw [yaE]; omega) w14).mono ?_
  rintro _ w15 ⟨rfl, M15⟩
  have s15 := M15.size
  refine ⟨_, rfl, yaI.of0 M15, _, _, _, _, M15.keep0 (M14.keep0 (M13.keep0 h12)), ?_⟩
  have lp := (ya0 (bs (opB q.x.op)) (by rw [yaE]; omega)).2
  rw [yaE] at lp
  refine ⟨by rw [yaE, yaE, List.length_append]; omega, ?_⟩
  have e2 : bs (yaL cN ++ yaL nN) ++ bs (ybP (bs (opB q.x.op))) = bs (ygH q.x) := by
   rw [ybH]; unfold ygH; rw [hcN, hnN]; rfl
  rw [e2]
  have lr := yjL gq1 gq2
  refine (ysC (bs (ygH q.x)) (by rw [yaE]; omega) w15).mono ?_
  rintro _ w16 ⟨rfl, M16⟩
  have s16 := M16.size
  have K : Mod [] w9 w16 := ((((A10.mod.go0 M11 (by simp)).go0 A12.mod (by simp)).go0 M13 (by simp)).go0 M14 (by simp)).go0 (M15.go0 M16 (by simp)) (by simp)
  have hB16 := hB9.keep0 K
  obtain ⟨p16, a16, n16, c16, hc16⟩ := Sb.cells hB16
  refine ⟨_, rfl, yaI.of0 M16, p16, a16, n16, c16, hc16, ?_⟩
  have hlt2 : (yaL s.n ++ (ll.take k).flatMap fun q => yfV q.x).length ≤ 10 + 4096 * 40000 := by
   have e1 := ydQ (f := fun q : CV => yfV q.x) (c := 40000) (l := ll.take k) fun q hq => (yjM (good q (List.mem_of_mem_take hq)).1 (good q (List.mem_of_mem_take hq)).2).1
   have e3 : (ll.take k).length * 40000 ≤ 4096 * 40000 := Nat.mul_le_mul_right _ (by rw [List.length_take]; omega)
   rw [List.length_append]; omega
  have lcb := yjM gq1 gq2
  refine (yyZ (l2 := yfV q.x) hB16 (by omega) (by omega)).mono ?_
  rintro _ w17 ⟨rfl, hB17, W17⟩
  obtain ⟨p17, a17, n17, c17, hc17⟩ := Sb.cells hB17
  refine ⟨_, _, rfl, W17.keepE fun k hk he => ?_, p17, a17, n17, c17, hc17, ?_⟩
  ·simp at hk he
   subst hk
   exact ⟨he, .inr ⟨_, by simp; rfl, by decide⟩⟩
  refine yyN (ll.length - (k + 1)) (by omega) ⟨k + 1, by rw [yaG (by omega) (by omega)]; omega, by omega, ?_, (W9.trans (Wr.of0 K (by omega))).trans W17, rfl⟩
  rw [ybC hq, ← List.append_assoc]
  exact hB17
 ·have hk : k = ll.length := by omega
  subst hk
  rw [List.take_length] at hB9
  have et : (yaL s.n ++ ll.flatMap fun q => yfV q.x) = ybJ (ll.map (·.x)) := by
   unfold ybJ; rw [el, hn, List.flatMap_map]
  rw [et] at hB9
  refine (yDC hB9 (by intro h0; have := congrArg List.length h0; rw [← et, List.length_append] at this; simp only [List.length_nil] at this; omega)).mono ?_
  rintro _ w10 ⟨rfl, hB10, W10⟩
  obtain ⟨p10, a10, n10, c10, hc10⟩ := Sb.cells hB10
  exact ⟨_, rfl, p10, a10, n10, c10, hc10, rfl, modW (W9.trans W10)⟩
def yBx : PCall := ⟨0, 0, op0⟩
def yj7 (l : List UInt8) (b : Nat) : ByteArray := match ylD 65536 l b with
 | some p => p.1
 | none => ⟨#[]⟩
def yfB (s : ByteArray) : PCall := match yeN s.data.toList 0 with
 | none => yBx
 | some p => match yeN s.data.toList p.2 with
  | none => yBx
  | some q => ⟨IntKind.wrap .i64 (p.1 : Nat), IntKind.wrap .i64 (q.1 : Nat), (yzG (yj7 s.data.toList q.2)).getD op0⟩
theorem yzN {x : PCall} (h : ymR x = false) (ho : opE x.op = 0) : yfB (bs (ygH x)) = x := by
 have h1 := ymS h
 have h2 := yrH (OpGood.of ho)
 have e0 : (bs (ygH x)).data.toList = yaL x.c.toNat ++ (yaL x.n.toNat ++ (ybP (bs (opB x.op)) ++ [])) := by rw [ydP]; simp [ygH]
 have t1 := ye5 (l := (bs (ygH x)).data.toList) (a := 0) (n := x.c.toNat) (by omega) (by rw [List.drop_zero]; exact e0)
 have d1 := yaV (l := (bs (ygH x)).data.toList) (a := 0) (x := yaL x.c.toNat) (by rw [List.drop_zero]; exact e0)
 have t2 := ye5 (n := x.n.toNat) (by omega) d1
 have t3 := yeI (lim := 65536) (s := bs (opB x.op)) (by rw [yaE]; omega) (by rw [yaE]; omega) (yaV d1)
 unfold yfB yj7
 rw [t1]
 dsimp only
 rw [t2]
 dsimp only
 rw [t3]
 dsimp only
 rw [yBu ho]
 have e1 : IntKind.wrap .i64 ((x.c.toNat : Nat) : Int) = x.c := by rw [yaG (by omega) (by omega)]; omega
 have e2 : IntKind.wrap .i64 ((x.n.toNat : Nat) : Int) = x.n := by rw [yaG (by omega) (by omega)]; omega
 rw [e1, e2]; rfl
theorem yBy {s : ByteArray} (hs : s.size ≤ 1000000) (w : World) :
  Calls pP 111 #[.string s] w fun e w' => ∃ v, e = .returned v ∧ ∃ rs ts : Sl, v = (⟨yfB s, rs, ts⟩ : CV).v ∧ OpOwn w' w.heap.size (yfB s).op rs ts ∧ Mod [] w w' := by
 refine yHw ?_
 intro b1 f1 w2 A2
 have l1 := A2.lt b1 (by simp)
 have s2 := A2.mod.size
 have bad : ∀ {w3}, yfB s = yBx → Mod [] w w3 → ∃ rs ts : Sl, (⟨yBx, ybL, ybL⟩ : CV).v = (⟨yfB s, rs, ts⟩ : CV).v ∧ OpOwn w3 w.heap.size (yfB s).op rs ts ∧ Mod [] w w3 := fun {w3} e M => by
  rw [e]
  exact ⟨ybL, ybL, rfl, yqK .., M⟩
 refine (yfT s 0 (by omega) (by omega) w2).mono ?_
 rintro _ w3 ⟨v, rfl, hv, rfl⟩
 rw [List.drop_zero] at hv
 cases hg : vg 0 s.data.toList with
 | none =>
  rw [hg] at hv
  obtain ⟨e, he, rfl⟩ := hv
  refine ⟨_, _, _, rfl, yaI.of0 (Mod.refl _), ?_⟩
  rw [show (e != 0) = true by simpa using he]
  intro w4 A4
  exact bad (by simp [yfB, yeN, hg]) (A2.mod.go0 A4.mod (by simpa using f1))
 | some p =>
  rw [hg] at hv
  have hv : v = .tuple #[.int .u64 (p.1 : Nat), .int .i64 ((0 + p.2 : Nat) : Int), .int .i64 0] := hv
  subst hv
  have n1 : yeN s.data.toList 0 = some (p.1, 0 + p.2) := by simp [yeN, hg]
  have h8 := yfU n1
  have el : s.data.toList.length = s.size := by simp
  refine ⟨_, _, _, rfl, yaI.of0 (Mod.refl _), ?_⟩
  rw [show ((0 : Int) != 0) = false from rfl, yc5]
  refine (yfT s (0 + p.2) (by omega) (by omega) w3).mono ?_
  rintro _ w4 ⟨v, rfl, hv, rfl⟩
  cases hg2 : vg 0 (s.data.toList.drop (0 + p.2)) with
  | none =>
   rw [hg2] at hv
   obtain ⟨e, he, rfl⟩ := hv
   have n2 : yeN s.data.toList (0 + p.2) = none := by unfold yeN; rw [hg2]; rfl
   refine ⟨_, _, _, rfl, yaI.of0 (Mod.refl _), ?_⟩
   rw [show (e != 0) = true by simpa using he]
   intro w5 A5
   exact bad (by unfold yfB; rw [n1]; dsimp only; rw [n2]) (A2.mod.go0 A5.mod (by simpa using f1))
  | some q =>
   rw [hg2] at hv
   have hv : v = .tuple #[.int .u64 (q.1 : Nat), .int .i64 ((0 + p.2 + q.2 : Nat) : Int), .int .i64 0] := hv
   subst hv
   have n2 : yeN s.data.toList (0 + p.2) = some (q.1, 0 + p.2 + q.2) := by unfold yeN; rw [hg2]; rfl
   have h9 := yfU n2
   have eG : yfB s = ⟨IntKind.wrap .i64 (p.1 : Nat), IntKind.wrap .i64 (q.1 : Nat), (yzG (yj7 s.data.toList (0 + p.2 + q.2))).getD op0⟩ := by
    unfold yfB; rw [n1]; dsimp only; rw [n2]
   refine ⟨_, _, _, rfl, yaI.of0 (Mod.refl _), ?_⟩
   rw [show ((0 : Int) != 0) = false from rfl, yc5]
   refine (yc3 s (0 + p.2 + q.2) 65536 (by omega) (by omega) (by omega) w4).mono ?_
   rintro _ w5 ⟨v, rfl, hv, rfl⟩
   have ht : ∃ (x y : Int), v = .tuple #[.string (yj7 s.data.toList (0 + p.2 + q.2)), .int .i64 x, .int .i64 y] ∧ (yj7 s.data.toList (0 + p.2 + q.2)).size ≤ 65536 := by
    unfold yj7 ylD
    cases hg3 : tg 65536 (s.data.toList.drop (0 + p.2 + q.2)) with
    | none =>
     rw [hg3] at hv
     obtain ⟨e, he, rfl⟩ := hv
     exact ⟨_, _, rfl, by show (⟨#[]⟩ : ByteArray).size ≤ 65536; decide⟩
    | some t =>
     rw [hg3] at hv
     have := ykS (t := t.1) (m := t.2) hg3
     exact ⟨_, _, hv, this.2.2.1⟩
   obtain ⟨x, y, rfl, hts⟩ := ht
   refine ⟨_, _, _, rfl, yaI.of0 (Mod.refl _), ?_⟩
   refine (yDP (s := yj7 s.data.toList (0 + p.2 + q.2)) (by omega) w5).mono ?_
   rintro _ w6 ⟨v, rfl, hv, M6⟩
   have s6 := M6.size
   have hv2 : ∃ (rs ts : Sl) (e : Int), v = .tuple #[((yzG (yj7 s.data.toList (0 + p.2 + q.2))).getD op0).v rs ts, .int .i64 e] ∧ OpOwn w6 w5.heap.size ((yzG (yj7 s.data.toList (0 + p.2 + q.2))).getD op0) rs ts := by
    cases hO : yzG (yj7 s.data.toList (0 + p.2 + q.2)) with
    | none =>
     rw [hO] at hv
     exact ⟨ybL, ybL, 40, hv, yqK ..⟩
    | some o =>
     rw [hO] at hv
     obtain ⟨rs, ts, rfl, hO⟩ := hv
     exact ⟨rs, ts, 0, rfl, hO⟩
   obtain ⟨rs, ts, e, rfl, hO⟩ := hv2
   refine ⟨_, _, _, _, _, _, _, _, _, _, _, _, _, _, _, _, _, _, _, rfl, yaI.of0 M6, ?_⟩
   intro b7 f7 w7 A7
   rw [eG]
   exact ⟨rs, ts, rfl, (hO.keepB A7.mod (by simp; omega)).rebase s2, (A2.mod.go0 M6 (by simp)).go0 A7.mod (by simpa using f1)⟩
def yAL (lim : Nat) (l : List UInt8) (a : Nat) : Option (ByteArray × Nat) := (cg lim (l.drop a)).map fun p => (p.1, a + p.2)
theorem yDR {l : List UInt8} {a b lim : Nat} {t : ByteArray} (h : yAL lim l a = some (t, b)) : a < b ∧ b ≤ l.length ∧ t.size ≤ lim := by
 unfold yAL at h
 cases hv : cg lim (l.drop a) with
 | none => rw [hv] at h; cases h
 | some p =>
  have h1 := yCk (t := p.1) (m := p.2) hv
  rw [hv] at h
  rw [List.length_drop] at h1
  simp at h
  obtain ⟨rfl, rfl⟩ := h
  omega
theorem yBz {l r : List UInt8} {a lim : Nat} {s : ByteArray} (hn : s.size ≤ lim) (hs : s.size < 18446744073709551616) (h : l.drop a = ycW s ++ r) : yAL lim l a = some (s, a + (ycW s).length) := by
 unfold yAL; rw [h, ykT s r hn hs]; rfl
def rdC (l : List UInt8) : Nat → Option Nat → List PCall → Option Nat × List PCall
 | 0, st, xs => (st, xs)
 | _ + 1, none, xs => (none, xs)
 | k + 1, some a, xs => match yAL 65536 l a with
  | some p => rdC l k (some p.2) (xs ++ [yfB p.1])
  | none => (none, xs ++ [yfB ⟨#[]⟩])
theorem ys6 (l : List UInt8) (k : Nat) (xs : List PCall) : rdC l k none xs = (none, xs) := by cases k <;> rfl
def yeU (l : List UInt8) : Option Nat × List PCall := match yeN l 0 with
 | some p => rdC l p.1 (some p.2) []
 | none => (none, [])
def ydM (s : ByteArray) : Option (List PCall) :=
 if (yeU s.data.toList).1.isSome ∧ ycO (yeU s.data.toList).2 = 0 ∧ bs (ybJ (yeU s.data.toList).2) = s then some (yeU s.data.toList).2 else none
theorem yjN {xs : List PCall} (h : ycO xs = 0) : xs.length ≤ 4096 ∧ ∀ x ∈ xs, ymR x = false ∧ opE x.op = 0 := by
 unfold ycO at h
 split at h
 ·omega
 ·exact ⟨by omega, ypC.1 h⟩
theorem yzO {l : List UInt8} : ∀ (xs : List PCall) (hx : ∀ x ∈ xs, ymR x = false ∧ opE x.op = 0) (a : Nat) (r : List UInt8) (acc : List PCall), l.drop a = xs.flatMap yfV ++ r → rdC l xs.length (some a) acc = (some (a + (xs.flatMap yfV).length), acc ++ xs)
 | [], _, a, r, acc, h => by simp [rdC]
 | x :: xs, hx, a, r, acc, h => by
  rw [List.flatMap_cons, List.append_assoc] at h
  obtain ⟨h1, h2⟩ := hx x (by simp)
  have hl := yjL h1 h2
  have t1 : yAL 65536 l a = some (bs (ygH x), a + (yfV x).length) := yBz (lim := 65536) (s := bs (ygH x)) (by rw [yaE]; omega) (by rw [yaE]; omega) h
  simp only [List.length_cons, rdC, t1]
  rw [yzN h1 h2, yzO xs (fun y hy => hx y (by simp [hy])) _ r _ (yaV h)]
  simp [List.flatMap_cons, Nat.add_assoc]
theorem yd1 {xs : List PCall} (h : ycO xs = 0) : ydM (bs (ybJ xs)) = some xs := by
 obtain ⟨hl, hx⟩ := yjN h
 have e0 : (bs (ybJ xs)).data.toList = yaL xs.length ++ (xs.flatMap yfV ++ []) := by rw [ydP]; simp [ybJ]
 have t1 := ye5 (l := (bs (ybJ xs)).data.toList) (a := 0) (n := xs.length) (by omega) (by rw [List.drop_zero]; exact e0)
 have d1 := yaV (l := (bs (ybJ xs)).data.toList) (a := 0) (x := yaL xs.length) (by rw [List.drop_zero]; exact e0)
 have t2 := yzO xs hx _ _ [] d1
 have e : yeU (bs (ybJ xs)).data.toList = (some (0 + (yaL xs.length).length + (xs.flatMap yfV).length), xs) := by
  unfold yeU; rw [t1]; dsimp only; rw [t2]; rfl
 unfold ydM
 rw [e]
 dsimp only
 rw [if_pos ⟨rfl, h, rfl⟩]
theorem yuG {s : ByteArray} {xs : List PCall} : ydM s = some xs ↔ ycO xs = 0 ∧ s = bs (ybJ xs) := by
 constructor
 ·intro h
  unfold ydM at h
  split at h
  ·rename_i hc
   simp only [Option.some.injEq] at h
   rw [h] at hc
   exact ⟨hc.2.1, hc.2.2.symm⟩
  ·cases h
 ·rintro ⟨h, rfl⟩
  exact yd1 h
def ygZ (w0 w : World) : Option (List PCall) → Value → Prop
 | some xs, v => ∃ s : Sl, v = .tuple #[.slice s.a s.n s.c, .int .i64 0] ∧ ya7 w w0.heap.size s xs
 | none, v => v = .tuple #[.slice none 0 0, .int .i64 162]
set_option maxHeartbeats 1000000 in
set_option maxRecDepth 20000 in
theorem yzP {s : ByteArray} (hs : s.size ≤ 900000) (w : World) :
  Calls pP 80 #[.string s] w fun e w' => ∃ v, e = .returned v ∧ ygZ w w' (ydM s) v ∧ Mod [] w w' := by
 have el : s.data.toList.length = s.size := by simp
 refine yHz ?_
 refine (yfT s 0 (by omega) (by omega) w).mono ?_
 rintro _ w1 ⟨v, rfl, hv, rfl⟩
 rw [List.drop_zero] at hv
 have hst : ∃ (n a0 : Nat) (e : Int), v = .tuple #[.int .u64 (n : Nat), .int .i64 (a0 : Nat), .int .i64 e] ∧ n < 18446744073709551616 ∧ a0 ≤ s.size ∧ yeU s.data.toList = rdC s.data.toList n (if e = 0 then some a0 else none) [] := by
  cases hg : vg 0 s.data.toList with
  | none =>
   rw [hg] at hv
   obtain ⟨e, he, rfl⟩ := hv
   refine ⟨0, 0, e, rfl, by omega, by omega, ?_⟩
   rw [if_neg he]
   unfold yeU yeN; rw [List.drop_zero, hg]; rfl
  | some p =>
   rw [hg] at hv
   have hv : v = .tuple #[.int .u64 (p.1 : Nat), .int .i64 ((0 + p.2 : Nat) : Int), .int .i64 0] := hv
   have n1 : yeN s.data.toList 0 = some (p.1, 0 + p.2) := by simp [yeN, hg]
   have h8 := yfU n1
   refine ⟨p.1, 0 + p.2, 0, hv, h8.2.2, by omega, ?_⟩
   rw [if_pos rfl]
   unfold yeU; rw [n1]
 obtain ⟨n, a0, e0, rfl, hn, ha0, hp⟩ := hst
 refine ⟨_, _, _, rfl, ?_⟩
 refine yzI (fun mm x5 x6 aa nn cc x8 w' => ∃ (k a : Nat) (st : Option Nat) (l : List CV), x8 = k ∧ k ≤ n ∧ x5 = a ∧ a ≤ s.size ∧ (st = if x6 = 0 then some a else none) ∧ (st.isSome → l.length ≤ a) ∧ l.length ≤ s.size + 1 ∧ Row w' w1.heap.size 51 16 CV.cs aa nn cc l ∧ (∀ q ∈ l, OpOwn w' w1.heap.size q.x.op q.rs q.ts) ∧ Mod [] w1 w' ∧
  yeU s.data.toList = rdC s.data.toList (n - k) st (l.map (·.x)) ∧ mm = n - k) n
  ⟨0, a0, _, [], rfl, by omega, rfl, ha0, rfl, by simp, by simp, Row.nil .., by simp, Mod.refl _, by simpa using hp, rfl⟩ ?_
 clear hp
 rintro mm x5 x6 aa nn cc x8 w2 ⟨k, a, st, l, rfl, hk, rfl, ha, hst, hla, hls, hRow, hOw, M2, hp, rfl⟩
 have s2 := M2.size
 have fin : (n - k = 0 ∨ st = none) → Calls pP 25 #[.slice aa nn cc] w2 fun e w39 => ∃ (s40 : ByteArray) (x41 : Int), e = .returned (.tuple #[.string s40, .int .i64 x41]) ∧
  brB (x6 != 0) (
   ygZ w1 w39 (ydM s) (.tuple #[.slice none 0 0, .int .i64 162]) ∧ Mod [] w1 w39)
  (
   brB (x41 != 0) (
    ygZ w1 w39 (ydM s) (.tuple #[.slice none 0 0, .int .i64 162]) ∧ Mod [] w1 w39)
   (
    brB (!(s40.toList == s.toList)) (
     ygZ w1 w39 (ydM s) (.tuple #[.slice none 0 0, .int .i64 162]) ∧ Mod [] w1 w39)
    (
     ygZ w1 w39 (ydM s) (.tuple #[.slice aa nn cc, .int .i64 0]) ∧ Mod [] w1 w39))) := fun hh => by
  have hpe : yeU s.data.toList = (st, l.map (·.x)) := by
   rw [hp]
   rcases hh with hh | hh
   ·rw [hh]; rfl
   ·rw [hh, ys6]
  have hC : CsAt w2 ⟨aa, nn, cc⟩ l := ⟨hRow.sl CV.cs_len, fun q hq => (hOw q hq).at⟩
  refine (yrI hC (by omega)).mono ?_
  rintro _ w3 ⟨rfl, M3⟩
  have N3 := M2.go0 M3 (by simp)
  have no : ydM s = none → ygZ w1 w3 (ydM s) (.tuple #[.slice none 0 0, .int .i64 162]) ∧ Mod [] w1 w3 := fun h => by rw [h]; exact ⟨rfl, N3⟩
  have eO : ydM s = if st.isSome ∧ ycO (l.map (·.x)) = 0 ∧ bs (ybJ (l.map (·.x))) = s then some (l.map (·.x)) else none := by unfold ydM; rw [hpe]
  refine ⟨_, _, rfl, ?_⟩
  refine yaB (fun g => ?_) fun g => ?_
  ·have g : x6 ≠ 0 := by simpa using g
   rw [if_neg g] at hst
   exact no (by rw [eO, hst]; rfl)
  have g : x6 = 0 := by simpa using g
  rw [if_pos g] at hst
  refine yaB (fun g2 => ?_) fun g2 => ?_
  ·have g2 : ycO (l.map (·.x)) ≠ 0 := by simpa using g2
   exact no (by rw [eO, if_neg (fun h => g2 h.2.1)])
  have g2 : ycO (l.map (·.x)) = 0 := by simpa using g2
  rw [if_pos g2, yf9]
  refine yaB (fun g3 => ?_) fun g3 => ?_
  ·have g3 : ¬ bs (ybJ (l.map (·.x))) = s := by simpa using g3
   exact no (by rw [eO, if_neg (fun h => g3 h.2.2)])
  ·have g3 : bs (ybJ (l.map (·.x))) = s := by simpa using g3
   rw [eO, if_pos ⟨by rw [hst]; rfl, g2, g3⟩]
   exact ⟨⟨⟨aa, nn, cc⟩, rfl, l, hRow.keep0 M3, fun q hq => (hOw q hq).keep0 M3, rfl⟩, N3⟩
 refine yaC (fun hlt => ?_) fun hge => fin (.inl (by omega))
 refine yaB (fun g => ?_) fun g => fin (.inr (by rw [hst, if_neg (show ¬ x6 = 0 by simpa using g)]))
 have g : x6 = 0 := by simpa using g
 subst g
 rw [if_pos rfl] at hst
 subst hst
 have hla : l.length ≤ a := hla rfl
 refine (yoX s a 65536 (by omega) ha (by omega) w2).mono ?_
 rintro _ w3 ⟨v, rfl, hv, M3⟩
 have s3 := M3.size
 have hcut : ∃ (t : ByteArray) (b : Nat) (e : Int), v = .tuple #[.string t, .int .i64 (b : Nat), .int .i64 e] ∧ t.size ≤ 65536 ∧ b ≤ s.size ∧ (e = 0 → a < b) ∧
   rdC s.data.toList (n - k) (some a) (l.map (·.x)) = rdC s.data.toList (n - (k + 1)) (if e = 0 then some b else none) (l.map (·.x) ++ [yfB t]) := by
  have ek : n - k = (n - (k + 1)) + 1 := by omega
  cases hg : cg 65536 (s.data.toList.drop a) with
  | none =>
   rw [hg] at hv
   obtain ⟨e, he, rfl⟩ := hv
   refine ⟨_, 0, e, rfl, by show (⟨#[]⟩ : ByteArray).size ≤ 65536; decide, by omega, fun h => absurd h he, ?_⟩
   have e1 : yAL 65536 s.data.toList a = none := by unfold yAL; rw [hg]; rfl
   rw [if_neg he, ys6, ek]
   simp only [rdC, e1]
  | some p =>
   rw [hg] at hv
   have hv : v = .tuple #[.string p.1, .int .i64 ((a + p.2 : Nat) : Int), .int .i64 0] := hv
   have e1 : yAL 65536 s.data.toList a = some (p.1, a + p.2) := by unfold yAL; rw [hg]; rfl
   have h8 := yDR e1
   refine ⟨p.1, a + p.2, 0, hv, h8.2.2, by omega, fun _ => h8.1, ?_⟩
   rw [if_pos rfl, ek]
   simp only [rdC, e1]
 obtain ⟨t, b, e, rfl, hts, hb, hab, hr⟩ := hcut
 refine ⟨_, _, _, rfl, ?_⟩
 refine (yBy (s := t) (by omega) w3).mono ?_
 rintro _ w4 ⟨_, rfl, rs, ts, rfl, hO, M4⟩
 have s4 := M4.size
 refine ⟨_, _, _, _, _, _, _, _, _, _, _, _, _, _, _, _, _, _, _, _, rfl, ?_⟩
 refine ycZ fun b5 w5 c5 M5 f5 => ?_
 have s5 := M5.size
 have K5 : Mod [] w2 w5 := (M3.go0 M4 (by simp)).go0 M5 (by simp)
 obtain ⟨i0, hi, hz0, hz1, hz2⟩ := info_parts ymL
 refine ybN (x := (⟨yfB t, rs, ts⟩ : CV)) (hRow.keep0 K5) Tryz.underlying22 hi hz0 hz1 hz2 rfl (by decide) c5 rfl (CV.cs_one _) (by omega) (by unfold maxLen; omega) (by omega) fun a' c' w6 hR6 hM6 => ?_
 have M6 := hM6 _ (ycS aa)
 have hrow := ybA hRow
 have kp : ∀ {o rs ts}, OpOwn w5 w1.heap.size o rs ts → OpOwn w6 w1.heap.size o rs ts := fun hh => hh.keep M6 fun k hk cs T hc => by
  obtain ⟨_, _, cur, hcur⟩ := hrow k hk
  rw [K5.keep0 hcur] at hc; cases hc; decide
 refine yzH (n - (k + 1)) (by omega) ⟨k + 1, b, if e = 0 then some b else none, l ++ [⟨yfB t, rs, ts⟩], ?_, by omega, rfl, hb, rfl, ?_, by simp; omega, hR6, fun y hy => ?_, (M2.go0 K5 (by simp)).go0 M6 fun i hi => (hrow i hi).1, ?_, rfl⟩
 ·have e1 : ((k : Int) + 1) = ((k + 1 : Nat) : Int) := by omega
  rw [e1, ygF (by omega)]
 ·intro h
  have he : e = 0 := by
   by_cases he : e = 0
   ·exact he
   ·rw [if_neg he] at h; cases h
  have := hab he
  simp; omega
 ·rcases List.mem_append.1 hy with hy | hy
  ·exact kp ((hOw y hy).keep0 K5)
  ·simp at hy; subst hy; exact kp ((hO.keep0 M5).rebase (by omega))
 ·rw [hp, hr, List.map_append]; rfl
theorem yzQ {w : World} {p q : CV} (hp : OpAt w p.x.op p.rs p.ts) (hq : OpAt w q.x.op q.rs q.ts) :
  Calls pP 71 #[p.v, q.v] w fun e w' => e = .returned (.bool (decide (p.x = q.x))) ∧ Mod [] w w' := by
 obtain ⟨⟨c1, n1, o1⟩, rs1, ts1⟩ := p
 obtain ⟨⟨c2, n2, o2⟩, rs2, ts2⟩ := q
 refine yaQ (yHA ?_)
 intro b1 f1 b2 f2
 refine yaB (fun g1 => ?_) fun g1 => ?_
 ·have g1 : c1 = c2 := by simpa using g1
  refine yaB (fun g2 => ?_) fun g2 => ?_
  ·have g2 : n1 = n2 := by simpa using g2
   intro w3 A3
   refine (yoZ (hp.keep0 A3.mod) (hq.keep0 A3.mod)).mono ?_
   rintro _ w4 ⟨rfl, M4⟩
   refine ⟨_, rfl, yaI.of0 M4, by simp [g1, g2], A3.mod.go0 M4 (by simp)⟩
  ·have g2 : ¬ n1 = n2 := by simpa using g2
   intro w3 A3
   exact ⟨by simp [g2], A3.mod⟩
 ·have g1 : ¬ c1 = c2 := by simpa using g1
  intro w3 A3
  exact ⟨by simp [g1], A3.mod⟩
theorem yBA {w : World} {s t : Sl} {la lb : List CV} (hA : CsAt w s la) (hB : CsAt w t lb) (hl : la.length ≤ 1000000) :
  Calls pP 37 #[.slice s.a s.n s.c, .slice t.a t.n t.c] w fun e w' => e = .returned (.bool (decide (la.map (·.x) = lb.map (·.x)))) ∧ Mod [] w w' := by
 have e1 := hA.sl.1
 have e2 := hB.sl.1
 have main : Calls pP 70 #[.slice s.a s.n s.c, .slice t.a t.n t.c, .func (.func 71) #[] #[]] w fun e w' => e = .returned (.bool (decide (la.map (·.x) = lb.map (·.x)))) ∧ Mod [] w w' := by
  refine yaQ (yHE ?_)
  refine yaB (fun g => ⟨congrArg Value.bool (decide_eq_false fun e => ?_).symm, Mod.refl _⟩) fun g => ?_
  ·have := congrArg List.length e
   simp at this g
   omega
  have g : la.length = lb.length := by simp at g; omega
  refine yzK (fun mm x w' => ∃ k : Nat, x = k ∧ k ≤ la.length ∧ (la.take k).map (·.x) = (lb.take k).map (·.x) ∧ Mod [] w w' ∧ mm = la.length - k) la.length ⟨0, rfl, by omega, by simp, Mod.refl _, rfl⟩ ?_
  rintro mm x w1 ⟨k, rfl, hk, ht, M1, rfl⟩
  refine yaC (fun hlt => ?_) fun hge => ?_
  ·have g1 : k < la.length := by omega
   have g2 : k < lb.length := by omega
   obtain ⟨x, hx⟩ : ∃ x, la[k]? = some x := ⟨_, List.getElem?_eq_getElem g1⟩
   obtain ⟨y, hy⟩ : ∃ y, lb[k]? = some y := ⟨_, List.getElem?_eq_getElem g2⟩
   refine (hA.sl.keep0 M1).ix hx fun ad had => yjJ had ?_
   intro b2 f2
   refine (hB.sl.keep0 M1).ixW hy fun ad had => ?_
   intro w3 A3
   have l2 := A3.lt b2 (by simp)
   refine yjJ (had w3 A3.mod) ?_
   intro b4 f4 w5 A5
   have N5 := (M1.go0 A3.mod (by simp)).go0 A5.mod (by simp)
   refine (yzQ (p := x) (q := y) ((hA.op x (List.mem_of_getElem? hx)).keep0 N5) ((hB.op y (List.mem_of_getElem? hy)).keep0 N5)).mono ?_
   rintro _ w6 ⟨rfl, M6⟩
   have N6 := N5.go0 M6 (by simp)
   refine ⟨_, rfl, yaI.of0 M6, yaB (fun g3 => ?_) fun g3 => ?_⟩
   ·have g3 : x.x ≠ y.x := by simpa using g3
    refine ⟨congrArg Value.bool (decide_eq_false fun e => g3 ?_).symm, N6⟩
    have := congrArg (fun l : List PCall => l[k]?) e
    simpa [hx, hy] using this
   ·have g3 : x.x = y.x := by simpa using g3
    refine yzJ (la.length - (k + 1)) (by omega) ⟨k + 1, by rw [yaG (by omega) (by omega)]; omega, by omega, ?_, N6, rfl⟩
    rw [List.take_add_one, List.take_add_one, hx, hy, List.map_append, List.map_append, ht]
    simp [g3]
  ·have hk' : k = la.length := by omega
   subst hk'
   refine ⟨congrArg Value.bool (decide_eq_true ?_).symm, M1⟩
   rw [List.take_length, List.take_of_length_le (by omega)] at ht
   exact ht
 refine yaQ (yHB ?_)
 refine main.mono ?_
 rintro _ w1 ⟨rfl, M⟩
 exact ⟨_, rfl, rfl, M⟩
section
set_option maxRecDepth 100000
variable {R : VWP} {w w0 : World} {m : Nat} {i0 i1 i2 i3 i4 i5 i6 i7 i8 i9 j0 j1 j2 j3 j4 j5 j6 j7 j8 j9 k0 k1 k2 k3 k4 k5 k6 k7 k8 k9 l0 l1 l2 l3 l4 l5 l6 l7 l8 l9 : Int} {s0 s1 s2 s3 s4 s5 s6 s7 s8 s9 t0 t1 t2 t3 t4 t5 t6 t7 t8 t9 : BA} {n0 n1 n2 n3 n4 n5 n6 n7 n8 n9 o0 o1 o2 o3 o4 o5 o6 o7 o8 o9 p0 p1 p2 p3 p4 p5 p6 p7 p8 p9 : Nat} {q0 q1 q2 q3 q4 q5 q6 q7 q8 q9 r0 r1 r2 r3 r4 r5 r6 r7 r8 r9 : OA} {B0 B1 B2 B3 B4 B5 B6 B7 B8 B9 : Bool} {M0 M1 M2 M3 : Option Nat} {V0 V1 V2 V3 V4 V5 : Value} {A0 A1 A2 : Addr}
def ys7 : LA := ⟨[0, 1, 1], [], [], 0, []⟩
def ymT : List LA := [ys7]
abbrev yIK := dnF pP ymT (code Tryz.f31)
abbrev yIL := yaO pP ymT (code Tryz.f31)
abbrev yHF (p : List Nat) (K : List Kh) (R : VWP) := yaO pP ymT (code Tryz.f31) p K (ya4 pP Tryz.f31 [] R)
def yDS : Unit → List Value × List TB := fun _ => ([], [])
theorem yDT (h :
 brB (decide (i0 < 128)) (
 al w (.cells #[(.int .u8 (IntKind.wrap .u8 i0))] 5) fun b1 w2 =>
 ∃ s3 w4, Sem.run pP (Go.convert 40 9 (.slice (some ⟨b1, 0, none⟩) 1 1)) w2 = .ok (.string s3) w4 ∧
 R (.string s3) w4)
 (
 wpS pP (yrW (code Tryz.f31) [0, 1, 1]) ys7 (yHF [1, 1, 0] [] R) (yDS ()) w)) :
 CR pP 31 #[.int .u64 i0] w R :=
 yaA Tryz.wide_mixed (an := ymT) Tryz.func31 rfl rfl (by kernel_rfl) rfl (Eq.mpr (by kernel_rfl) h)
theorem yDU {a0 : BA} (h :
 Calls pP 31 #[(.int .u64 (IntKind.wrap .u64 (a0.size : Int)))] w fun e w1 => ∃ s2, e = .returned (.string s2) ∧
 yfC s2 a0 fun s3 =>
 R (.string s3) w1) :
 CR pP 34 #[.string a0] w R :=
 yaA Tryz.wide_mixed (an := []) Tryz.func34 rfl rfl (by kernel_rfl) rfl (Eq.mpr (by kernel_rfl) h)
def ymU : LA := ⟨[0, 0, 1, 0, 1, 1], [0, 1, 5, 6, 7], [], 0, []⟩
def ymV : List LA := [ymU]
abbrev yCI := dnF pP ymV (code Tryz.f128)
abbrev yIM := yaO pP ymV (code Tryz.f128)
abbrev yCJ (p : List Nat) (K : List Kh) (R : VWP) := yaO pP ymV (code Tryz.f128) p K (ya4 pP Tryz.f128 [] R)
def yfW : Int × Int × Int × Int × Int → List Value × List TB := fun (a0, a1, a2, a3, a4) => ([.int .u32 a0, .int .u32 a1, .int .u32 a2, .int .u32 a3, .int .i64 a4], [])
abbrev yrJ (I : Nat → Int → Int → Int → Int → Int → World → Prop) (m : Nat) : Kh := KG (yfW) (U5 I) m
theorem ylK {I : Nat → Int → Int → Int → Int → Int → World → Prop} (m' : Nat) (h1 : m' < m) (h2 : I m' i0 i1 i2 i3 i4 w) : KS (yrJ I m) (yfW (i0, i1, i2, i3, i4)) w := ⟨m', h1, _, rfl, rfl, h2⟩
theorem yuH (I : Nat → Int → Int → Int → Int → Int → World → Prop) (m0 : Nat) (h0 : I m0 i0 i1 i2 i3 i4 w0)
 (hr : ∀ m a0 a1 a2 a3 a4 w, I m a0 a1 a2 a3 a4 w →
 brB (decide (a4 < 32)) (nz 2 (nz 2 (
 brB ((Int.tmod a0 2) != (Int.tmod a1 2)) (nz 2 (nz 2 (
 KS (yrJ I m) (yfW ((IntKind.wrap .u32 (Int.tdiv a0 2)), (IntKind.wrap .u32 (Int.tdiv a1 2)), (IntKind.wrap .u32 (a2 + a3)), (IntKind.wrap .u32 (a3 * 2)), (IntKind.wrap .i64 (a4 + 1)))) w)))
 (nz 2 (nz 2 (
 KS (yrJ I m) (yfW ((IntKind.wrap .u32 (Int.tdiv a0 2)), (IntKind.wrap .u32 (Int.tdiv a1 2)), a2, (IntKind.wrap .u32 (a3 * 2)), (IntKind.wrap .i64 (a4 + 1)))) w))))))
 (
 R (.int .u32 a2) w)) :
 yaJ ymU (yCI 396 [0, 0, 1, 0, 1, 1]) (yCJ [1, 1, 0, 1, 0] [] R) (yfW (i0, i1, i2, i3, i4)) w0 :=
 lrule (yfW) (U5 I) h0 (by rintro m ⟨a0, a1, a2, a3, a4⟩ w h; exact ⟨by kernel_rfl, by kernel_rfl, fun js => Eq.mpr (by kernel_rfl) (hr m a0 a1 a2 a3 a4 w h)⟩)
theorem yDV (h :
 yaJ ymU (yCI 396 [0, 0, 1, 0, 1, 1]) (yCJ [1, 1, 0, 1, 0] [] R) (yfW (i0, i1, 0, 1, 0)) w) :
 CR pP 128 #[.int .u32 i0, .int .u32 i1] w R :=
 yaA Tryz.wide_mixed (an := ymV) Tryz.func128 rfl rfl (by kernel_rfl) rfl (Eq.mpr (by kernel_rfl) h)
def ymW : LA := ⟨[0, 0, 1, 0, 1, 1], [1, 5, 6], [], 0, []⟩
def ymX : LA := ⟨[0, 0, 1, 1, 0, 0, 1, 0, 0, 1, 0, 1, 1], [1, 5, 6, 7], [], 0, []⟩
def ymY : List LA := [ymW, ymX]
abbrev ys8 := dnF pP ymY (code Tryz.f105)
abbrev yIN := yaO pP ymY (code Tryz.f105)
abbrev ys9 (p : List Nat) (K : List Kh) (R : VWP) := yaO pP ymY (code Tryz.f105) p K (ya4 pP Tryz.f105 [] R)
def yg0 (a0 : BA) : Int × Int → List Value × List TB := fun (a1, a2) => ([.string a0, .int .u32 a1, .int .i64 a2], [])
def yfX (a0 : BA) (a2 : Int) : Int × Int → List Value × List TB := fun (a1, a3) => ([.string a0, .int .u32 a1, .int .i64 a2, .int .i64 a3], [])
abbrev yzR (a0 : BA) (I : Nat → Int → Int → World → Prop) (m : Nat) : Kh := KG (yg0 a0) (U2 I) m
theorem yuI {I : Nat → Int → Int → World → Prop} (m' : Nat) (h1 : m' < m) (h2 : I m' i0 i1 w) : KS (yzR s0 I m) (yg0 s0 (i0, i1)) w := ⟨m', h1, _, rfl, rfl, h2⟩
theorem yuJ (I : Nat → Int → Int → World → Prop) (m0 : Nat) (h0 : I m0 i0 i1 w0)
 (hr : ∀ m a2 a1 w, I m a2 a1 w →
 brB (decide (a1 < (s0.size : Int))) (
 ixS s0 a1 fun x1 =>
 Calls pP 128 #[.int .u32 a2, (.int .u32 (IntKind.wrap .u32 x1))] w fun e w2 => ∃ x3, e = .returned (.int .u32 x3) ∧
 yaJ ymX (ys8 392 [0, 0, 1, 1, 0, 0, 1, 0, 0, 1, 0, 1, 1]) (ys9 [1, 1, 0, 1, 0, 0, 1, 0, 0, 1, 1, 0] [(yzR s0 I m)] R) (yfX s0 a1 (x3, 0)) w2)
 (
 R (.int .u32 (IntKind.wrap .u32 (4294967295 - a2))) w)) :
 yaJ ymW (ys8 396 [0, 0, 1, 0, 1, 1]) (ys9 [1, 1, 0, 1, 0] [] R) (yg0 s0 (i0, i1)) w0 :=
 lrule (yg0 s0) (U2 I) h0 (by rintro m ⟨a2, a1⟩ w h; exact ⟨by kernel_rfl, by kernel_rfl, fun js => Eq.mpr (by kernel_rfl) (hr m a2 a1 w h)⟩)
abbrev yrK (a0 : BA) (a1 : Int) (I : Nat → Int → Int → World → Prop) (m : Nat) : Kh := KG (yfX a0 a1) (U2 I) m
theorem ylL {I : Nat → Int → Int → World → Prop} (m' : Nat) (h1 : m' < m) (h2 : I m' i1 i2 w) : KS (yrK s0 i0 I m) (yfX s0 i0 (i1, i2)) w := ⟨m', h1, _, rfl, rfl, h2⟩
theorem yuK {K1 : Kh} (I : Nat → Int → Int → World → Prop) (m0 : Nat) (h0 : I m0 i1 i2 w0)
 (hr : ∀ m a1 a3 w, I m a1 a3 w →
 brB (decide (a3 < 8)) (nz 2 (nz 2 (
 brB ((Int.tmod a1 2) == 1) (
 Calls pP 128 #[(.int .u32 (IntKind.wrap .u32 (Int.tdiv a1 2))), .int .u32 3988292384] w fun e w4 => ∃ x5, e = .returned (.int .u32 x5) ∧
 KS (yrK s0 i0 I m) (yfX s0 i0 (x5, (IntKind.wrap .i64 (a3 + 1)))) w4)
 (
 KS (yrK s0 i0 I m) (yfX s0 i0 ((IntKind.wrap .u32 (Int.tdiv a1 2)), (IntKind.wrap .i64 (a3 + 1)))) w))))
 (
 KS K1 (yg0 s0 (a1, (IntKind.wrap .i64 (i0 + 1)))) w)) :
 yaJ ymX (ys8 392 [0, 0, 1, 1, 0, 0, 1, 0, 0, 1, 0, 1, 1]) (ys9 [1, 1, 0, 1, 0, 0, 1, 0, 0, 1, 1, 0] [K1] R) (yfX s0 i0 (i1, i2)) w0 :=
 lrule (yfX s0 i0) (U2 I) h0 (by rintro m ⟨a1, a3⟩ w h; exact ⟨by kernel_rfl, by kernel_rfl, fun js => Eq.mpr (by kernel_rfl) (hr m a1 a3 w h)⟩)
theorem yDW (h :
 yaJ ymW (ys8 396 [0, 0, 1, 0, 1, 1]) (ys9 [1, 1, 0, 1, 0] [] R) (yg0 s0 ((IntKind.wrap .u32 (4294967295 - i0)), 0)) w) :
 CR pP 105 #[.int .u32 i0, .string s0] w R :=
 yaA Tryz.wide_mixed (an := ymY) Tryz.func105 rfl rfl (by kernel_rfl) rfl (Eq.mpr (by kernel_rfl) h)
theorem yDX (h :
 Calls pP 105 #[.int .u32 0, .string s0] w fun e w1 => ∃ x2, e = .returned (.int .u32 x2) ∧
 R (.int .u32 x2) w1) :
 CR pP 69 #[.string s0] w R :=
 yaA Tryz.wide_mixed (an := []) Tryz.func69 rfl rfl (by kernel_rfl) rfl (Eq.mpr (by kernel_rfl) h)
theorem yDY (h :
 nz 256 (nz 256 (nz 256 (nz 65536 (nz 256 (nz 16777216 (
 al w (.cells #[(.int .u8 (IntKind.wrap .u8 (Int.tmod i0 256))), (.int .u8 (IntKind.wrap .u8 (Int.tmod (IntKind.wrap .u32 (Int.tdiv i0 256)) 256))), (.int .u8 (IntKind.wrap .u8 (Int.tmod (IntKind.wrap .u32 (Int.tdiv i0 65536)) 256))), (.int .u8 (IntKind.wrap .u8 (IntKind.wrap .u32 (Int.tdiv i0 16777216))))] 5) fun b1 w2 =>
 ∃ s3 w4, Sem.run pP (Go.convert 40 9 (.slice (some ⟨b1, 0, none⟩) 4 4)) w2 = .ok (.string s3) w4 ∧
 R (.string s3) w4))))))) :
 CR pP 68 #[.int .u32 i0] w R :=
 yaA Tryz.wide_mixed (an := []) Tryz.func68 rfl rfl (by kernel_rfl) rfl (Eq.mpr (by kernel_rfl) h)
theorem yDZ {a0 : BA} (h :
 Calls pP 34 #[.string a0] w fun e w1 => ∃ s2, e = .returned (.string s2) ∧
 Calls pP 69 #[.string a0] w1 fun e w3 => ∃ x4, e = .returned (.int .u32 x4) ∧
 Calls pP 68 #[.int .u32 x4] w3 fun e w5 => ∃ s6, e = .returned (.string s6) ∧
 yfC s2 s6 fun s7 =>
 R (.string s7) w5) :
 CR pP 35 #[.string a0] w R :=
 yaA Tryz.wide_mixed (an := []) Tryz.func35 rfl rfl (by kernel_rfl) rfl (Eq.mpr (by kernel_rfl) h)
theorem yD0 {a1 : BA} {a0 : BA} (h :
 ∀ b1, w.heap.size ≤ b1 →
 brB B1 (
 ∀ w2, Adv [] [b1] w w2 →
 Calls pP 34 #[.string a1] w2 fun e w3 => ∃ s4, e = .returned (.string s4) ∧ yaI [b1] w2 w3 ∧
 yfC (⟨#[3]⟩ : BA) s4 fun s5 =>
 R (.string s5) w3)
 (
 brB B0 (
 ∀ w6, Adv [] [b1] w w6 →
 Calls pP 34 #[.string a1] w6 fun e w7 => ∃ s8, e = .returned (.string s8) ∧ yaI [b1] w6 w7 ∧ (((.string a0) : Value) = (.string a0)) ∧
 yfC (⟨#[1]⟩ : BA) s8 fun s9 =>
 Calls pP 34 #[.string a0] w7 fun e a7 => ∃ a5, e = .returned (.string a5) ∧ yaI [b1] w7 a7 ∧
 yfC s9 a5 fun a9 =>
 R (.string a9) a7)
 (
 ∀ a4, Adv [] [b1] w a4 →
 Calls pP 34 #[.string a0] a4 fun e a8 => ∃ a6, e = .returned (.string a6) ∧ yaI [b1] a4 a8 ∧
 yfC (⟨#[0]⟩ : BA) a6 fun b0 =>
 R (.string b0) a8))) :
 CR pP 67 #[(.agg (Z7 B0 a1 B1 a0))] w R :=
 yaA Tryz.wide_mixed (an := []) Tryz.func67 rfl rfl (by kernel_rfl) rfl (Eq.mpr (by kernel_rfl) h)
theorem yD1 (h :
 Calls pP 31 #[(.int .u64 (IntKind.wrap .u64 i0))] w fun e w1 => ∃ s2, e = .returned (.string s2) ∧
 R (.string s2) w1) :
 CR pP 66 #[.int .i64 i0] w R :=
 yaA Tryz.wide_mixed (an := []) Tryz.func66 rfl rfl (by kernel_rfl) rfl (Eq.mpr (by kernel_rfl) h)
end
end Go.Proofs.YtkbcmppbjfpjmaaGreat
namespace Go.Proofs.YtkbcmppbjfpjmaaGreat
open Go Go.RowKit Go.Shelf
set_option linter.unusedVariables false
set_option linter.unusedSimpArgs false
theorem yeV (k : UInt8) (W : World) (a : Nat) (h : W.heap[a]? = some (.cells #[.int .u8 (k.toNat : Nat)] 5)) :
  Sem.run pP (Go.convert 40 9 (.slice (some ⟨a, 0, none⟩) 1 1)) W = .ok (.string (bs [k])) W := by
 refine run_convert_bytes_back W _ _ 5 ⟨a, 0, none⟩ 1 [k] Tryz.underlying40 Tryz.underlying5 Tryz.underlying9 fun j hj => ?_
 rw [ya1, Nat.zero_add, yaY h]
 have hj : j = 0 := by simpa using hj
 subst hj
 rfl
def hb7 (n : Nat) : UInt8 := UInt8.ofNat (n % 128 + 128)
theorem yHG (n : Nat) : IntKind.wrap .u8 (IntKind.wrap .u64 (Int.tmod (n : Int) 128 + 128)) = (((hb7 n).toNat : Nat) : Int) := by
 rw [Int.tmod_eq_emod_of_nonneg (by omega), IntKind.wrap_u64, IntKind.wrap_u8]; simp [hb7]
theorem yzS (n : Nat) (W : World) : (W.alloc (.cells #[.int .u8 (IntKind.wrap .u8 (IntKind.wrap .u64 (Int.tmod (n : Int) 128 + 128)))] 5)).heap[W.heap.size]? = some (.cells #[.int .u8 (((hb7 n).toNat : Nat) : Int)] 5) := by
 rw [yHG]; exact World.alloc_heap_new W _
theorem yzT (n : Nat) (W : World) : (W.alloc (.cells #[.int .u8 (IntKind.wrap .u8 (IntKind.wrap .u64 (Int.tmod (n : Int) 128 + 128)))] 5)).drew.heap[W.heap.size]? = some (.cells #[.int .u8 (((hb7 n).toNat : Nat) : Int)] 5) := yzS n W
theorem yD2 (n : Nat) (W : World) : Mod [] W (W.alloc (.cells #[.int .u8 (IntKind.wrap .u8 (IntKind.wrap .u64 (Int.tmod (n : Int) 128 + 128)))] 5)) := Mod.of_below ((Below.refl _ _).alloc (Nat.le_refl _) _)
theorem yIr (n : Nat) (hn : n < 18446744073709551616) : IntKind.wrap .u64 ((n : Int) / 128) = ((n / 128 : Nat) : Int) := by rw [IntKind.wrap_u64]; omega
set_option maxRecDepth 100000 in
set_option maxHeartbeats 4000000 in
theorem yzU (n : Nat) (hn : n < 18446744073709551616) (hb : 128 ≤ n) (ih : ∀ w, Calls pP 31 #[.int .u64 (n / 128 : Nat)] w fun e w' => e = .returned (.string (bs (yaL (n / 128)))) ∧ Mod [] w w') (w : World) :
  Calls pP 31 #[.int .u64 (n : Nat)] w fun e w' => e = .returned (.string (bs ([hb7 n] ++ yaL (n / 128)))) ∧ Mod [] w w' := by
 have mixed := Tryz.wide_mixed
 have hd : decide ((n : Int) < 128) = false := by simp; omega
 go_enter Tryz.func31, Tryz.ntmps31
 go_wp2
 have hcat : ¬ (bs [hb7 n]).size + (bs (yaL (n / 128))).size > 9223372036854775807 := by
  rw [yaE, yaE]; have := (yaN (n / 128) (by omega)).2; simp; omega
 go_region_with (first
  | (go_at_call 31; rw [yIr n hn]; refine (ih _).mono ?_; rintro e w' ⟨rfl, M⟩)
  | (rw [yeV _ _ _ (yzT n _)]; simp only [Result.andThen]; rw [Oper.upon_value])
  | (rw [yeV _ _ _ (yzS n _)]; simp only [Result.andThen]; rw [Oper.upon_value])
  | (rw [yeV _ _ _ (M.keep0 (yzT n _))]; simp only [Result.andThen]; rw [Oper.upon_value])
  | (rw [yeV _ _ _ (M.keep0 (yzS n _))]; simp only [Result.andThen]; rw [Oper.upon_value]))
 all_goals go_wp2
 all_goals go_ret
 ·exact ⟨by rw [ybH]; rfl, (yD2 n w).trans ((Mod.drewN _ 1).trans M)⟩
 ·exact ⟨by rw [ybH]; rfl, (yD2 n w).trans ((Mod.drewN _ 1).trans M)⟩
 ·exact ⟨by rw [ybH]; rfl, (Mod.drewN _ 1).trans (M.trans (yD2 n _))⟩
theorem ytA : ∀ (k n : Nat), n < 128 ^ (k + 1) → n < 18446744073709551616 → ∀ w, Calls pP 31 #[.int .u64 (n : Nat)] w fun e w' => e = .returned (.string (bs (yaL n))) ∧ Mod [] w w'
 | k, n, hk, hn, w => by
  by_cases hb : n < 128
  ·refine yaQ (yDT ?_)
   rw [decide_eq_true (by omega), yrS]
   refine ycZ fun b1 w1 c1 M1 f1 => ?_
   have e8 : IntKind.wrap .u8 (n : Int) = ((UInt8.ofNat n).toNat : Nat) := by rw [IntKind.wrap_u8]; simp
   rw [e8] at c1
   refine ⟨_, _, yeV _ _ _ c1, ?_, M1⟩
   unfold yaL
   rw [yc2 hb]; rfl
  ·cases k with
   | zero => omega
   | succ k =>
    have e : yaL n = [hb7 n] ++ yaL (n / 128) := by
     unfold yaL; rw [ygA hb]; rfl
    rw [e]
    exact yzU n hn (by omega) (ytA k (n / 128) (by rw [Nat.pow_succ] at hk; omega) (by omega)) w
theorem ygI {n : Nat} (hn : n < 18446744073709551616) (w : World) : Calls pP 31 #[.int .u64 (n : Nat)] w fun e w' => e = .returned (.string (bs (yaL n))) ∧ Mod [] w w' :=
 ytA 9 n (by omega) hn w
theorem ycP (s : ByteArray) (hs : s.size ≤ 1000000000000) (w : World) : Calls pP 34 #[.string s] w fun e w' => e = .returned (.string (bs (ybP s))) ∧ Mod [] w w' := by
 refine yaQ (yDU ?_)
 rw [ygF (by omega)]
 refine (ygI (by omega) w).mono ?_
 rintro e w1 ⟨rfl, M1⟩
 refine ⟨_, rfl, by have := (yaN s.size (by omega)).2; rw [yaE]; omega, by rw [yi4]; rfl, M1⟩
end Go.Proofs.YtkbcmppbjfpjmaaGreat
namespace Go.Proofs.YtkbcmppbjfpjmaaGreat
open Go Go.RowKit
set_option linter.all false
theorem ytB (a b k : Nat) : (a ^^^ b) / 2 ^ k = (a / 2 ^ k) ^^^ (b / 2 ^ k) := by
 rw [← Nat.shiftRight_eq_div_pow, ← Nat.shiftRight_eq_div_pow, ← Nat.shiftRight_eq_div_pow, Nat.shiftRight_xor_distrib]
theorem yBB (a b : Nat) : (a ^^^ b) / 2 = (a / 2) ^^^ (b / 2) := ytB a b 1
theorem ytC (a b : Nat) : (a ^^^ b) % 2 = (a + b) % 2 := by
 have h := @Nat.xor_mod_two_eq_one a b
 omega
theorem yrL {a b : Nat} (ha : a < 4294967296) (hb : b < 4294967296) : a ^^^ b < 4294967296 := Nat.xor_lt_two_pow (n := 32) ha hb
theorem ypE {a b : Nat} (ha : a < 4294967296) (hb : b < 4294967296) : yd4 .u32 a b = ((a ^^^ b : Nat) : Int) := by
 have h := yrL ha hb
 unfold yd4
 rw [IntKind.wrap_u32]
 simp only [BitVec.toNat_xor, BitVec.toNat_ofInt]
 have e1 : ((a : Int) % ((2 ^ IntKind.bits .u32 : Nat) : Int)).toNat = a := by
  show ((a : Int) % ((2 ^ 32 : Nat) : Int)).toNat = a
  omega
 have e2 : ((b : Int) % ((2 ^ IntKind.bits .u32 : Nat) : Int)).toNat = b := by
  show ((b : Int) % ((2 ^ 32 : Nat) : Int)).toNat = b
  omega
 rw [e1, e2]
 omega
theorem yHH {a b : Nat} (ha : a < 4294967296) (hb : b < 4294967296) : yj0 .u32 a b = ((a &&& b : Nat) : Int) := by
 have h : a &&& b < 4294967296 := Nat.lt_of_le_of_lt Nat.and_le_left ha
 unfold yj0
 rw [IntKind.wrap_u32]
 simp only [BitVec.toNat_and, BitVec.toNat_ofInt]
 have e1 : ((a : Int) % ((2 ^ IntKind.bits .u32 : Nat) : Int)).toNat = a := by
  show ((a : Int) % ((2 ^ 32 : Nat) : Int)).toNat = a
  omega
 have e2 : ((b : Int) % ((2 ^ IntKind.bits .u32 : Nat) : Int)).toNat = b := by
  show ((b : Int) % ((2 ^ 32 : Nat) : Int)).toNat = b
  omega
 rw [e1, e2]
 omega
theorem yzV {a b : Nat} (ha : a < 4294967296) (hb : b < 4294967296) (w : World) :
  Calls pP 128 #[.int .u32 (a : Nat), .int .u32 (b : Nat)] w fun e w' => e = .returned (.int .u32 ((a ^^^ b : Nat) : Int)) ∧ w' = w := by
 refine yaQ (yDV ?_)
 refine yuH (fun mm x0 x1 x5 x6 x7 w' => ∃ k : Nat, k ≤ 32 ∧ x7 = k ∧ x0 = (a / 2 ^ k : Nat) ∧ x1 = (b / 2 ^ k : Nat) ∧ x5 = ((a ^^^ b) % 2 ^ k : Nat) ∧ x6 = (if k = 32 then 0 else 2 ^ k : Nat) ∧ w' = w ∧ mm = 32 - k) 32
  ⟨0, by omega, rfl, by simp, by simp, by simp [Nat.mod_one], by simp, rfl, rfl⟩ ?_
 rintro mm x0 x1 x5 x6 x7 w' ⟨k, hk, rfl, rfl, rfl, rfl, rfl, rfl, rfl⟩
 refine yaC (fun hlt => ?_) fun hge => ?_
 ·have hk' : k < 32 := by omega
  rw [if_neg (by omega)]
  have hp : 2 ^ k ≤ 2 ^ 31 := Nat.pow_le_pow_right (by omega) (by omega)
  have hx := yrL ha hb
  have a1 : a / 2 ^ k ≤ a := Nat.div_le_self _ _
  have b1 : b / 2 ^ k ≤ b := Nat.div_le_self _ _
  have dx := ytB a b k
  have dm := ytC (a / 2 ^ k) (b / 2 ^ k)
  rw [← dx] at dm
  have ms : (a ^^^ b) % 2 ^ (k + 1) = (a ^^^ b) % 2 ^ k + 2 ^ k * ((a ^^^ b) / 2 ^ k % 2) := Nat.mod_pow_succ
  have lt1 : (a ^^^ b) % 2 ^ k < 2 ^ k := Nat.mod_lt _ (Nat.pow_pos (by omega))
  have da : a / 2 ^ (k + 1) = a / 2 ^ k / 2 := by rw [Nat.pow_succ, Nat.div_div_eq_div_mul]
  have db : b / 2 ^ (k + 1) = b / 2 ^ k / 2 := by rw [Nat.pow_succ, Nat.div_div_eq_div_mul]
  have p31 : k = 31 → 2 ^ k = 2147483648 := fun h => by subst h; rfl
  have ps : 2 ^ (k + 1) = 2 * 2 ^ k := by rw [Nat.pow_succ]; omega
  have p30 : k ≠ 31 → 2 ^ k ≤ 1073741824 := fun h => Nat.pow_le_pow_right (n := 2) (by omega) (show k ≤ 30 by omega)
  generalize hP : 2 ^ k = P at *
  generalize a / P = A at *
  generalize b / P = B at *
  generalize (a ^^^ b) / P = X at *
  generalize (a ^^^ b) % P = Y at *
  have ek : IntKind.wrap .i64 ((k : Int) + 1) = ((k + 1 : Nat) : Int) := by rw [yaG (by omega) (by omega)]; omega
  have eA : IntKind.wrap .u32 (Int.tdiv (A : Int) 2) = ((A / 2 : Nat) : Int) := by rw [Int.tdiv_eq_ediv_of_nonneg (by omega), IntKind.wrap_u32]; omega
  have eB : IntKind.wrap .u32 (Int.tdiv (B : Int) 2) = ((B / 2 : Nat) : Int) := by rw [Int.tdiv_eq_ediv_of_nonneg (by omega), IntKind.wrap_u32]; omega
  have eP : IntKind.wrap .u32 ((P : Int) * 2) = ((if k + 1 = 32 then 0 else 2 ^ (k + 1) : Nat) : Int) := by
   rw [IntKind.wrap_u32]
   by_cases h : k = 31
   ·rw [if_pos (by omega)]; have := p31 h; omega
   ·rw [if_neg (by omega)]; have := p30 h; omega
  have eT : ((Int.tmod (A : Int) 2) != (Int.tmod (B : Int) 2)) = decide (X % 2 = 1) := by
   rw [Int.tmod_eq_emod_of_nonneg (by omega), Int.tmod_eq_emod_of_nonneg (by omega), Bool.eq_iff_iff]
   simp
   omega
  refine ⟨by omega, by omega, ?_⟩
  rw [eT, eA, eB, eP, ek]
  refine yaC (fun hX => ⟨by omega, by omega, ?_⟩) fun hX => ⟨by omega, by omega, ?_⟩
  ·have e5 : IntKind.wrap .u32 ((Y : Int) + (P : Int)) = (((a ^^^ b) % 2 ^ (k + 1) : Nat) : Int) := by
    rw [ms, hX, IntKind.wrap_u32]; omega
   rw [e5]
   exact ylK (32 - (k + 1)) (by omega) ⟨k + 1, by omega, rfl, by rw [da], by rw [db], rfl, rfl, rfl, rfl⟩
  ·have e5 : (Y : Int) = (((a ^^^ b) % 2 ^ (k + 1) : Nat) : Int) := by
    have : X % 2 = 0 := by omega
    rw [ms, this]; omega
   rw [e5]
   exact ylK (32 - (k + 1)) (by omega) ⟨k + 1, by omega, rfl, by rw [da], by rw [db], rfl, rfl, rfl, rfl⟩
 ·have hk : k = 32 := by omega
  subst hk
  refine ⟨?_, rfl⟩
  rw [Nat.mod_eq_of_lt (by have := yrL ha hb; omega)]
def stN (x : Nat) : Nat := if x % 2 = 1 then (x / 2) ^^^ 3988292384 else x / 2
def itN (x : Nat) : Nat → Nat
 | 0 => x
 | k + 1 => stN (itN x k)
theorem yHI {x : Nat} (h : x < 4294967296) : stN x < 4294967296 := by
 unfold stN
 split
 ·exact yrL (by omega) (by omega)
 ·omega
theorem ylM {x : Nat} (h : x < 4294967296) : ∀ k, itN x k < 4294967296
 | 0 => h
 | k + 1 => yHI (ylM h k)
theorem yD3 (x y : Nat) : stN (x ^^^ y) = stN x ^^^ stN y := by
 have hp := ytC x y
 have hh := yBB x y
 unfold stN
 by_cases h1 : x % 2 = 1 <;> by_cases h2 : y % 2 = 1
 ·rw [if_neg (by omega), if_pos h1, if_pos h2, hh, Nat.xor_assoc, Nat.xor_comm 3988292384, Nat.xor_assoc, Nat.xor_self, Nat.xor_zero]
 ·rw [if_pos (by omega), if_pos h1, if_neg h2, hh, Nat.xor_assoc, Nat.xor_assoc, Nat.xor_comm 3988292384]
 ·rw [if_pos (by omega), if_neg h1, if_pos h2, hh, Nat.xor_assoc]
 ·rw [if_neg (by omega), if_neg h1, if_neg h2, hh]
theorem yzW (x y : Nat) : ∀ k, itN (x ^^^ y) k = itN x k ^^^ itN y k
 | 0 => rfl
 | k + 1 => by show stN _ = stN _ ^^^ stN _; rw [yzW x y k, yD3]
theorem yzX (x j : Nat) : ∀ k, itN x (j + k) = itN (itN x j) k
 | 0 => rfl
 | k + 1 => congrArg stN (yzX x j k)
theorem ymZ (y : Nat) : stN (2 * y) = y := by unfold stN; rw [if_neg (by omega)]; omega
theorem yHJ (h : Nat) : itN (16 * h) 4 = h := by
 show stN (stN (stN (stN (16 * h)))) = h
 rw [show 16 * h = 2 * (8 * h) by omega, ymZ, show 8 * h = 2 * (4 * h) by omega, ymZ, show 4 * h = 2 * (2 * h) by omega, ymZ, ymZ]
theorem nib (x : Nat) : x = (16 * (x / 16)) ^^^ (x % 16) := by
 apply Nat.eq_of_testBit_eq
 intro i
 rw [Nat.testBit_xor, show 16 * (x / 16) = 2 ^ 4 * (x / 2 ^ 4) by omega, show x % 16 = x % 2 ^ 4 by omega, Nat.testBit_two_pow_mul, Nat.testBit_mod_two_pow, Nat.testBit_div_two_pow]
 by_cases h : i < 4
 ·simp [h, show ¬ 4 ≤ i by omega]
 ·simp [h, show 4 ≤ i by omega]
theorem yD4 (x : Nat) : itN x 4 = (x / 16) ^^^ itN (x % 16) 4 := by
 have h := yzW (16 * (x / 16)) (x % 16) 4
 rw [← nib, yHJ] at h
 exact h
theorem yzY {x : Nat} (h : x < 4294967296) : ymG (x : Nat) = ((stN x : Nat) : Int) := by
 have e1 : Int.fdiv (x : Int) (2 ^ (min (Int.toNat 1) 32)) = ((x / 2 : Nat) : Int) := by
  rw [Int.fdiv_eq_ediv_of_nonneg _ (by decide)]; show (x : Int) / 2 = _; omega
 have e2 : yj0 .u32 (x : Nat) 1 = ((x % 2 : Nat) : Int) := by
  have := yHH h (b := 1) (by omega)
  rw [Nat.and_one_is_mod] at this; exact this
 unfold ymG stN
 rw [e1, e2]
 by_cases hx : x % 2 = 1
 ·rw [if_pos hx, hx]
  have e3 : yj0 .u32 3988292384 (IntKind.wrap .u32 (0 - ((1 : Nat) : Int))) = ((3988292384 : Nat) : Int) := by decide +kernel
  rw [e3, ypE (by omega) (by omega)]
 ·rw [if_neg hx, show x % 2 = 0 by omega]
  have e3 : yj0 .u32 3988292384 (IntKind.wrap .u32 (0 - ((0 : Nat) : Int))) = ((0 : Nat) : Int) := by decide +kernel
  rw [e3, ypE (by omega) (by omega), Nat.xor_zero]
theorem yzZ {x : Nat} (h : x < 4294967296) : ∀ k, yt4 (x : Nat) k = ((itN x k : Nat) : Int)
 | 0 => rfl
 | k + 1 => by show ymG (yt4 _ k) = _; rw [yzZ h k, yzY (ylM h k)]; rfl
theorem yHK {j : Nat} (h : j < 4294967296) : ydY j = ((itN j 4 : Nat) : Int) := by
 unfold ydY
 rw [show IntKind.wrap .u32 (j : Int) = (j : Nat) by rw [IntKind.wrap_u32]; omega]
 exact yzZ h 4
def byN (c : Nat) (b : UInt8) : Nat := itN (c ^^^ b.toNat) 8
theorem yIs (b : UInt8) : b.toNat < 256 := b.toNat_lt
theorem yCK {c : Nat} (h : c < 4294967296) (b : UInt8) : byN c b < 4294967296 := ylM (yrL h (by have := yIs b; omega)) 8
theorem yz0 {c : Nat} (h : c < 4294967296) (b : UInt8) : ydB (c : Nat) b = ((byN c b : Nat) : Int) := by
 have hb := yIs b
 have ew : IntKind.wrap .u32 ((b.toNat : Nat) : Int) = ((b.toNat : Nat) : Int) := by rw [IntKind.wrap_u32]; omega
 have half : ∀ {x : Nat}, x < 4294967296 → yd4 .u32 (Int.fdiv (x : Nat) (2 ^ (min (Int.toNat 4) 32))) (ydY (Int.tmod ((x : Nat) : Int) 16).toNat) = ((itN x 4 : Nat) : Int) := fun {x} hx => by
  have e1 : Int.fdiv (x : Int) (2 ^ (min (Int.toNat 4) 32)) = ((x / 16 : Nat) : Int) := by
   rw [Int.fdiv_eq_ediv_of_nonneg _ (by decide)]; show (x : Int) / 16 = _; omega
  have e2 : (Int.tmod ((x : Nat) : Int) 16).toNat = x % 16 := by rw [Int.tmod_eq_emod_of_nonneg (by omega)]; omega
  rw [e1, e2, yHK (by omega), ypE (by omega) (ylM (by omega) 4), yD4 x]
 have hx := yrL h (b := b.toNat) (by omega)
 unfold ydB byN
 rw [ew, ypE h (by omega), half hx, half (ylM hx 4), ← yzX]
def yz1 (c : Nat) (l : List UInt8) : Nat := l.foldl byN c
theorem ym0 : ∀ (l : List UInt8) {c : Nat}, c < 4294967296 → yz1 c l < 4294967296
 | [], c, h => h
 | b :: l, c, h => ym0 l (yCK h b)
theorem yCL : ∀ (l : List UInt8) {c : Nat}, c < 4294967296 → l.foldl ydB (c : Nat) = ((yz1 c l : Nat) : Int)
 | [], c, h => rfl
 | b :: l, c, h => by
  show l.foldl ydB (ydB (c : Nat) b) = _
  rw [yz0 h, yCL l (yCK h b)]; rfl
theorem yIt {c : Nat} (h : c < 4294967296) : 4294967295 ^^^ c = 4294967295 - c := by
 have e := congrArg BitVec.toNat (BitVec.xor_allOnes (x := BitVec.ofNat 32 c))
 rw [BitVec.toNat_not, BitVec.toNat_xor, BitVec.toNat_allOnes, BitVec.toNat_ofNat, Nat.mod_eq_of_lt (by omega), Nat.xor_comm] at e
 exact e
theorem yCM {c : Nat} (h : c < 4294967296) : yd4 .u32 4294967295 (c : Nat) = ((4294967295 - c : Nat) : Int) := by
 have := ypE (a := 4294967295) (b := c) (by omega) h
 rw [yIt h] at this; exact this
theorem yCN {c : Nat} (h : c < 4294967296) (l : List UInt8) : yFP (c : Nat) l = ((4294967295 - yz1 (4294967295 - c) l : Nat) : Int) := by
 unfold yFP
 rw [yCM h, yCL l (by omega), yCM (ym0 l (by omega))]
def yIu (l : List UInt8) : Nat := 4294967295 - yz1 4294967295 l
theorem yCO (l : List UInt8) : yx0 l = ((yIu l : Nat) : Int) := yCN (c := 0) (by omega) l
theorem yD5 (l : List UInt8) : yIu l < 4294967296 := by unfold yIu; omega
theorem yBC {c : Nat} (hc : c < 4294967296) (s : ByteArray) (hs : s.size ≤ 1000000000000) (w : World) : Calls pP 105 #[.int .u32 (c : Nat), .string s] w fun e w' => e = .returned (.int .u32 (yFP (c : Nat) s.data.toList)) ∧ Mod [] w w' := by
 refine yaQ (yDW ?_)
 rw [yCN hc]
 have e0 : IntKind.wrap .u32 (4294967295 - (c : Int)) = ((4294967295 - c : Nat) : Int) := by rw [IntKind.wrap_u32]; omega
 rw [e0]
 refine yuJ (fun mm x y w' => ∃ k : Nat, y = k ∧ k ≤ s.size ∧ x = (yz1 (4294967295 - c) (s.data.toList.take k) : Nat) ∧ w' = w ∧ mm = s.size - k) s.size ⟨0, rfl, by omega, rfl, rfl, rfl⟩ ?_
 rintro mm x y w3 ⟨k, rfl, hk, rfl, rfl, rfl⟩
 have hlt1 := ym0 (s.data.toList.take k) (c := 4294967295 - c) (by omega)
 refine yaC (fun hlt => ?_) fun hge => ?_
 ·have hk' : k < s.size := by omega
  obtain ⟨b, hb, hv⟩ := ydX hk'
  have hb8 := yIs b
  refine ⟨by omega, by omega, ?_⟩
  rw [Int.toNat_natCast, hv]
  dsimp only
  rw [show IntKind.wrap .u32 ((b.toNat : Nat) : Int) = ((b.toNat : Nat) : Int) by rw [IntKind.wrap_u32]; omega]
  refine (yzV hlt1 (by omega) w3).mono ?_
  rintro e w4 ⟨rfl, rfl⟩
  refine ⟨_, rfl, ?_⟩
  have hx := yrL hlt1 (b := b.toNat) (by omega)
  refine yuK (fun mm x y w' => ∃ j : Nat, y = j ∧ j ≤ 8 ∧ x = (itN (yz1 (4294967295 - c) (s.data.toList.take k) ^^^ b.toNat) j : Nat) ∧ w' = w4 ∧ mm = 8 - j) 8 ⟨0, rfl, by omega, rfl, rfl, rfl⟩ ?_
  rintro mm x y w5 ⟨j, rfl, hj, rfl, rfl, rfl⟩
  have hi := ylM hx j
  have ej : IntKind.wrap .i64 ((j : Int) + 1) = ((j + 1 : Nat) : Int) := by rw [yaG (by omega) (by omega)]; omega
  refine yaC (fun hlt => ⟨by omega, by omega, ?_⟩) fun hge => ?_
  ·have est : itN (yz1 (4294967295 - c) (s.data.toList.take k) ^^^ b.toNat) (j + 1) = stN (itN (yz1 (4294967295 - c) (s.data.toList.take k) ^^^ b.toNat) j) := rfl
   generalize itN (yz1 (4294967295 - c) (s.data.toList.take k) ^^^ b.toNat) j = X at hi est
   have eT : ((Int.tmod (X : Int) 2) == 1) = decide (X % 2 = 1) := by
    rw [Int.tmod_eq_emod_of_nonneg (by omega), Bool.eq_iff_iff]; simp; omega
   have eH : IntKind.wrap .u32 (Int.tdiv (X : Int) 2) = ((X / 2 : Nat) : Int) := by rw [Int.tdiv_eq_ediv_of_nonneg (by omega), IntKind.wrap_u32]; omega
   rw [eT, eH, ej]
   refine yaC (fun hX => ?_) fun hX => ?_
   ·refine (yzV (a := X / 2) (b := 3988292384) (by omega) (by omega) w5).mono ?_
    rintro e w6 ⟨rfl, rfl⟩
    refine ⟨_, rfl, ylL (8 - (j + 1)) (by omega) ⟨j + 1, rfl, by omega, ?_, rfl, rfl⟩⟩
    rw [est, stN, if_pos hX]
   ·refine ylL (8 - (j + 1)) (by omega) ⟨j + 1, rfl, by omega, ?_, rfl, rfl⟩
    rw [est, stN, if_neg hX]
  ·have hj : j = 8 := by omega
   subst hj
   refine yuI (s.size - (k + 1)) (by omega) ⟨k + 1, by rw [yaG (by omega) (by omega)]; omega, by omega, ?_, rfl, rfl⟩
   rw [List.take_add_one, hb]
   show _ = (((List.foldl byN (4294967295 - c) (List.take k s.data.toList ++ [b])) : Nat) : Int)
   rw [List.foldl_append]
   rfl
 ·have hk : k = s.size := by omega
  subst hk
  have e1 : IntKind.wrap .u32 (4294967295 - ((yz1 (4294967295 - c) s.data.toList : Nat) : Int)) = ((4294967295 - yz1 (4294967295 - c) s.data.toList : Nat) : Int) := by
   have := ym0 s.data.toList (c := 4294967295 - c) (by omega)
   rw [IntKind.wrap_u32]; omega
  rw [List.take_of_length_le (by simp), e1]
  exact ⟨rfl, Mod.refl _⟩
theorem yD6 (s : ByteArray) (hs : s.size ≤ 1000000000000) (w : World) : Calls pP 69 #[.string s] w fun e w' => e = .returned (.int .u32 (yx0 s.data.toList)) ∧ Mod [] w w' := by
 refine yaQ (yDX ?_)
 refine (yBC (c := 0) (by omega) s hs w).mono ?_
 rintro e w1 ⟨rfl, M1⟩
 exact ⟨_, rfl, rfl, M1⟩
theorem yD7 {n : Nat} (hn : n < 4294967296) (w : World) : Calls pP 68 #[.int .u32 (n : Nat)] w fun e w' => e = .returned (.string (bs (ycT (n : Nat)))) ∧ Mod [] w w' := by
 refine yaQ (yDY ?_)
 refine ⟨by omega, by omega, by omega, by omega, by omega, by omega, ?_⟩
 refine ycZ fun b1 w1 c1 M1 f1 => ?_
 have k0 : lbI (n : Nat) 0 = ((n % 256 : Nat) : Int) := by
  unfold lbI; rw [Int.fdiv_eq_ediv_of_nonneg _ (by decide), IntKind.wrap_u8]; show ((n : Int) / 1) % 256 = _; omega
 have k1 : lbI (n : Nat) 1 = ((n / 256 % 256 : Nat) : Int) := by
  unfold lbI; rw [Int.fdiv_eq_ediv_of_nonneg _ (by decide), IntKind.wrap_u8]; show ((n : Int) / 256) % 256 = _; omega
 have k2 : lbI (n : Nat) 2 = ((n / 65536 % 256 : Nat) : Int) := by
  unfold lbI; rw [Int.fdiv_eq_ediv_of_nonneg _ (by decide), IntKind.wrap_u8]; show ((n : Int) / 65536) % 256 = _; omega
 have k3 : lbI (n : Nat) 3 = ((n / 16777216 : Nat) : Int) := by
  unfold lbI; rw [Int.fdiv_eq_ediv_of_nonneg _ (by decide), IntKind.wrap_u8]; show ((n : Int) / 16777216) % 256 = _; omega
 have v0 : IntKind.wrap .u8 (Int.tmod (n : Int) 256) = lbI (n : Nat) 0 := by
  rw [k0, Int.tmod_eq_emod_of_nonneg (a := (n : Int)) (by omega), IntKind.wrap_u8]; omega
 have v1 : IntKind.wrap .u8 (Int.tmod (IntKind.wrap .u32 (Int.tdiv (n : Int) 256)) 256) = lbI (n : Nat) 1 := by
  rw [k1, Int.tdiv_eq_ediv_of_nonneg (a := (n : Int)) (by omega), IntKind.wrap_u32, Int.tmod_eq_emod_of_nonneg (by omega), IntKind.wrap_u8]; omega
 have v2 : IntKind.wrap .u8 (Int.tmod (IntKind.wrap .u32 (Int.tdiv (n : Int) 65536)) 256) = lbI (n : Nat) 2 := by
  rw [k2, Int.tdiv_eq_ediv_of_nonneg (a := (n : Int)) (by omega), IntKind.wrap_u32, Int.tmod_eq_emod_of_nonneg (by omega), IntKind.wrap_u8]; omega
 have v3 : IntKind.wrap .u8 (IntKind.wrap .u32 (Int.tdiv (n : Int) 16777216)) = lbI (n : Nat) 3 := by
  rw [k3, Int.tdiv_eq_ediv_of_nonneg (a := (n : Int)) (by omega), IntKind.wrap_u32, IntKind.wrap_u8]; omega
 rw [v0, v1, v2, v3] at c1
 refine ⟨_, _, run_convert_bytes_back w1 _ _ 5 ⟨b1, 0, none⟩ 4 (ycT (n : Nat)) Tryz.underlying40 Tryz.underlying5 Tryz.underlying9 fun j hj => ?_, rfl, M1⟩
 rw [ya1, Nat.zero_add, yaY c1]
 have hj : j < 4 := hj
 match j, hj with
 | 0, _ => simp [ycT, yhO]
 | 1, _ => simp [ycT, yhO]
 | 2, _ => simp [ycT, yhO]
 | 3, _ => simp [ycT, yhO]
theorem yz2 (s : ByteArray) (hs : s.size ≤ 1000000000000) (w : World) : Calls pP 35 #[.string s] w fun e w' => e = .returned (.string (bs (ycW s))) ∧ Mod [] w w' := by
 refine yaQ (yDZ ?_)
 refine (ycP s hs w).mono ?_
 rintro e w1 ⟨rfl, M1⟩
 refine ⟨_, rfl, ?_⟩
 refine (yD6 s hs w1).mono ?_
 rintro e w2 ⟨rfl, M2⟩
 rw [yCO]
 refine ⟨_, rfl, ?_⟩
 refine (yD7 (yD5 _) w2).mono ?_
 rintro e w3 ⟨rfl, M3⟩
 refine ⟨_, rfl, by have := (ya0 s (by omega)).2; rw [yaE, yaE]; simp only [ycT, List.length_cons, List.length_nil]; omega, ?_, M1.trans (M2.trans M3)⟩
 rw [ybH, ycW, yCO]
theorem yz3 {w : World} {a1 a2 : Option Addr} {n1 c1 n2 c2 : Nat} {l1 l2 : List ByteArray} (h1 : ybS w 1 yi6 a1 n1 l1) (h2 : ybS w 1 yi6 a2 n2 l2) (hl : l1.length ≤ 1000000) :
  Calls pP 109 #[.slice a1 n1 c1, .slice a2 n2 c2] w fun e w' => e = .returned (.bool (decide (l1 = l2))) ∧ Mod [] w w' := by
 refine yaQ (yF3 ?_)
 have e1 := h1.1
 have e2 := h2.1
 refine yaB (fun h => ⟨congrArg Value.bool (decide_eq_false fun e => ?_).symm, Mod.refl _⟩) fun h => ?_
 ·subst e
  rw [e1, e2] at h
  simp at h
 have hlen : l1.length = l2.length := by
  simp at h
  omega
 refine yx9 (fun mm x w' => ∃ k : Nat, x = k ∧ k ≤ l1.length ∧ l1.take k = l2.take k ∧ Mod [] w w' ∧ mm = l1.length - k) l1.length ⟨0, rfl, by omega, by simp, Mod.refl _, rfl⟩ ?_
 rintro mm x w1 ⟨k, rfl, hk, ht, M, rfl⟩
 refine yaC (fun hlt => ?_) fun hge => ?_
 ·have g1 : k < l1.length := by omega
  have g2 : k < l2.length := by omega
  obtain ⟨x, hx⟩ : ∃ x, l1[k]? = some x := ⟨_, List.getElem?_eq_getElem g1⟩
  obtain ⟨y, hy⟩ : ∃ y, l2[k]? = some y := ⟨_, List.getElem?_eq_getElem g2⟩
  refine (h1.keep0 M).ix hx fun q hq => yaH (by simpa [add_zero] using hq 0 _ rfl) ?_
  refine (h2.keep0 M).ix hy fun q hq => yaH (by simpa [add_zero] using hq 0 _ rfl) ?_
  rw [yf9 x y]
  refine yaB (fun hne => ?_) fun heq => ?_
  rotate_left
  rotate_right
  ·intro w2 A2
   refine ⟨congrArg Value.bool (decide_eq_false fun e => (show ¬ x = y by simpa using hne) ?_).symm, M.go0 A2.mod (by simp)⟩
   subst e
   rw [hx] at hy
   exact Option.some.inj hy
  ·intro w2 A2
   have he : x = y := by simpa using heq
   subst he
   exact yx8 (l1.length - (k + 1)) (by omega) ⟨k + 1, by rw [yaG (by omega) (by omega)]; omega, by omega, yb4 ht hx hy, M.go0 A2.mod (by simp), rfl⟩
 ·have hk : k = l1.length := by omega
  subst hk
  rw [List.take_length, hlen, List.take_length] at ht
  exact ⟨congrArg Value.bool (decide_eq_true ht).symm, M⟩
theorem yrM {w : World} {a1 a2 : Option Addr} {n1 c1 n2 c2 : Nat} {l1 l2 : List PRec} (h1 : ybS w 4 yeR a1 n1 l1) (h2 : ybS w 4 yeR a2 n2 l2) (hl : l1.length ≤ 1000000) :
  Calls pP 130 #[.slice a1 n1 c1, .slice a2 n2 c2] w fun e w' => e = .returned (.bool (decide (l1 = l2))) ∧ Mod [] w w' := by
 refine yaQ (yFZ ?_)
 have e1 := h1.1
 have e2 := h2.1
 refine yaB (fun h => ⟨congrArg Value.bool (decide_eq_false fun e => ?_).symm, Mod.refl _⟩) fun h => ?_
 ·subst e
  rw [e1, e2] at h
  simp at h
 have hlen : l1.length = l2.length := by
  simp at h
  omega
 refine yx7 (fun mm x w' => ∃ k : Nat, x = k ∧ k ≤ l1.length ∧ l1.take k = l2.take k ∧ Mod [] w w' ∧ mm = l1.length - k) l1.length ⟨0, rfl, by omega, by simp, Mod.refl _, rfl⟩ ?_
 rintro mm x w1 ⟨k, rfl, hk, ht, M, rfl⟩
 refine yaC (fun hlt => ?_) fun hge => ?_
 ·have g1 : k < l1.length := by omega
  have g2 : k < l2.length := by omega
  obtain ⟨x, hx⟩ : ∃ x, l1[k]? = some x := ⟨_, List.getElem?_eq_getElem g1⟩
  obtain ⟨y, hy⟩ : ∃ y, l2[k]? = some y := ⟨_, List.getElem?_eq_getElem g2⟩
  refine (h1.keep0 M).ix hx fun q hq => yaM (by simpa [add_zero] using hq 0 _ rfl) (yaH (hq 1 _ rfl) (yaM (hq 2 _ rfl) (yaH (hq 3 _ rfl) ?_)))
  refine (h2.keep0 M).ix hy fun q hq => yaM (by simpa [add_zero] using hq 0 _ rfl) (yaH (hq 1 _ rfl) (yaM (hq 2 _ rfl) (yaH (hq 3 _ rfl) ?_)))
  refine ⟨_, fun w' _ => neR x y _ _ w', ?_⟩
  refine yaC (fun hne => ?_) fun heq => ?_
  ·intro w2 A2
   refine ⟨congrArg Value.bool (decide_eq_false fun e => hne ?_).symm, M.go0 A2.mod (by simp)⟩
   subst e
   rw [hx] at hy
   exact Option.some.inj hy
  ·intro w2 A2
   have he : x = y := Decidable.not_not.1 heq
   subst he
   exact yx6 (l1.length - (k + 1)) (by omega) ⟨k + 1, by rw [yaG (by omega) (by omega)]; omega, by omega, yb4 ht hx hy, M.go0 A2.mod (by simp), rfl⟩
 ·have hk : k = l1.length := by omega
  subst hk
  rw [List.take_length, hlen, List.take_length] at ht
  exact ⟨congrArg Value.bool (decide_eq_true ht).symm, M⟩
theorem yz4 {w : World} {x y : PBatch} {s t : Sl} (h1 : ybS w 4 yeR s.a s.n x.recs) (h2 : ybS w 4 yeR t.a t.n y.recs) (hl : x.recs.length ≤ 1000000) :
  Calls pP 108 #[x.v s, y.v t] w fun e w' => e = .returned (.bool (decide (x = y))) ∧ Mod [] w w' := by
 obtain ⟨a1, a2, a3, a4⟩ := x
 obtain ⟨b1, b2, b3, b4⟩ := y
 refine yaQ (yF0 ?_)
 intro c1 f1 c2 f2
 simp only [PBatch.mk.injEq]
 refine yaB (fun g1 => ?_) fun g1 => ?_
 ·have g1 : a1 = b1 := by simpa using g1
  refine yaB (fun g2 => ?_) fun g2 => ?_
  ·have g2 : a2 = b2 := by simpa using g2
   refine yaB (fun g3 => ?_) fun g3 => ?_
   ·have g3 : a3 = b3 := by simpa using g3
    intro w1 A1
    refine (yrM (h1.keep0 A1.mod) (h2.keep0 A1.mod) hl).mono ?_
    rintro e w2 ⟨rfl, M2⟩
    exact ⟨_, rfl, yaI.of0 M2, by simp [g1, g2, g3], A1.mod.go0 M2 (by simp)⟩
   ·intro w1 A1
    exact ⟨congrArg Value.bool (decide_eq_false (by simp at g3; rintro ⟨_, _, h, _⟩; exact g3 h)).symm, A1.mod⟩
  ·intro w1 A1
   exact ⟨congrArg Value.bool (decide_eq_false (by simp at g2; rintro ⟨_, h, _⟩; exact g2 h)).symm, A1.mod⟩
 ·intro w1 A1
  exact ⟨congrArg Value.bool (decide_eq_false (by simp at g1; rintro ⟨h, _⟩; exact g1 h)).symm, A1.mod⟩
theorem yrN {w : World} {a : Addr} {o : POp} {rs ts : Sl} {F : Int → ByteArray → Int → Int → Int → Int → Int → Int → Option Addr → Nat → Nat → ByteArray → ByteArray → Int → Bool → Option Addr → Nat → Nat → Prop} (h : ∀ j v, (o.cs rs ts)[j]? = some v → w.cell? (a.add j) = some v) (hF : F o.kind o.part.t o.part.n o.n o.off o.b.prod o.b.epoch o.b.seq rs.a rs.n rs.c o.g o.m o.gen o.robin ts.a ts.n ts.c) :
  yaF .i64 w a fun x0 => yaP w (a.add 1) fun x1 => yaF .i64 w (a.add 2) fun x2 => yaF .i64 w (a.add 3) fun x3 => yaF .i64 w (a.add 4) fun x4 => yaF .i64 w (a.add 5) fun x5 => yaF .i64 w (a.add 6) fun x6 => yaF .i64 w (a.add 7) fun x7 => yaR w (a.add 8) fun a8 n8 c8 => yaP w (a.add 9) fun x9 => yaP w (a.add 10) fun x10 => yaF .i64 w (a.add 11) fun x11 => yaU w (a.add 12) fun x12 => yaR w (a.add 13) fun a13 n13 c13 => F x0 x1 x2 x3 x4 x5 x6 x7 a8 n8 c8 x9 x10 x11 x12 a13 n13 c13 :=
 yaD (x := o.kind) (by simpa [add_zero] using h 0 _ rfl) (yaH (h 1 _ rfl) (yaD (h 2 _ rfl) (yaD (h 3 _ rfl) (yaD (h 4 _ rfl) (yaD (h 5 _ rfl) (yaD (h 6 _ rfl) (yaD (h 7 _ rfl) (ya9 (h 8 _ rfl) (yaH (h 9 _ rfl) (yaH (h 10 _ rfl) (yaD (h 11 _ rfl) (yaM (h 12 _ rfl) (ya9 (h 13 _ rfl) hF)))))))))))))
theorem yHL {w : World} {x y : POp} {rs ts rs' ts' : Sl} (h1 : OpAt w x rs ts) (h2 : OpAt w y rs' ts') :
  Calls pP 75 #[x.v rs ts, y.v rs' ts'] w fun e w' => e = .returned (.bool (decide (x = y))) ∧ Mod [] w w' := by
 obtain ⟨k1, p1, n1, o1, b1, g1, m1, e1, r1, t1⟩ := x
 obtain ⟨k2, p2, n2, o2, b2, g2, m2, e2, r2, t2⟩ := y
 refine yaQ (yF4 ?_)
 intro c1 f1 c2 f2
 simp only [POp.mk.injEq]
 have no : ∀ {P : Prop} [Decidable P] {w' : World}, ¬ P → Mod [] w w' → (Value.bool false = Value.bool (decide P) ∧ Mod [] w w') := fun hn M => ⟨congrArg Value.bool (decide_eq_false hn).symm, M⟩
 refine yaB (fun q1 => ?_) fun q1 => ?_
 rotate_left
 ·intro w1 A1
  exact no (by simp at q1; rintro ⟨h, _⟩; exact q1 h) A1.mod
 have q1 : k1 = k2 := by simpa using q1
 intro w1 A1
 have M1 := A1.mod
 refine ⟨_, fun w' _ => yIJ p1 p2 _ _ w', yaB (fun q2 => ?_) fun q2 => no (by simp at q2; rintro ⟨_, h, _⟩; exact q2 h) M1⟩
 have q2 : p1 = p2 := by simpa using q2
 refine yaB (fun q3 => ?_) fun q3 => no (by simp at q3; rintro ⟨_, _, h, _⟩; exact q3 h) M1
 have q3 : n1 = n2 := by simpa using q3
 refine yaB (fun q4 => ?_) fun q4 => no (by simp at q4; rintro ⟨_, _, _, h, _⟩; exact q4 h) M1
 have q4 : o1 = o2 := by simpa using q4
 refine (yz4 (x := b1) (y := b2) (s := rs) (t := rs') (h1.recs.keep0 M1) (h2.recs.keep0 M1) h1.lr).mono ?_
 rintro e w2 ⟨rfl, M2⟩
 have N2 := M1.go0 M2 (by simp)
 refine ⟨_, rfl, yaI.of0 M2, yaB (fun q9 => ?_) fun q9 => no (by simp at q9; rintro ⟨_, _, _, _, h, _⟩; exact q9 h) N2⟩
 have q9 : b1 = b2 := by simpa using q9
 rw [yf9, yf9]
 refine yaB (fun q5 => ?_) fun q5 => no (by simp at q5; rintro ⟨_, _, _, _, _, h, _⟩; exact q5 h) N2
 have q5 : g1 = g2 := by simpa using q5
 refine yaB (fun q6 => ?_) fun q6 => no (by simp at q6; rintro ⟨_, _, _, _, _, _, h, _⟩; exact q6 h) N2
 have q6 : m1 = m2 := by simpa using q6
 refine yaB (fun q7 => ?_) fun q7 => no (by simp at q7; rintro ⟨_, _, _, _, _, _, _, h, _⟩; exact q7 h) N2
 have q7 : e1 = e2 := by simpa using q7
 refine yaB (fun q8 => ?_) fun q8 => no (by simp at q8; rintro ⟨_, _, _, _, _, _, _, _, h, _⟩; exact q8 h) N2
 have q8 : r1 = r2 := by simpa using q8
 refine (yz3 (h1.topics.keep0 N2) (h2.topics.keep0 N2) h1.lt).mono ?_
 rintro e w3 ⟨rfl, M3⟩
 exact ⟨_, rfl, yaI.of0 M3, by simp [q1, q2, q3, q4, q5, q6, q7, q8, q9], N2.go0 M3 (by simp)⟩
theorem ym1 {w : World} {q : CV} {a : Addr} (h : ∀ j v, q.cs[j]? = some v → w.cell? (a.add j) = some v) : ∀ j v, (q.x.op.cs q.rs q.ts)[j]? = some v → w.cell? ((a.add 2).add j) = some v := fun j v hv => by
 rw [ycB, Nat.add_comm 2 j]
 exact h (j + 2) v hv
theorem yz5 {w : World} {s t : Sl} {xs ys : List PCall} (h : yeH w s xs) (h' : yeH w t ys) (hl : xs.length ≤ 1000000) :
  Calls pP 39 #[.slice s.a s.n s.c, .slice t.a t.n t.c] w fun e w' => e = .returned (.bool (decide (xs = ys))) ∧ Mod [] w w' := by
 obtain ⟨la, hA, gA, rfl⟩ := h
 obtain ⟨lb, hB, gB, rfl⟩ := h'
 have hl : la.length ≤ 1000000 := by simpa using hl
 have e1 := hA.1
 have e2 := hB.1
 refine yaQ (yGW ?_)
 refine yaB (fun g => ⟨congrArg Value.bool (decide_eq_false fun e => ?_).symm, Mod.refl _⟩) fun g => ?_
 ·have := congrArg List.length e
  simp at this g
  omega
 have g : la.length = lb.length := by simp at g; omega
 refine yyW (fun mm x w' => ∃ k : Nat, x = k ∧ k ≤ la.length ∧ (la.take k).map (·.x) = (lb.take k).map (·.x) ∧ Mod [] w w' ∧ mm = la.length - k) la.length ⟨0, rfl, by omega, by simp, Mod.refl _, rfl⟩ ?_
 rintro mm x w1 ⟨k, rfl, hk, ht, M1, rfl⟩
 refine yaC (fun hlt => ?_) fun hge => ?_
 ·have g1 : k < la.length := by omega
  have g2 : k < lb.length := by omega
  obtain ⟨x, hx⟩ : ∃ x, la[k]? = some x := ⟨_, List.getElem?_eq_getElem g1⟩
  obtain ⟨y, hy⟩ : ∃ y, lb[k]? = some y := ⟨_, List.getElem?_eq_getElem g2⟩
  have bad : ∀ {w'}, x.x ≠ y.x → Mod [] w w' → (Value.bool false = Value.bool (decide (la.map (·.x) = lb.map (·.x))) ∧ Mod [] w w') := fun {w'} hne M => by
   refine ⟨congrArg Value.bool (decide_eq_false fun e => hne ?_).symm, M⟩
   have := congrArg (fun l : List PCall => l[k]?) e
   simpa [hx, hy] using this
  refine (hA.keep0 M1).ixW hx fun q hq => ?_
  intro w2 A2
  have hq := hq w2 A2.mod
  have N2 := M1.go0 A2.mod (by simp)
  refine yaD (x := x.x.c) (by simpa [add_zero] using hq 0 _ rfl) ?_
  refine (hB.keep0 N2).ix hy fun q' hq' => yaD (x := y.x.c) (by simpa [add_zero] using hq' 0 _ rfl) ?_
  refine yaB (fun h1 => bad (fun e => by simp [e] at h1) N2) fun h1 => ?_
  have h1 : x.x.c = y.x.c := by simpa using h1
  refine (hA.keep0 N2).ix hx fun q hq => yaD (x := x.x.n) (hq 1 _ rfl) ?_
  refine (hB.keep0 N2).ix hy fun q' hq' => yaD (x := y.x.n) (hq' 1 _ rfl) ?_
  refine yaB (fun h2 => bad (fun e => by simp [e] at h2) N2) fun h2 => ?_
  have h2 : x.x.n = y.x.n := by simpa using h2
  refine (hA.keep0 N2).ix hx fun q hq => yrN (ym1 hq) ?_
  refine (hB.keep0 N2).ix hy fun q' hq' => yrN (ym1 hq') ?_
  refine (yHL ((gA x (List.mem_of_getElem? hx)).keep0 N2) ((gB y (List.mem_of_getElem? hy)).keep0 N2)).mono ?_
  rintro e w3 ⟨rfl, M3⟩
  have N3 := N2.go0 M3 (by simp)
  refine ⟨_, rfl, yaB (fun h3 => bad (fun e => by simp [e] at h3) N3) fun h3 => ?_⟩
  have h3 : x.x.op = y.x.op := by simpa using h3
  have he : x.x = y.x := by
   obtain ⟨⟨a, b, c⟩, _, _⟩ := x
   obtain ⟨⟨a', b', c'⟩, _, _⟩ := y
   simp at h1 h2 h3 ⊢; exact ⟨h1, h2, h3⟩
  exact yyV (la.length - (k + 1)) (by omega) ⟨k + 1, by rw [yaG (by omega) (by omega)]; omega, by omega, by rw [List.take_add_one, List.take_add_one, hx, hy, List.map_append, List.map_append, ht]; simp [he], N3, rfl⟩
 ·have hk : k = la.length := by omega
  subst hk
  rw [List.take_length, g, List.take_length] at ht
  exact ⟨congrArg Value.bool (decide_eq_true ht).symm, M1⟩
theorem ym2 {w : World} (m : PMail) (s f p : Sl) : Calls pP 30 #[m.v s f p] w fun e w' => ∃ v, e = .returned v ∧ ∃ b, v = .slice (some ⟨b, 0, none⟩) 10 10 ∧ ybS w' 1 (fun x : Int => [.int .i64 x]) (some ⟨b, 0, none⟩) 10 (yaS m) ∧ Mod [] w w' := by
 refine yGQ ?_
 intro b1 f1 w2 A2
 refine ycZ fun b w1 c1 M1 f1 => ?_
 refine ⟨b, rfl, ⟨rfl, fun i x hx => ⟨_, rfl, fun j v hv => ?_⟩⟩, A2.mod.go0 M1 (by simp)⟩
 have hj : j = 0 := by have := (List.getElem?_eq_some_iff.1 hv).1; simp at this; omega
 subst hj
 simp at hv; subst hv
 rw [ya1, ya1, yaY c1]
 have hi := (List.getElem?_eq_some_iff.1 hx).1
 simp [yaS] at hi
 match i, hi, hx with
 | 0, _, hx | 1, _, hx | 2, _, hx | 3, _, hx | 4, _, hx | 5, _, hx | 6, _, hx | 7, _, hx | 8, _, hx | 9, _, hx => simp [yaS] at hx; subst hx; rfl
theorem ym3 {w : World} {m m' : PMail} {s f p s' f' p' : Sl} (h : MailAt w m s f p) (h' : MailAt w m' s' f' p') (hl : m.calls.length ≤ 1000000) :
  Calls pP 15 #[m.v s f p, m'.v s' f' p'] w fun e w' => e = .returned (.bool (decide (m = m'))) ∧ Mod [] w w' := by
 refine yaQ (yGT ?_)
 intro b1 f1 b2 f2 w3 A3
 refine (ym2 m s f p).mono ?_
 rintro e w4 ⟨_, rfl, c4, rfl, h4, M4⟩
 refine ⟨_, _, _, rfl, yaI.of0 M4, rfl, ?_⟩
 refine (ym2 m' s' f' p').mono ?_
 rintro e w5 ⟨_, rfl, c5, rfl, h5, M5⟩
 refine ⟨_, _, _, rfl, yaI.of0 M5, ?_⟩
 have N5 := (A3.mod.go0 M4 (by simp)).go0 M5 (by simp)
 have h4 := h4.keep0 M5
 have hm : m = m' ↔ yaS m = yaS m' ∧ m.calls = m'.calls ∧ m.r = m'.r := by
  obtain ⟨a1, a2, a3, a4, a5, a6, a7, a8, a9, a10, a11, a12⟩ := m
  obtain ⟨b1, b2, b3, b4, b5, b6, b7, b8, b9, b10, b11, b12⟩ := m'
  simp [yaS, and_assoc]
 have no : ∀ {w'}, m ≠ m' → Mod [] w w' → (Value.bool false = Value.bool (decide (m = m')) ∧ Mod [] w w') := fun hn M => ⟨congrArg Value.bool (decide_eq_false hn).symm, M⟩
 refine yyU (fun mm x w' => ∃ k : Nat, x = k ∧ k ≤ 10 ∧ (yaS m).take k = (yaS m').take k ∧ Mod [] w5 w' ∧ mm = 10 - k) 10 ⟨0, rfl, by omega, by simp, Mod.refl _, rfl⟩ ?_
 rintro mm x w6 ⟨k, rfl, hk, ht, M6, rfl⟩
 have N6 := N5.go0 M6 (by simp)
 refine yaC (fun hlt => ?_) fun hge => ?_
 ·have hk : k < 10 := by omega
  obtain ⟨x, hx⟩ : ∃ x, (yaS m)[k]? = some x := ⟨_, List.getElem?_eq_getElem (by simpa [yaS] using hk)⟩
  obtain ⟨y, hy⟩ : ∃ y, (yaS m')[k]? = some y := ⟨_, List.getElem?_eq_getElem (by simpa [yaS] using hk)⟩
  refine (h4.keep0 M6).ix hx fun q hq => yaD (x := x) (by simpa [add_zero] using hq 0 _ rfl) ?_
  refine (h5.keep0 M6).ix hy fun q hq => yaD (x := y) (by simpa [add_zero] using hq 0 _ rfl) ?_
  refine yaB (fun g => fun w7 A7 => no (fun e => ?_) (N6.go0 A7.mod (by simp))) fun g => fun w7 A7 => ?_
  ·subst e
   rw [hx] at hy
   have := Option.some.inj hy
   simp [this] at g
  ·have g : x = y := by simpa using g
   subst g
   exact yyT (10 - (k + 1)) (by omega) ⟨k + 1, by rw [yaG (by omega) (by omega)]; omega, by omega, yb4 ht hx hy, M6.go0 A7.mod (by simp), rfl⟩
 ·have hk : k = 10 := by omega
  subst hk
  rw [List.take_of_length_le (by simp [yaS]), List.take_of_length_le (by simp [yaS])] at ht
  refine (yz5 (s := s) (t := s') (h.calls.keep0 N6) (h'.calls.keep0 N6) hl).mono ?_
  rintro e w7 ⟨rfl, M7⟩
  have N7 := N6.go0 M7 (by simp)
  refine ⟨_, rfl, yaI.of0 M7, yaB (fun g => ?_) fun g => no (fun e => by simp [e] at g) N7⟩
  have g : m.calls = m'.calls := by simpa using g
  refine (yxE (h.rep.keep0 N7) (h'.rep.keep0 N7)).mono ?_
  rintro e w8 ⟨rfl, M8⟩
  refine ⟨_, rfl, yaI.of0 M8, ?_, N7.go0 M8 (by simp)⟩
  congr 1
  apply Bool.eq_iff_iff.2
  simp [hm, ht, g]
end Go.Proofs.YtkbcmppbjfpjmaaGreat
namespace Go.Proofs.YtkbcmppbjfpjmaaGreat
open Go Go.RowKit Go.ChangeShapes Go.WideShapes Go.ChangeAt
set_option linter.unusedVariables false
set_option linter.unusedSimpArgs false
def ylN : Option TypeDesc → Bool
 | some (.int _) | some .bool | some .string | some (.slice _) | some (.struct _) => true
 | _ => false
inductive OkT (P : Program) (w : World) : TypeId → List Value → Prop
 | int {t : TypeId} {k : IntKind} {x : Int} (h : P.underlying t = some (.int k)) (hw : (Lit.int k x).wf = true) : OkT P w t [.int k x]
 | bool {t : TypeId} {b : Bool} (h : P.underlying t = some .bool) : OkT P w t [.bool b]
 | string {t : TypeId} {s : ByteArray} (h : P.underlying t = some .string) (hs : s.size ≤ maxLen) : OkT P w t [.string s]
 | nilSlice {t e : TypeId} (h : P.underlying t = some (.slice e)) : OkT P w t [.slice none 0 0]
 | slice {t e : TypeId} {ad : Addr} {len cap : Nat} (rows : Nat → List Value) (h : P.underlying t = some (.slice e)) (hl : len ≤ cap) (hc : cap ≤ maxLen) (h1 : ∀ i, i < len → (rows i).length = P.cellsOf e)
  (h2 : ∀ i, i < len → ∀ j v, (rows i)[j]? = some v → w.cell? ((ad.add (i * P.cellsOf e)).add j) = some v) (h3 : ∀ i, i < len → OkT P w e (rows i)) : OkT P w t [.slice (some ad) len cap]
 | struct {t : TypeId} {fs : Array Field} {cs : List Value} (h : P.underlying t = some (.struct fs)) (hn : cs.length = P.cellsOf t) (hf : ∀ f ∈ fs.toList, OkT P w f.type ((cs.drop f.offset).take (P.cellsOf f.type))) : OkT P w t cs
 | other {t : TypeId} {cs : List Value} (h : ylN (P.underlying t) = false) : OkT P w t cs
theorem yjO {α β : Type} {f : α → Option β} : ∀ {l : List α} {r : List β}, l.mapM f = some r → ∀ a ∈ l, ∃ b, f a = some b
 | [], _, _, a, ha => by cases ha
 | x :: l, r, h, a, ha => by
  rw [List.mapM_cons] at h
  simp only [Option.pure_def, Option.bind_eq_bind, Option.bind_eq_some_iff] at h
  obtain ⟨b, hb, r', hr, _⟩ := h
  rcases List.mem_cons.1 ha with rfl | ha
  ·exact ⟨b, hb⟩
  ·exact yjO hr a ha
theorem ytD {α β : Type} {f : α → Option β} : ∀ {l : List α} {r : List β}, l.mapM f = some r → ∀ (j : Nat) (b : β), r[j]? = some b → ∃ a, l[j]? = some a ∧ f a = some b
 | [], r, h, j, b, hb => by simp at h; subst h; simp at hb
 | x :: l, r, h, j, b, hb => by
  rw [List.mapM_cons] at h
  simp only [Option.pure_def, Option.bind_eq_bind, Option.bind_eq_some_iff, Option.some.injEq] at h
  obtain ⟨b', hb', r', hr, rfl⟩ := h
  cases j with
  | zero => simp at hb; subst hb; exact ⟨x, rfl, hb'⟩
  | succ j => obtain ⟨a, h1, h2⟩ := ytD hr j b (by simpa using hb); exact ⟨a, by simpa using h1, h2⟩
theorem ytE {α β : Type} {f : α → Option β} : ∀ {l : List α} {r : List β}, l.mapM f = some r → r.length = l.length
 | [], r, h => by simp at h; subst h; rfl
 | x :: l, r, h => by
  rw [List.mapM_cons] at h
  simp only [Option.pure_def, Option.bind_eq_bind, Option.bind_eq_some_iff, Option.some.injEq] at h
  obtain ⟨b', hb', r', hr, rfl⟩ := h
  simp [ytE hr]
theorem yz6 {w : World} {base n : Nat} {a : Addr} {row : List Value} (h : w.cells? base a n = some row) : row.length = n := by
 unfold World.cells? at h
 split at h
 ·simpa using ytE h
 ·cases h
theorem yz7 {w : World} {base n : Nat} {a : Addr} {row : List Value} (h : w.cells? base a n = some row) : ∀ j v, row[j]? = some v → w.cell? (a.add j) = some v := by
 intro j v hv
 unfold World.cells? at h
 split at h
 ·obtain ⟨j', h1, h2⟩ := ytD h j v hv
  obtain ⟨hj, rfl⟩ : j < n ∧ j = j' := by
   obtain ⟨x, y⟩ := List.getElem?_eq_some_iff.1 h1
   simp at x y; exact ⟨x, y⟩
  exact h2
 ·cases h
theorem yD8 {H : Type} {enc : TypeId × Value → H} {P : Program} {w : World} {base : Nat} {sp : Nat → Bool} {held : Bool} : ∀ {fuel : Nat} {t : TypeId} {cs : List Value} {x : DataW H × List MemPlace}, DataW.trod enc P w base sp held fuel t cs = some x → OkT P w t cs := by
 intro fuel
 induction fuel with
 | zero => intro t cs x h; cases h
 | succ n ih =>
  intro t cs x h
  cases hu : P.underlying t with
  | none => exact .other (by rw [hu]; rfl)
  | some d =>
   cases d with
   | bool =>
     unfold DataW.trod at h
     rw [hu] at h
     split at h <;> simp_all
     exact .bool hu
   | int k =>
     unfold DataW.trod at h
     rw [hu] at h
     split at h <;> simp_all
     obtain ⟨⟨rfl, hw⟩, _⟩ := h
     exact .int hu hw
   | string =>
     unfold DataW.trod at h
     rw [hu] at h
     split at h <;> simp_all
     exact .string hu h.1
   | slice e =>
     rcases Go.Deep.open_slice hu h with ⟨rfl, _⟩ | ⟨a, len, cap, m, n', D, Pl, rfl, hb, hl, hc, hm, _, hel⟩
     ·exact .nilSlice hu
     ·unfold DataW.trod at h
      rw [hu] at h
      simp only at h
      split at h
      case isFalse => cases h
      rename_i hcond
      simp only [Option.bind_eq_some_iff] at h
      obtain ⟨elems, h1, _⟩ := h
      have key : ∀ i, i < len → ∃ row y, w.cells? base (a.add (i * P.cellsOf e)) (P.cellsOf e) = some row ∧ DataW.trod enc P w base sp held n e row = some y := fun i hi => by
       obtain ⟨y, hy⟩ := yjO h1 i (by simpa using hi)
       simp only [Option.bind_eq_some_iff] at hy
       obtain ⟨row, hr1, hr2⟩ := hy
       exact ⟨row, y, hr1, hr2⟩
      classical
      refine .slice (fun i => if hi : i < len then (key i hi).choose else []) hu hl hc (fun i hi => ?_) (fun i hi j v hv => ?_) (fun i hi => ?_)
      ·simp only [dif_pos hi]
       obtain ⟨y, hr1, hr2⟩ := (key i hi).choose_spec
       exact yz6 hr1
      ·simp only [dif_pos hi] at hv
       obtain ⟨y, hr1, hr2⟩ := (key i hi).choose_spec
       exact yz7 hr1 j v hv
      ·simp only [dif_pos hi]
       obtain ⟨y, hr1, hr2⟩ := (key i hi).choose_spec
       exact ih hr2
   | struct fs =>
    unfold DataW.trod at h
    rw [hu] at h
    simp only at h
    split at h
    ·rename_i hn
     simp only [Option.map_eq_some_iff] at h
     obtain ⟨xs, h1, _⟩ := h
     refine .struct hu hn fun f hf => ?_
     obtain ⟨y, hy⟩ := yjO h1 f hf
     exact ih hy
    ·cases h
   | _ => exact .other (by rw [hu]; rfl)
theorem OkT.int_inv {P : Program} {w : World} {t : TypeId} {k : IntKind} {cs : List Value} (h : OkT P w t cs) (hu : P.underlying t = some (.int k)) : ∃ x, cs = [.int k x] ∧ (Lit.int k x).wf = true := by
 cases h <;> simp_all [ylN]
theorem OkT.bool_inv {P : Program} {w : World} {t : TypeId} {cs : List Value} (h : OkT P w t cs) (hu : P.underlying t = some .bool) : ∃ b, cs = [.bool b] := by
 cases h <;> simp_all [ylN]
theorem OkT.string_inv {P : Program} {w : World} {t : TypeId} {cs : List Value} (h : OkT P w t cs) (hu : P.underlying t = some .string) : ∃ s, cs = [.string s] ∧ s.size ≤ maxLen := by
 cases h <;> simp_all [ylN]
theorem OkT.struct_inv {P : Program} {w : World} {t : TypeId} {fs : Array Field} {cs : List Value} (h : OkT P w t cs) (hu : P.underlying t = some (.struct fs)) : cs.length = P.cellsOf t ∧ ∀ f ∈ fs.toList, OkT P w f.type ((cs.drop f.offset).take (P.cellsOf f.type)) := by
 cases h with
 | struct h hn hf => rw [hu] at h; cases h; exact ⟨hn, hf⟩
 | _ => simp_all [ylN]
theorem OkT.slice_inv {P : Program} {w : World} {t e : TypeId} {cs : List Value} {α : Type} {enc : α → List Value} {good : α → Prop} (h : OkT P w t cs) (hu : P.underlying t = some (.slice e))
  (he : ∀ row, OkT P w e row → row.length = P.cellsOf e → ∃ x, row = enc x ∧ good x) : ∃ a len cap l, cs = [.slice a len cap] ∧ ybS w (P.cellsOf e) enc a len l ∧ (∀ x ∈ l, good x) ∧ len ≤ cap ∧ cap ≤ maxLen := by
 cases h with
 | nilSlice h => exact ⟨none, 0, 0, [], rfl, ⟨rfl, by simp⟩, by simp, Nat.le_refl _, by decide⟩
 | @slice _ _ ad len cap rows h hl hc h1 h2 h3 =>
  rw [hu] at h; cases h
  have key : ∀ i, i < len → ∃ x, rows i = enc x ∧ good x := fun i hi => he _ (h3 i hi) (h1 i hi)
  classical
  by_cases h0 : len = 0
  ·subst h0
   exact ⟨_, _, _, [], rfl, ⟨rfl, by simp⟩, by simp, hl, hc⟩
  have x0 : α := (key 0 (by omega)).choose
  refine ⟨some ad, len, cap, (List.range len).map (fun i => if hi : i < len then (key i hi).choose else x0), rfl, ⟨by simp, fun i x hx => ⟨ad, rfl, fun j v hv => ?_⟩⟩, fun x hx => ?_, hl, hc⟩
  ·rw [List.getElem?_map] at hx
   simp only [Option.map_eq_some_iff] at hx
   obtain ⟨i', hi', rfl⟩ := hx
   obtain ⟨hil, rfl⟩ : i < len ∧ i = i' := by
    obtain ⟨a, b⟩ := List.getElem?_eq_some_iff.1 hi'
    simp at a b; exact ⟨a, b⟩
   simp only [dif_pos hil] at hv
   rw [← (key i hil).choose_spec.1] at hv
   exact h2 i hil j v hv
  ·simp only [List.mem_map, List.mem_range] at hx
   obtain ⟨i, hi, rfl⟩ := hx
   simp only [dif_pos hi]
   exact (key i hi).choose_spec.2
 | _ => simp_all [ylN]
end Go.Proofs.YtkbcmppbjfpjmaaGreat
namespace Go.Proofs.YtkbcmppbjfpjmaaGreat
open Go Go.RowKit Go.Maps Go.MapKept
set_option linter.unusedVariables false
set_option linter.unusedSimpArgs false
structure RepRd (w : World) (r : PRep) (f p : Sl) : Prop where
 found : ybS w 5 yhT f.a f.n r.found
 parts : ybS w 2 yi1 p.a p.n r.parts
 wf : f.n ≤ maxLen
 wp : p.n ≤ maxLen
 sf : ∀ x ∈ r.found, x.r.key.size ≤ maxLen ∧ x.r.val.size ≤ maxLen
 sp : ∀ x ∈ r.parts, x.t.size ≤ maxLen
theorem RepRd.keep0 {w w' : World} {r : PRep} {f p : Sl} (h : RepRd w r f p) (M : Mod [] w w') : RepRd w' r f p := ⟨h.found.keep0 M, h.parts.keep0 M, h.wf, h.wp, h.sf, h.sp⟩
theorem cI : Tryz.prog.cellsOf 3 = 1 := by kernel_rfl
theorem cB : Tryz.prog.cellsOf 4 = 1 := by kernel_rfl
theorem cS : Tryz.prog.cellsOf 9 = 1 := by kernel_rfl
theorem cE : Tryz.prog.cellsOf 23 = 1 := by kernel_rfl
theorem cSF : Tryz.prog.cellsOf 24 = 1 := by kernel_rfl
theorem cSP : Tryz.prog.cellsOf 25 = 1 := by kernel_rfl
theorem cSR : Tryz.prog.cellsOf 44 = 1 := by kernel_rfl
theorem cSS : Tryz.prog.cellsOf 47 = 1 := by kernel_rfl
theorem cSC : Tryz.prog.cellsOf 22 = 1 := by kernel_rfl
theorem cRc : Tryz.prog.cellsOf 53 = 4 := by kernel_rfl
theorem cFd : Tryz.prog.cellsOf 55 = 5 := by kernel_rfl
theorem cPt : Tryz.prog.cellsOf 43 = 2 := by kernel_rfl
theorem cRp : Tryz.prog.cellsOf 27 = 6 := by kernel_rfl
theorem cBt : Tryz.prog.cellsOf 46 = 4 := by kernel_rfl
theorem cOp : Tryz.prog.cellsOf 49 = 14 := by kernel_rfl
theorem cCl : Tryz.prog.cellsOf 51 = 16 := by kernel_rfl
theorem cMl : Tryz.prog.cellsOf 29 = 17 := by kernel_rfl
theorem yz8 (w : World) (row : List Value) (h : OkT pP w 53 row) (hl : row.length = Tryz.prog.cellsOf 53) : ∃ r : PRec, row = [.bool r.hk, .string r.key, .bool r.tomb, .string r.val] ∧ r.key.size ≤ maxLen ∧ r.val.size ≤ maxLen := by
 rw [cRc] at hl
 match row, hl with
 | [a, b, c, d], _ =>
  obtain ⟨_, hf⟩ := h.struct_inv Tryz.underlying53
  simp [cI, cB, cS, cE] at hf
  obtain ⟨ha, hb, hc, hd⟩ := hf
  obtain ⟨x1, e1⟩ := ha.bool_inv Tryz.underlying4
  obtain ⟨x2, e2, g2⟩ := hb.string_inv Tryz.underlying9
  obtain ⟨x3, e3⟩ := hc.bool_inv Tryz.underlying4
  obtain ⟨x4, e4, g4⟩ := hd.string_inv Tryz.underlying9
  simp at e1 e2 e3 e4
  subst e1 e2 e3 e4
  exact ⟨⟨x1, x2, x3, x4⟩, rfl, g2, g4⟩
theorem yz9 (w : World) (row : List Value) (h : OkT pP w 55 row) (hl : row.length = Tryz.prog.cellsOf 55) : ∃ x : PFound, row = yhT x ∧ (x.r.key.size ≤ maxLen ∧ x.r.val.size ≤ maxLen) := by
 have hl' := hl
 rw [cFd] at hl
 match row, hl with
 | [a, b, c, d, e], _ =>
  obtain ⟨_, hf⟩ := h.struct_inv Tryz.underlying55
  simp [cI, cB, cS, cE, cSF, cSP, cSR, cSS, cSC, cPt, cRc, cFd, cRp] at hf
  obtain ⟨ha, hb⟩ := hf
  obtain ⟨x1, e1, _⟩ := ha.int_inv Tryz.underlying3
  obtain ⟨r, e2, g⟩ := yz8 w _ hb cRc.symm
  simp at e1 e2
  obtain ⟨rfl, rfl, rfl, rfl⟩ := e2
  subst e1
  exact ⟨⟨x1, r⟩, rfl, g⟩
theorem ytF (w : World) (row : List Value) (h : OkT pP w 43 row) (hl : row.length = Tryz.prog.cellsOf 43) : ∃ x : PPart, row = yi1 x ∧ x.t.size ≤ maxLen := by
 rw [cPt] at hl
 match row, hl with
 | [a, b], _ =>
  obtain ⟨_, hf⟩ := h.struct_inv Tryz.underlying43
  simp [cI, cB, cS, cE, cSF, cSP, cSR, cSS, cSC, cPt, cRc, cFd, cRp] at hf
  obtain ⟨ha, hb⟩ := hf
  obtain ⟨x1, e1, g1⟩ := ha.string_inv Tryz.underlying9
  obtain ⟨x2, e2, _⟩ := hb.int_inv Tryz.underlying3
  simp at e1 e2
  subst e1 e2
  exact ⟨⟨x1, x2⟩, rfl, g1⟩
theorem yD9 (w : World) (row : List Value) (h : OkT pP w 27 row) (hl : row.length = Tryz.prog.cellsOf 27) : ∃ (r : PRep) (f p : Sl), row = PRep.cs r f p ∧ RepRd w r f p := by
 rw [cRp] at hl
 match row, hl with
 | [a, b, c, d, e, f], _ =>
  obtain ⟨_, hf⟩ := h.struct_inv Tryz.underlying27
  simp [cI, cB, cS, cE, cSF, cSP, cSR, cSS, cSC, cPt, cRc, cFd, cRp] at hf
  obtain ⟨ha, hb, hc, hd, he, hg⟩ := hf
  obtain ⟨x1, e1, _⟩ := ha.int_inv Tryz.underlying23
  obtain ⟨x2, e2, _⟩ := hb.int_inv Tryz.underlying3
  obtain ⟨x3, e3, _⟩ := hc.int_inv Tryz.underlying3
  obtain ⟨x4, e4, _⟩ := hd.int_inv Tryz.underlying3
  obtain ⟨fa, fn, fc, fl, e5, s5, g5, u5, c5⟩ := he.slice_inv Tryz.underlying24 (yz9 w)
  obtain ⟨pa, pn, pc, pl, e6, s6, g6, u6, c6⟩ := hg.slice_inv Tryz.underlying25 (ytF w)
  simp at e1 e2 e3 e4 e5 e6
  subst e1 e2 e3 e4 e5 e6
  rw [cFd] at s5
  rw [cPt] at s6
  exact ⟨⟨x1, x2, x3, x4, fl, pl⟩, ⟨fa, fn, fc⟩, ⟨pa, pn, pc⟩, rfl, ⟨s5, s6, by show fn ≤ _; omega, by show pn ≤ _; omega, g5, g6⟩⟩
theorem yEa (w : World) (row : List Value) (h : OkT pP w 9 row) (hl : row.length = Tryz.prog.cellsOf 9) : ∃ s : ByteArray, row = yi6 s ∧ s.size ≤ maxLen := by
 obtain ⟨s, rfl, g⟩ := h.string_inv Tryz.underlying9
 exact ⟨s, rfl, g⟩
structure OpRd (w : World) (o : POp) (rs ts : Sl) : Prop where
 recs : ybS w 4 yeR rs.a rs.n o.b.recs
 topics : ybS w 1 yi6 ts.a ts.n o.topics
 wr : rs.n ≤ maxLen
 wt : ts.n ≤ maxLen
 sr : ∀ r ∈ o.b.recs, r.key.size ≤ maxLen ∧ r.val.size ≤ maxLen
 st : ∀ s ∈ o.topics, s.size ≤ maxLen
 sp : o.part.t.size ≤ maxLen
 sg : o.g.size ≤ maxLen
 sm : o.m.size ≤ maxLen
theorem OpRd.keep0 {w w' : World} {o : POp} {rs ts : Sl} (h : OpRd w o rs ts) (M : Mod [] w w') : OpRd w' o rs ts := ⟨h.recs.keep0 M, h.topics.keep0 M, h.wr, h.wt, h.sr, h.st, h.sp, h.sg, h.sm⟩
structure OV where
 o : POp
 rs : Sl
 ts : Sl
def OV.cs (q : OV) : List Value := q.o.cs q.rs q.ts
theorem yAa (w : World) (row : List Value) (h : OkT pP w 46 row) (hl : row.length = Tryz.prog.cellsOf 46) : ∃ (b : PBatch) (rs : Sl), row = [.int .i64 b.prod, .int .i64 b.epoch, .int .i64 b.seq, .slice rs.a rs.n rs.c] ∧ ybS w 4 yeR rs.a rs.n b.recs ∧ rs.n ≤ maxLen ∧ ∀ r ∈ b.recs, r.key.size ≤ maxLen ∧ r.val.size ≤ maxLen := by
 rw [cBt] at hl
 match row, hl with
 | [a, b, c, d], _ =>
  obtain ⟨_, hf⟩ := h.struct_inv Tryz.underlying46
  simp [cI, cB, cS, cE, cSF, cSP, cSR, cSS, cSC, cPt, cRc, cFd, cRp, cBt, cOp, cCl] at hf
  obtain ⟨ha, hb, hc, hd⟩ := hf
  obtain ⟨x1, e1, _⟩ := ha.int_inv Tryz.underlying3
  obtain ⟨x2, e2, _⟩ := hb.int_inv Tryz.underlying3
  obtain ⟨x3, e3, _⟩ := hc.int_inv Tryz.underlying3
  obtain ⟨ra, rn, rc, rl, e5, s5, g5, u5, c5⟩ := hd.slice_inv (enc := yeR) Tryz.underlying44 (yz8 w)
  simp at e1 e2 e3 e5
  subst e1 e2 e3 e5
  rw [cRc] at s5
  exact ⟨⟨x1, x2, x3, rl⟩, ⟨ra, rn, rc⟩, rfl, s5, by show rn ≤ _; omega, g5⟩
theorem yHM (w : World) (row : List Value) (h : OkT pP w 49 row) (hl : row.length = Tryz.prog.cellsOf 49) : ∃ x : OV, row = OV.cs x ∧ OpRd w x.o x.rs x.ts := by
 rw [cOp] at hl
 match row, hl with
 | [a, b, c, d, e, f, g, i, j, k, l, m, n, o], _ =>
  obtain ⟨_, hf⟩ := h.struct_inv Tryz.underlying49
  simp [cI, cB, cS, cE, cSF, cSP, cSR, cSS, cSC, cPt, cRc, cFd, cRp, cBt, cOp, cCl] at hf
  obtain ⟨h1, h2, h3, h4, h5, h6, h7, h8, h9, h10⟩ := hf
  obtain ⟨x1, e1, _⟩ := h1.int_inv Tryz.underlying3
  obtain ⟨x2, e2, g2⟩ := ytF w _ h2 cPt.symm
  obtain ⟨x3, e3, _⟩ := h3.int_inv Tryz.underlying3
  obtain ⟨x4, e4, _⟩ := h4.int_inv Tryz.underlying3
  obtain ⟨x5, rs, e5, s5, w5, g5⟩ := yAa w _ h5 cBt.symm
  obtain ⟨x6, e6, g6⟩ := h6.string_inv Tryz.underlying9
  obtain ⟨x7, e7, g7⟩ := h7.string_inv Tryz.underlying9
  obtain ⟨x8, e8, _⟩ := h8.int_inv Tryz.underlying3
  obtain ⟨x9, e9⟩ := h9.bool_inv Tryz.underlying4
  obtain ⟨ta, tn, tc, tl, e10, s10, g10, u10, c10⟩ := h10.slice_inv (enc := yi6) Tryz.underlying47 (yEa w)
  simp [yi1] at e1 e2 e3 e4 e5 e6 e7 e8 e9 e10
  subst e1 e3 e4 e6 e7 e8 e9 e10
  obtain ⟨rfl, rfl⟩ := e2
  obtain ⟨rfl, rfl, rfl, rfl⟩ := e5
  rw [cS] at s10
  exact ⟨⟨⟨x1, x2, x3, x4, x5, x6, x7, x8, x9, tl⟩, rs, ⟨ta, tn, tc⟩⟩, rfl, ⟨s5, s10, w5, by show tn ≤ _; omega, g5, g10, g2, g6, g7⟩⟩
theorem yBD (w : World) (row : List Value) (h : OkT pP w 51 row) (hl : row.length = Tryz.prog.cellsOf 51) : ∃ x : CV, row = CV.cs x ∧ OpRd w x.x.op x.rs x.ts := by
 rw [cCl] at hl
 match row, hl with
 | a :: b :: t, hl =>
  obtain ⟨_, hf⟩ := h.struct_inv Tryz.underlying51
  simp [cI, cB, cS, cE, cSF, cSP, cSR, cSS, cSC, cPt, cRc, cFd, cRp, cBt, cOp, cCl] at hf
  obtain ⟨h1, h2, h3⟩ := hf
  obtain ⟨x1, e1, _⟩ := h1.int_inv Tryz.underlying3
  obtain ⟨x2, e2, _⟩ := h2.int_inv Tryz.underlying3
  have ht : t.take 14 = t := List.take_of_length_le (by simp at hl; omega)
  rw [ht] at h3
  obtain ⟨x3, e3, g3⟩ := yHM w _ h3 (by rw [cOp]; simp at hl; omega)
  simp at e1 e2
  subst e1 e2 e3
  exact ⟨⟨⟨x1, x2, x3.o⟩, x3.rs, x3.ts⟩, rfl, g3⟩
structure MR where
 m : PMail
 s : Sl
 f : Sl
 p : Sl
def MR.cs (x : MR) : List Value := x.m.cs x.s x.f x.p
structure MailRd (w : World) (m : PMail) (s f p : Sl) : Prop where
 calls : ∃ ll : List CV, ybS w 16 CV.cs s.a s.n ll ∧ (∀ q ∈ ll, OpRd w q.x.op q.rs q.ts) ∧ ll.map (·.x) = m.calls
 ws : s.n ≤ maxLen
 rep : RepRd w m.r f p
theorem yBE (w : World) (row : List Value) (h : OkT pP w 29 row) (hl : row.length = Tryz.prog.cellsOf 29) : ∃ x : MR, row = MR.cs x ∧ MailRd w x.m x.s x.f x.p := by
 rw [cMl] at hl
 match row, hl with
 | [a, b, c, d, e, f, g, i, j, k, l, m, n, o, p, q, r], _ =>
  obtain ⟨_, hf⟩ := h.struct_inv Tryz.underlying29
  simp [cI, cB, cS, cE, cSF, cSP, cSR, cSS, cSC, cPt, cRc, cFd, cRp, cBt, cOp, cCl] at hf
  obtain ⟨h1, h2, h3, h4, h5, h6, h7, h8, h9, h10, h11, h12⟩ := hf
  obtain ⟨x1, e1, _⟩ := h1.int_inv Tryz.underlying3
  obtain ⟨x2, e2, _⟩ := h2.int_inv Tryz.underlying3
  obtain ⟨x3, e3, _⟩ := h3.int_inv Tryz.underlying3
  obtain ⟨x4, e4, _⟩ := h4.int_inv Tryz.underlying3
  obtain ⟨x5, e5, _⟩ := h5.int_inv Tryz.underlying3
  obtain ⟨x6, e6, _⟩ := h6.int_inv Tryz.underlying3
  obtain ⟨x7, e7, _⟩ := h7.int_inv Tryz.underlying3
  obtain ⟨x8, e8, _⟩ := h8.int_inv Tryz.underlying3
  obtain ⟨x9, e9, _⟩ := h9.int_inv Tryz.underlying3
  obtain ⟨x10, e10, _⟩ := h10.int_inv Tryz.underlying3
  obtain ⟨ca, cn, cc, cl, e11, s11, g11, u11, c11⟩ := h11.slice_inv Tryz.underlying22 (yBD w)
  obtain ⟨x12, fs, ps, e12, g12⟩ := yD9 w _ h12 cRp.symm
  simp [PRep.cs] at e1 e2 e3 e4 e5 e6 e7 e8 e9 e10 e11 e12
  subst e1 e2 e3 e4 e5 e6 e7 e8 e9 e10 e11
  obtain ⟨rfl, rfl, rfl, rfl, rfl, rfl⟩ := e12
  rw [cCl] at s11
  exact ⟨⟨⟨x1, x2, x3, x4, x5, x6, x7, x8, x9, x10, cl.map (·.x), x12⟩, ⟨ca, cn, cc⟩, fs, ps⟩, rfl, ⟨⟨cl, s11, g11, rfl⟩, by show cn ≤ _; omega, g12⟩⟩
end Go.Proofs.YtkbcmppbjfpjmaaGreat
namespace Go.Proofs.YtkbcmppbjfpjmaaGreat
open Go Go.RowKit
set_option linter.all false
section
set_option maxRecDepth 100000
variable {R : VWP} {w w0 : World} {m : Nat} {i0 i1 i2 i3 i4 i5 i6 i7 i8 i9 j0 j1 j2 j3 j4 j5 j6 j7 j8 j9 k0 k1 k2 k3 k4 k5 k6 k7 k8 k9 l0 l1 l2 l3 l4 l5 l6 l7 l8 l9 : Int} {s0 s1 s2 s3 s4 s5 s6 s7 s8 s9 t0 t1 t2 t3 t4 t5 t6 t7 t8 t9 : BA} {n0 n1 n2 n3 n4 n5 n6 n7 n8 n9 o0 o1 o2 o3 o4 o5 o6 o7 o8 o9 p0 p1 p2 p3 p4 p5 p6 p7 p8 p9 : Nat} {q0 q1 q2 q3 q4 q5 q6 q7 q8 q9 r0 r1 r2 r3 r4 r5 r6 r7 r8 r9 : OA} {B0 B1 B2 B3 B4 B5 B6 B7 B8 B9 : Bool} {M0 M1 M2 M3 : Option Nat} {V0 V1 V2 V3 V4 V5 : Value} {A0 A1 A2 : Addr}
theorem yEb {a0 : BA} {a1 : BA} (h :
 ∀ b1, w.heap.size ≤ b1 →
 ∀ b2, w.heap.size ≤ b2 →
 slS a0 0 (if 80 < (a0.size : Int) then 80 else (a0.size : Int)) fun s3 =>
 slS a1 0 (if 600 < (a1.size : Int) then 600 else (a1.size : Int)) fun s4 =>
 ∀ w5, Adv [] [b2, b1] w w5 →
 R (.agg (Z7 B0 s3 B1 s4)) w5) :
 CR pP 116 #[(.agg (Z7 B0 a0 B1 a1))] w R :=
 yaA Tryz.wide_mixed (an := []) Tryz.func116 rfl rfl (by kernel_rfl) rfl (Eq.mpr (by kernel_rfl) h)
def ym4 : LA := ⟨[0, 0, 1, 0, 1, 1], [1, 2, 3, 4], [(1, 0, 0), (2, 1, 0), (3, 2, 0)], 3, []⟩
def ym5 : List LA := [ym4]
abbrev yCP := dnF pP ym5 (code Tryz.f86)
abbrev yIO := yaO pP ym5 (code Tryz.f86)
abbrev yCQ (p : List Nat) (K : List Kh) (R : VWP) := yaO pP ym5 (code Tryz.f86) p K (ya4 pP Tryz.f86 [] R)
def yg1 (bm0 : Nat) (a6 a7 a8 : Int) (a0 : OA) (a4 a2 bm1 bm2 : Nat) (a9 b0 b1 : Int) : Int × (Option Addr) × Nat × Nat → List Value × List TB := fun (b2, a1, a5, a3) => ([(.pointer (some ⟨bm0, 0, none⟩)), (.pointer (some ⟨bm1, 0, none⟩)), (.pointer (some ⟨bm2, 0, none⟩)), .int .i64 b2], [⟨bm0, 46, [.int .i64 a6, .int .i64 a7, .int .i64 a8, .slice a0 a4 a2], false⟩, ⟨bm1, 46, [.int .i64 0, .int .i64 0, .int .i64 0, .slice none 0 0], false⟩, ⟨bm2, 46, [.int .i64 a9, .int .i64 b0, .int .i64 b1, .slice a1 a5 a3], false⟩])
abbrev yAb (bm0 : Nat) (a3 a4 a5 : Int) (a0 : OA) (a2 a1 bm1 bm2 : Nat) (a6 a7 a8 : Int) (I : Nat → Int → Option Addr → Nat → Nat → World → Prop) (m : Nat) : Kh := KG (yg1 bm0 a3 a4 a5 a0 a2 a1 bm1 bm2 a6 a7 a8) (U4 I) m
theorem yuL {I : Nat → Int → Option Addr → Nat → Nat → World → Prop} (m' : Nat) (h1 : m' < m) (h2 : I m' i6 q1 n5 n6 w) : KS (yAb n0 i0 i1 i2 q0 n1 n2 n3 n4 i3 i4 i5 I m) (yg1 n0 i0 i1 i2 q0 n1 n2 n3 n4 i3 i4 i5 (i6, q1, n5, n6)) w := ⟨m', h1, _, rfl, rfl, h2⟩
theorem yuM {a7 : OA} {b3 : OA} (I : Nat → Int → Option Addr → Nat → Nat → World → Prop) (m0 : Nat) (h0 : I m0 i6 b3 n5 n6 w0)
 (hr : ∀ m b2 a0 a2 a1 w, I m b2 a0 a2 a1 w →
 brB (decide (b2 < (n1 : Int))) (
 brB (decide (b2 < 20)) (
 ixA a7 n1 b2 4 fun q4 =>
 ∀ w5, Adv [] [] w w5 →
 yaU w5 q4 fun t6 => yaP w5 (Addr.add q4 1) fun s7 => yaU w5 (Addr.add q4 2) fun t8 => yaP w5 (Addr.add q4 3) fun s9 =>
 Calls pP 116 #[(.agg (Z7 t6 s7 t8 s9))] w5 fun e c1 => ∃ b9 b7 c0 b8, e = .returned (.agg (Z7 b9 b7 c0 b8)) ∧ yaI [n0, n3, n4] w5 c1 ∧ (((.slice a0 a2 a1) : Value) = (.slice a0 a2 a1)) ∧
 al c1 (.cells (Z7 b9 b7 c0 b8) 53) fun c8 c2 =>
 ycN pP (Builtin.append_ #[44, 44] 44 #[.slice a0 a2 a1, (.slice (some ⟨c8, 0, none⟩) 1 1)]) c2 fun c7 d0 c9 c3 => yaI [n0, n3, n4] c2 c3 ∧
 ∀ c4, Adv [n4] [] c3 c4 →
 KS (yAb n0 i0 i1 i2 a7 n1 n2 n3 n4 i3 i4 i5 I m) (yg1 n0 i0 i1 i2 a7 n1 n2 n3 n4 i3 i4 i5 ((IntKind.wrap .i64 (b2 + 1)), c7, d0, c9)) c4)
 (
 ∀ c5, Adv [n3] [] w c5 →
 R (.agg (Z8 i3 i4 i5 a0 a2 a1)) c5))
 (
 ∀ c6, Adv [n3] [] w c6 →
 R (.agg (Z8 i3 i4 i5 a0 a2 a1)) c6)) :
 yaJ ym4 (yCP 396 [0, 0, 1, 0, 1, 1]) (yCQ [1, 1, 0, 1, 0] [] R) (yg1 n0 i0 i1 i2 a7 n1 n2 n3 n4 i3 i4 i5 (i6, b3, n5, n6)) w0 :=
 lrule (yg1 n0 i0 i1 i2 a7 n1 n2 n3 n4 i3 i4 i5) (U4 I) h0 (by rintro m ⟨b2, a0, a2, a1⟩ w h; exact ⟨by kernel_rfl, by kernel_rfl, fun js => Eq.mpr (by kernel_rfl) (hr m b2 a0 a2 a1 w h)⟩)
theorem yEc (h :
 ∀ b1, w.heap.size ≤ b1 →
 ∀ b2, w.heap.size ≤ b2 →
 ∀ b3, w.heap.size ≤ b3 →
 ∀ a6, Adv [] [b3, b2, b1] w a6 →
 yaJ ym4 (yCP 396 [0, 0, 1, 0, 1, 1]) (yCQ [1, 1, 0, 1, 0] [] R) (yg1 b1 i0 i1 i2 q0 n0 n1 b2 b3 i0 i1 i2 (0, none, 0, 0)) a6) :
 CR pP 86 #[(.agg (Z8 i0 i1 i2 q0 n0 n1))] w R :=
 yaA Tryz.wide_mixed (an := ym5) Tryz.func86 rfl rfl (by kernel_rfl) rfl (Eq.mpr (by kernel_rfl) h)
def ym6 : LA := ⟨[0, 0, 1, 0, 1, 1, 1, 1, 1, 1, 1], [1, 2, 3, 4], [(1, 0, 0), (2, 1, 0), (3, 2, 0)], 3, []⟩
def ym7 : List LA := [ym6]
abbrev yCR := dnF pP ym7 (code Tryz.f52)
abbrev yIP := yaO pP ym7 (code Tryz.f52)
abbrev yCS (p : List Nat) (K : List Kh) (R : VWP) := yaO pP ym7 (code Tryz.f52) p K (ya4 pP Tryz.f52 [] R)
def yg2 (bm0 : Nat) (c2 : Int) (b8 : BA) (c3 c4 c5 c6 c7 c8 : Int) (b2 : OA) (b6 b4 : Nat) (b9 a6 : BA) (b0 : Int) (a8 : Bool) (a0 : OA) (a4 a2 bm1 bm2 : Nat) (c9 : Int) (c0 : BA) (d0 d1 d2 d3 d4 d5 : Int) (b3 : OA) (b7 b5 : Nat) (c1 a7 : BA) (b1 : Int) (a9 : Bool) : Int × (Option Addr) × Nat × Nat → List Value × List TB := fun (d6, a1, a5, a3) => ([(.pointer (some ⟨bm0, 0, none⟩)), (.pointer (some ⟨bm1, 0, none⟩)), (.pointer (some ⟨bm2, 0, none⟩)), .int .i64 d6], [⟨bm0, 49, [.int .i64 c2, .string b8, .int .i64 c3, .int .i64 c4, .int .i64 c5, .int .i64 c6, .int .i64 c7, .int .i64 c8, .slice b2 b6 b4, .string b9, .string a6, .int .i64 b0, .bool a8, .slice a0 a4 a2], false⟩, ⟨bm1, 49, [.int .i64 0, .string ByteArray.empty, .int .i64 0, .int .i64 0, .int .i64 0, .int .i64 0, .int .i64 0, .int .i64 0, .slice none 0 0, .string ByteArray.empty, .string ByteArray.empty, .int .i64 0, .bool false, .slice none 0 0], false⟩, ⟨bm2, 49, [.int .i64 c9, .string c0, .int .i64 d0, .int .i64 d1, .int .i64 d2, .int .i64 d3, .int .i64 d4, .int .i64 d5, .slice b3 b7 b5, .string c1, .string a7, .int .i64 b1, .bool a9, .slice a1 a5 a3], false⟩])
abbrev yAc (bm0 : Nat) (b9 : Int) (b5 : BA) (c0 c1 c2 c3 c4 c5 : Int) (a9 : OA) (b3 b1 : Nat) (b6 a3 : BA) (a7 : Int) (a5 : Bool) (a0 : OA) (a2 a1 bm1 bm2 : Nat) (c6 : Int) (b7 : BA) (c7 c8 c9 d0 d1 d2 : Int) (b0 : OA) (b4 b2 : Nat) (b8 a4 : BA) (a8 : Int) (a6 : Bool) (I : Nat → Int → Option Addr → Nat → Nat → World → Prop) (m : Nat) : Kh := KG (yg2 bm0 b9 b5 c0 c1 c2 c3 c4 c5 a9 b3 b1 b6 a3 a7 a5 a0 a2 a1 bm1 bm2 c6 b7 c7 c8 c9 d0 d1 d2 b0 b4 b2 b8 a4 a8 a6) (U4 I) m
theorem yuN {I : Nat → Int → Option Addr → Nat → Nat → World → Prop} (m' : Nat) (h1 : m' < m) (h2 : I m' j6 q3 n9 o0 w) : KS (yAc n0 i0 s0 i1 i2 i3 i4 i5 i6 q0 n1 n2 s1 s2 i7 B0 q1 n3 n4 n5 n6 i8 s3 i9 j0 j1 j2 j3 j4 q2 n7 n8 s4 s5 j5 B1 I m) (yg2 n0 i0 s0 i1 i2 i3 i4 i5 i6 q0 n1 n2 s1 s2 i7 B0 q1 n3 n4 n5 n6 i8 s3 i9 j0 j1 j2 j3 j4 q2 n7 n8 s4 s5 j5 B1 (j6, q3, n9, o0)) w := ⟨m', h1, _, rfl, rfl, h2⟩
theorem yuO (I : Nat → Int → Option Addr → Nat → Nat → World → Prop) (m0 : Nat) (h0 : I m0 j6 q3 n9 o0 w0)
 (hr : ∀ m d6 a2 a4 a3 w, I m d6 a2 a4 a3 w →
 brB (decide (d6 < (n3 : Int))) (
 brB (decide (d6 < 12)) (
 ixA q1 n3 d6 1 fun f2 =>
 ∀ e0, Adv [] [] w e0 →
 yaP e0 f2 fun f4 =>
 ixA q1 n3 d6 1 fun f3 =>
 yaP e0 f3 fun e2 =>
 slS f4 0 (if 40 < (e2.size : Int) then 40 else (e2.size : Int)) fun f5 =>
 al e0 (.cells #[.string f5] 9) fun e9 e3 =>
 ycN pP (Builtin.append_ #[47, 47] 47 #[.slice a2 a4 a3, (.slice (some ⟨e9, 0, none⟩) 1 1)]) e3 fun e8 f1 f0 e4 => yaI [n0, n5, n6] e3 e4 ∧
 ∀ e5, Adv [n6] [] e4 e5 →
 KS (yAc n0 i0 s0 i1 i2 i3 i4 i5 i6 q0 n1 n2 s1 s2 i7 B0 q1 n3 n4 n5 n6 i8 s3 i9 j0 j1 j2 j3 j4 q2 n7 n8 s4 s5 j5 B1 I m) (yg2 n0 i0 s0 i1 i2 i3 i4 i5 i6 q0 n1 n2 s1 s2 i7 B0 q1 n3 n4 n5 n6 i8 s3 i9 j0 j1 j2 j3 j4 q2 n7 n8 s4 s5 j5 B1 ((IntKind.wrap .i64 (d6 + 1)), e8, f1, f0)) e5)
 (
 ∀ e6, Adv [n5] [] w e6 →
 R (.agg (Z1 i8 s3 i9 j0 j1 j2 j3 j4 q2 n7 n8 s4 s5 j5 B1 a2 a4 a3)) e6))
 (
 ∀ e7, Adv [n5] [] w e7 →
 R (.agg (Z1 i8 s3 i9 j0 j1 j2 j3 j4 q2 n7 n8 s4 s5 j5 B1 a2 a4 a3)) e7)) :
 yaJ ym6 (yCR 391 [0, 0, 1, 0, 1, 1, 1, 1, 1, 1, 1]) (yCS [1, 1, 1, 1, 1, 1, 1, 0, 1, 0] [] R) (yg2 n0 i0 s0 i1 i2 i3 i4 i5 i6 q0 n1 n2 s1 s2 i7 B0 q1 n3 n4 n5 n6 i8 s3 i9 j0 j1 j2 j3 j4 q2 n7 n8 s4 s5 j5 B1 (j6, q3, n9, o0)) w0 :=
 lrule (yg2 n0 i0 s0 i1 i2 i3 i4 i5 i6 q0 n1 n2 s1 s2 i7 B0 q1 n3 n4 n5 n6 i8 s3 i9 j0 j1 j2 j3 j4 q2 n7 n8 s4 s5 j5 B1) (U4 I) h0 (by rintro m ⟨d6, a2, a4, a3⟩ w h; exact ⟨by kernel_rfl, by kernel_rfl, fun js => Eq.mpr (by kernel_rfl) (hr m d6 a2 a4 a3 w h)⟩)
theorem yEd {a1 : BA} {a2 a0 : BA} (h :
 ∀ b1, w.heap.size ≤ b1 →
 ∀ b2, w.heap.size ≤ b2 →
 ∀ b3, w.heap.size ≤ b3 →
 slS a1 0 (if 40 < (a1.size : Int) then 40 else (a1.size : Int)) fun s4 =>
 slS a2 0 (if 40 < (a2.size : Int) then 40 else (a2.size : Int)) fun s5 =>
 slS a0 0 (if 40 < (a0.size : Int) then 40 else (a0.size : Int)) fun s6 =>
 ∀ w7, Adv [] [b3, b2, b1] w w7 →
 Calls pP 86 #[(.agg (Z8 i4 i5 i6 q0 n0 n1))] w7 fun e w8 => ∃ x9 c5 c6 c1 c3 c2, e = .returned (.agg (Z8 x9 c5 c6 c1 c3 c2)) ∧ yaI [b1, b2, b3] w7 w8 ∧
 ∀ c4, Adv [b3] [] w8 c4 →
 yaJ ym6 (yCR 391 [0, 0, 1, 0, 1, 1, 1, 1, 1, 1, 1]) (yCS [1, 1, 1, 1, 1, 1, 1, 0, 1, 0] [] R) (yg2 b1 i0 a1 i1 i2 i3 i4 i5 i6 q0 n0 n1 a2 a0 i7 B0 q1 n2 n3 b2 b3 i0 s4 i1 i2 i3 x9 c5 c6 c1 c3 c2 s5 s6 i7 B0 (0, none, 0, 0)) c4) :
 CR pP 52 #[(.agg (Z1 i0 a1 i1 i2 i3 i4 i5 i6 q0 n0 n1 a2 a0 i7 B0 q1 n2 n3))] w R :=
 yaA Tryz.wide_mixed (an := ym7) Tryz.func52 rfl rfl (by kernel_rfl) rfl (Eq.mpr (by kernel_rfl) h)
end
section
set_option maxRecDepth 100000
variable {R : VWP} {w w0 : World} {m : Nat} {i0 i1 i2 i3 i4 i5 i6 i7 i8 i9 j0 j1 j2 j3 j4 j5 j6 j7 j8 j9 k0 k1 k2 k3 k4 k5 k6 k7 k8 k9 l0 l1 l2 l3 l4 l5 l6 l7 l8 l9 : Int} {s0 s1 s2 s3 s4 s5 s6 s7 s8 s9 t0 t1 t2 t3 t4 t5 t6 t7 t8 t9 : BA} {n0 n1 n2 n3 n4 n5 n6 n7 n8 n9 o0 o1 o2 o3 o4 o5 o6 o7 o8 o9 p0 p1 p2 p3 p4 p5 p6 p7 p8 p9 : Nat} {q0 q1 q2 q3 q4 q5 q6 q7 q8 q9 r0 r1 r2 r3 r4 r5 r6 r7 r8 r9 : OA} {B0 B1 B2 B3 B4 B5 B6 B7 B8 B9 : Bool} {M0 M1 M2 M3 : Option Nat} {V0 V1 V2 V3 V4 V5 : Value} {A0 A1 A2 : Addr}
def ym8 : LA := ⟨[0, 0, 1, 0, 1, 1], [0, 3, 4], [], 0, []⟩
def ym9 : List LA := [ym8]
abbrev yCT := dnF pP ym9 (code Tryz.f20)
abbrev yIQ := yaO pP ym9 (code Tryz.f20)
abbrev yCU (p : List Nat) (K : List Kh) (R : VWP) := yaO pP ym9 (code Tryz.f20) p K (ya4 pP Tryz.f20 [] R)
def yg3 (a0 : OA) (a4 a2 : Nat) : (Option Addr) × Nat × Nat × Int → List Value × List TB := fun (a1, a5, a3, a6) => ([.slice a0 a4 a2, .slice a1 a5 a3, .int .i64 a6], [])
abbrev yAd (a0 : OA) (a2 a1 : Nat) (I : Nat → Option Addr → Nat → Nat → Int → World → Prop) (m : Nat) : Kh := KG (yg3 a0 a2 a1) (U4 I) m
theorem yuP {I : Nat → Option Addr → Nat → Nat → Int → World → Prop} (m' : Nat) (h1 : m' < m) (h2 : I m' q1 n2 n3 i0 w) : KS (yAd q0 n0 n1 I m) (yg3 q0 n0 n1 (q1, n2, n3, i0)) w := ⟨m', h1, _, rfl, rfl, h2⟩
theorem yuQ {a2 : OA} {a7 : OA} (I : Nat → Option Addr → Nat → Nat → Int → World → Prop) (m0 : Nat) (h0 : I m0 a7 n2 n3 i0 w0)
 (hr : ∀ m a3 a5 a4 a0 w, I m a3 a5 a4 a0 w →
 brB (decide (a0 < (n0 : Int))) (
 brB (decide (a0 < 12)) (
 ixA a2 n0 a0 16 fun q3 =>
 ∀ w4, Adv [] [] w w4 →
 yaF .i64 w4 q3 fun x5 =>
 ixA a2 n0 a0 16 fun q6 =>
 yaF .i64 w4 (Addr.add q6 1) fun x7 =>
 ixA a2 n0 a0 16 fun q8 =>
 yaF .i64 w4 (Addr.add q8 2) fun x9 => yaP w4 (Addr.add (Addr.add q8 2) 1) fun e0 => yaF .i64 w4 (Addr.add (Addr.add q8 2) 2) fun e6 => yaF .i64 w4 (Addr.add (Addr.add q8 2) 3) fun e7 => yaF .i64 w4 (Addr.add (Addr.add q8 2) 4) fun e8 => yaF .i64 w4 (Addr.add (Addr.add q8 2) 5) fun e9 => yaF .i64 w4 (Addr.add (Addr.add q8 2) 6) fun f0 => yaF .i64 w4 (Addr.add (Addr.add q8 2) 7) fun f1 => yaR w4 (Addr.add (Addr.add q8 2) 8) fun d0 d7 d4 => yaP w4 (Addr.add (Addr.add q8 2) 9) fun e1 => yaP w4 (Addr.add (Addr.add q8 2) 10) fun e2 => yaF .i64 w4 (Addr.add (Addr.add q8 2) 11) fun f2 => yaU w4 (Addr.add (Addr.add q8 2) 12) fun e3 => yaR w4 (Addr.add (Addr.add q8 2) 13) fun d1 d8 d5 =>
 Calls pP 52 #[(.agg (Z1 x9 e0 e6 e7 e8 e9 f0 f1 d0 d7 d4 e1 e2 f2 e3 d1 d8 d5))] w4 fun e b0 => ∃ c2 b8 c3 c4 c5 c6 c7 c8 b2 b6 b4 b9 c0 c9 c1 b3 b7 b5, e = .returned (.agg (Z1 c2 b8 c3 c4 c5 c6 c7 c8 b2 b6 b4 b9 c0 c9 c1 b3 b7 b5)) ∧ (yaF .i64 b0 (Addr.add q6 1) fun f3 => ((.int .i64 f3) : Value) = (.int .i64 x7)) ∧ (yaF .i64 b0 q3 fun f4 => ((.int .i64 f4) : Value) = (.int .i64 x5)) ∧
 al b0 (.cells (Z5 x5 x7 c2 b8 c3 c4 c5 c6 c7 c8 b2 b6 b4 b9 c0 c9 c1 b3 b7 b5) 51) fun d3 e4 =>
 ycN pP (Builtin.append_ #[22, 22] 22 #[.slice a3 a5 a4, (.slice (some ⟨d3, 0, none⟩) 1 1)]) e4 fun d2 d9 d6 e5 =>
 KS (yAd a2 n0 n1 I m) (yg3 a2 n0 n1 (d2, d9, d6, (IntKind.wrap .i64 (a0 + 1)))) e5)
 (
 R (.slice a3 a5 a4) w))
 (
 R (.slice a3 a5 a4) w)) :
 yaJ ym8 (yCT 396 [0, 0, 1, 0, 1, 1]) (yCU [1, 1, 0, 1, 0] [] R) (yg3 a2 n0 n1 (a7, n2, n3, i0)) w0 :=
 lrule (yg3 a2 n0 n1) (U4 I) h0 (by rintro m ⟨a3, a5, a4, a0⟩ w h; exact ⟨by kernel_rfl, by kernel_rfl, fun js => Eq.mpr (by kernel_rfl) (hr m a3 a5 a4 a0 w h)⟩)
theorem yEe (h :
 al w (.cells #[] 51) fun b1 w2 =>
 yaJ ym8 (yCT 396 [0, 0, 1, 0, 1, 1]) (yCU [1, 1, 0, 1, 0] [] R) (yg3 q0 n0 n1 ((some ⟨b1, 0, none⟩), 0, 0, 0)) w2) :
 CR pP 20 #[.slice q0 n0 n1] w R :=
 yaA Tryz.wide_mixed (an := ym9) Tryz.func20 rfl rfl (by kernel_rfl) rfl (Eq.mpr (by kernel_rfl) h)
end
theorem ypF {x : Int} (h0 : 0 ≤ x) (h1 : x ≤ 1099511627776) : num x = true := by simp [num]; omega
section
set_option maxRecDepth 100000
variable {R : VWP} {w w0 : World} {m : Nat} {i0 i1 i2 i3 i4 i5 i6 i7 i8 i9 j0 j1 j2 j3 j4 j5 j6 j7 j8 j9 k0 k1 k2 k3 k4 k5 k6 k7 k8 k9 l0 l1 l2 l3 l4 l5 l6 l7 l8 l9 : Int} {s0 s1 s2 s3 s4 s5 s6 s7 s8 s9 t0 t1 t2 t3 t4 t5 t6 t7 t8 t9 : BA} {n0 n1 n2 n3 n4 n5 n6 n7 n8 n9 o0 o1 o2 o3 o4 o5 o6 o7 o8 o9 p0 p1 p2 p3 p4 p5 p6 p7 p8 p9 : Nat} {q0 q1 q2 q3 q4 q5 q6 q7 q8 q9 r0 r1 r2 r3 r4 r5 r6 r7 r8 r9 : OA} {B0 B1 B2 B3 B4 B5 B6 B7 B8 B9 : Bool} {M0 M1 M2 M3 : Option Nat} {V0 V1 V2 V3 V4 V5 : Value} {A0 A1 A2 : Addr}
def ynA : LA := ⟨[0, 0, 1, 0, 1], [0, 3], [], 0, []⟩
def ynB : LA := ⟨[0, 0, 1, 0, 1, 1], [0, 4], [], 0, []⟩
def ynC : List LA := [ynA, ynB]
abbrev ytG := dnF pP ynC (code Tryz.f63)
abbrev yIR := yaO pP ynC (code Tryz.f63)
abbrev ytH (p : List Nat) (K : List Kh) (R : VWP) := yaO pP ynC (code Tryz.f63) p K (ya4 pP Tryz.f63 [] R)
def yjP (a0 : OA) (a2 a1 : Nat) : Int → List Value × List TB := fun a3 => ([.slice a0 a2 a1, .int .i64 a3], [])
def yjQ (a0 : OA) (a2 a1 : Nat) : Int → List Value × List TB := fun a3 => ([.slice a0 a2 a1, .int .i64 a3], [])
abbrev yEf (a0 : OA) (a2 a1 : Nat) (I : Nat → Int → World → Prop) (m : Nat) : Kh := KG (yjP a0 a2 a1) (U1 I) m
theorem yuR {a1 : OA} (I : Nat → Int → World → Prop) (m0 : Nat) (h0 : I m0 i0 w0)
 (hr : ∀ m a2 w, I m a2 w →
 brB (decide (a2 < (n0 : Int))) (
 ixA a1 n0 a2 16 fun q1 =>
 yaF .i64 w q1 fun x2 =>
 Calls pP 99 #[.int .i64 x2] w fun e w3 => ∃ t4, e = .returned (.bool t4) ∧
 brB (!t4) (
 R (.int .i64 1) w3)
 (
 ixA a1 n0 a2 16 fun q5 =>
 yaF .i64 w3 (Addr.add q5 1) fun x6 =>
 Calls pP 99 #[.int .i64 x6] w3 fun e w7 => ∃ t8, e = .returned (.bool t8) ∧
 brB (!t8) (
 R (.int .i64 1) w7)
 (
 KS (yEf a1 n0 n1 I m) (yjP a1 n0 n1 (IntKind.wrap .i64 (a2 + 1))) w7)))
 (
 yaJ ynB (ytG 396 [0, 0, 1, 0, 1, 1]) (ytH [1, 1, 0, 1, 0] [] R) (yjQ a1 n0 n1 0) w)) :
 yaJ ynA (ytG 397 [0, 0, 1, 0, 1]) (ytH [1, 0, 1, 0] [] R) (yjP a1 n0 n1 i0) w0 :=
 lrule (yjP a1 n0 n1) (U1 I) h0 (by rintro m a2 w h; exact ⟨by kernel_rfl, by kernel_rfl, fun js => Eq.mpr (by kernel_rfl) (hr m a2 w h)⟩)
abbrev yEg (a0 : OA) (a2 a1 : Nat) (I : Nat → Int → World → Prop) (m : Nat) : Kh := KG (yjQ a0 a2 a1) (U1 I) m
theorem yuS {a2 : OA} (I : Nat → Int → World → Prop) (m0 : Nat) (h0 : I m0 i0 w0)
 (hr : ∀ m a1 w, I m a1 w →
 brB (decide (a1 < (n0 : Int))) (
 ixA a2 n0 a1 16 fun q9 =>
 yaF .i64 w (Addr.add q9 2) fun b7 => yaP w (Addr.add (Addr.add q9 2) 1) fun b3 => yaF .i64 w (Addr.add (Addr.add q9 2) 2) fun b8 => yaF .i64 w (Addr.add (Addr.add q9 2) 3) fun b9 => yaF .i64 w (Addr.add (Addr.add q9 2) 4) fun c0 => yaF .i64 w (Addr.add (Addr.add q9 2) 5) fun c1 => yaF .i64 w (Addr.add (Addr.add q9 2) 6) fun c2 => yaF .i64 w (Addr.add (Addr.add q9 2) 7) fun c3 => yaR w (Addr.add (Addr.add q9 2) 8) fun a7 b1 a9 => yaP w (Addr.add (Addr.add q9 2) 9) fun b4 => yaP w (Addr.add (Addr.add q9 2) 10) fun b5 => yaF .i64 w (Addr.add (Addr.add q9 2) 11) fun c4 => yaU w (Addr.add (Addr.add q9 2) 12) fun b6 => yaR w (Addr.add (Addr.add q9 2) 13) fun a8 b2 b0 =>
 Calls pP 100 #[(.agg (Z1 b7 b3 b8 b9 c0 c1 c2 c3 a7 b1 a9 b4 b5 c4 b6 a8 b2 b0))] w fun e a6 => ∃ a4, e = .returned (.int .i64 a4) ∧
 brB (a4 != 0) (
 R (.int .i64 a4) a6)
 (
 KS (yEg a2 n0 n1 I m) (yjQ a2 n0 n1 (IntKind.wrap .i64 (a1 + 1))) a6))
 (
 R (.int .i64 0) w)) :
 yaJ ynB (ytG 396 [0, 0, 1, 0, 1, 1]) (ytH [1, 1, 0, 1, 0] [] R) (yjQ a2 n0 n1 i0) w0 :=
 lrule (yjQ a2 n0 n1) (U1 I) h0 (by rintro m a1 w h; exact ⟨by kernel_rfl, by kernel_rfl, fun js => Eq.mpr (by kernel_rfl) (hr m a1 w h)⟩)
theorem yEh (h :
 yaJ ynA (ytG 397 [0, 0, 1, 0, 1]) (ytH [1, 0, 1, 0] [] R) (yjP q0 n0 n1 0) w) :
 CR pP 63 #[.slice q0 n0 n1] w R :=
 yaA Tryz.wide_mixed (an := ynC) Tryz.func63 rfl rfl (by kernel_rfl) rfl (Eq.mpr (by kernel_rfl) h)
end
section
set_option maxRecDepth 100000
variable {R : VWP} {w w0 : World} {m : Nat} {i0 i1 i2 i3 i4 i5 i6 i7 i8 i9 j0 j1 j2 j3 j4 j5 j6 j7 j8 j9 k0 k1 k2 k3 k4 k5 k6 k7 k8 k9 l0 l1 l2 l3 l4 l5 l6 l7 l8 l9 : Int} {s0 s1 s2 s3 s4 s5 s6 s7 s8 s9 t0 t1 t2 t3 t4 t5 t6 t7 t8 t9 : BA} {n0 n1 n2 n3 n4 n5 n6 n7 n8 n9 o0 o1 o2 o3 o4 o5 o6 o7 o8 o9 p0 p1 p2 p3 p4 p5 p6 p7 p8 p9 : Nat} {q0 q1 q2 q3 q4 q5 q6 q7 q8 q9 r0 r1 r2 r3 r4 r5 r6 r7 r8 r9 : OA} {B0 B1 B2 B3 B4 B5 B6 B7 B8 B9 : Bool} {M0 M1 M2 M3 : Option Nat} {V0 V1 V2 V3 V4 V5 : Value} {A0 A1 A2 : Addr}
def ynD : LA := ⟨[0, 0, 1, 0, 1, 1, 1, 1, 1], [0, 5, 6], [], 0, []⟩
def ynE : List LA := [ynD]
abbrev yCV := dnF pP ynE (code Tryz.f32)
abbrev yIS := yaO pP ynE (code Tryz.f32)
abbrev yCW (p : List Nat) (K : List Kh) (R : VWP) := yaO pP ynE (code Tryz.f32) p K (ya4 pP Tryz.f32 [] R)
def yjR (a0 : OA) (a2 a1 : Nat) : ByteArray × Int → List Value × List TB := fun (a3, a4) => ([.slice a0 a2 a1, .string a3, .int .i64 a4], [])
abbrev yEi (a0 : OA) (a2 a1 : Nat) (I : Nat → ByteArray → Int → World → Prop) (m : Nat) : Kh := KG (yjR a0 a2 a1) (U2 I) m
theorem yuT {a2 : OA} {a6 : BA} (I : Nat → ByteArray → Int → World → Prop) (m0 : Nat) (h0 : I m0 a6 i0 w0)
 (hr : ∀ m a3 a1 w, I m a3 a1 w →
 brB (decide (a1 < (n0 : Int))) (
 ixA a2 n0 a1 16 fun q5 =>
 yaF .i64 w (Addr.add q5 2) fun x6 => yaP w (Addr.add (Addr.add q5 2) 1) fun s7 => yaF .i64 w (Addr.add (Addr.add q5 2) 2) fun x8 => yaF .i64 w (Addr.add (Addr.add q5 2) 3) fun x9 => yaF .i64 w (Addr.add (Addr.add q5 2) 4) fun d3 => yaF .i64 w (Addr.add (Addr.add q5 2) 5) fun d4 => yaF .i64 w (Addr.add (Addr.add q5 2) 6) fun d5 => yaF .i64 w (Addr.add (Addr.add q5 2) 7) fun d6 => yaR w (Addr.add (Addr.add q5 2) 8) fun b6 c0 b8 => yaP w (Addr.add (Addr.add q5 2) 9) fun c3 => yaP w (Addr.add (Addr.add q5 2) 10) fun c4 => yaF .i64 w (Addr.add (Addr.add q5 2) 11) fun d7 => yaU w (Addr.add (Addr.add q5 2) 12) fun c8 => yaR w (Addr.add (Addr.add q5 2) 13) fun b7 c1 b9 =>
 Calls pP 64 #[(.agg (Z1 x6 s7 x8 x9 d3 d4 d5 d6 b6 c0 b8 c3 c4 d7 c8 b7 c1 b9))] w fun e c9 => ∃ a9 d8, e = .returned (.tuple #[.string a9, .int .i64 d8]) ∧
 ixA a2 n0 a1 16 fun c2 =>
 ∀ a5, Adv [] [] c9 a5 →
 yaF .i64 a5 c2 fun d9 =>
 ixA a2 n0 a1 16 fun a8 =>
 yaF .i64 a5 (Addr.add a8 1) fun b5 =>
 Calls pP 31 #[(.int .u64 (IntKind.wrap .u64 d9))] a5 fun e b4 => ∃ b0, e = .returned (.string b0) ∧ (yaF .i64 b4 (Addr.add a8 1) fun e0 => ((.int .i64 e0) : Value) = (.int .i64 b5)) ∧
 Calls pP 31 #[(.int .u64 (IntKind.wrap .u64 b5))] b4 fun e d0 => ∃ b1, e = .returned (.string b1) ∧
 yfC b0 b1 fun c5 =>
 Calls pP 34 #[.string a9] d0 fun e d1 => ∃ b2, e = .returned (.string b2) ∧
 yfC c5 b2 fun c6 =>
 Calls pP 35 #[.string c6] d1 fun e d2 => ∃ b3, e = .returned (.string b3) ∧
 yfC a3 b3 fun c7 =>
 KS (yEi a2 n0 n1 I m) (yjR a2 n0 n1 (c7, (IntKind.wrap .i64 (a1 + 1)))) d2)
 (
 R (.tuple #[.string a3, .int .i64 0]) w)) :
 yaJ ynD (yCV 393 [0, 0, 1, 0, 1, 1, 1, 1, 1]) (yCW [1, 1, 1, 1, 1, 0, 1, 0] [] R) (yjR a2 n0 n1 (a6, i0)) w0 :=
 lrule (yjR a2 n0 n1) (U2 I) h0 (by rintro m ⟨a3, a1⟩ w h; exact ⟨by kernel_rfl, by kernel_rfl, fun js => Eq.mpr (by kernel_rfl) (hr m a3 a1 w h)⟩)
theorem yEj (h :
 brB (decide ((n0 : Int) > 4096)) (
 R (.tuple #[(.string (⟨#[]⟩ : BA)), .int .i64 2]) w)
 (
 Calls pP 63 #[.slice q0 n0 n1] w fun e w1 => ∃ x2, e = .returned (.int .i64 x2) ∧
 brB (x2 != 0) (
 R (.tuple #[(.string (⟨#[]⟩ : BA)), .int .i64 x2]) w1)
 (
 Calls pP 31 #[(.int .u64 (IntKind.wrap .u64 (n0 : Int)))] w1 fun e w3 => ∃ s4, e = .returned (.string s4) ∧
 yaJ ynD (yCV 393 [0, 0, 1, 0, 1, 1, 1, 1, 1]) (yCW [1, 1, 1, 1, 1, 0, 1, 0] [] R) (yjR q0 n0 n1 (s4, 0)) w3))) :
 CR pP 32 #[.slice q0 n0 n1] w R :=
 yaA Tryz.wide_mixed (an := ynE) Tryz.func32 rfl rfl (by kernel_rfl) rfl (Eq.mpr (by kernel_rfl) h)
end
theorem yAe (r : PRec) (hr : ygE r = 0) (w : World) : Calls pP 67 #[r.v] w fun e w' => e = .returned (.string (bs (yfR r))) ∧ Mod [] w w' := by
 obtain ⟨hk, hv⟩ := ye3 hr
 obtain ⟨k, key, t, val⟩ := r
 refine yaQ (yD0 ?_)
 intro b1 f1
 have hkt : t = true → k = true ∧ val.size = 0 := fun h => by
  subst h
  unfold ygE yEH at hr
  split at hr
  ·omega
  ·rename_i h; simp at h; cases k <;> simp_all
 have cat1 : ∀ (x : UInt8) (s : ByteArray), s.size ≤ 1000 → (⟨#[x]⟩ : ByteArray).size + (bs (ybP s)).size ≤ 9223372036854775807 := fun x s hs => by
  have := (ya0 s (by omega)).2
  rw [yaE]; show 1 + _ ≤ _; omega
 have one : ∀ (x : UInt8) (l : List UInt8), (⟨#[x]⟩ : ByteArray) ++ bs l = bs (x :: l) := fun x l => ybH [x] l
 refine yaB (fun g => ?_) fun g => ?_
 ·obtain ⟨rfl, _⟩ := hkt g
  have g : t = true := g
  subst g
  intro w2 A2
  refine (ycP key (by simp at hk; omega) w2).mono ?_
  rintro e w3 ⟨rfl, M3⟩
  refine ⟨_, rfl, yaI.of0 M3, cat1 _ _ (by simp at hk; omega), ?_, A2.mod.go0 M3 (by simp)⟩
  rw [one]; simp [yfR, yfQ]
 ·have g : t = false := g
  subst g
  refine yaB (fun g2 => ?_) fun g2 => ?_
  ·have g2 : k = true := g2
   subst g2
   intro w2 A2
   refine (ycP key (by simp at hk; omega) w2).mono ?_
   rintro e w3 ⟨rfl, M3⟩
   refine ⟨_, rfl, yaI.of0 M3, rfl, cat1 _ _ (by simp at hk; omega), ?_⟩
   refine (ycP val (by simp at hv; omega) w3).mono ?_
   rintro e w4 ⟨rfl, M4⟩
   have l1 := (ya0 key (by simp at hk; omega)).2
   have l2 := (ya0 val (by simp at hv; omega)).2
   refine ⟨_, rfl, yaI.of0 M4, by rw [one, yaE, yaE, List.length_cons]; simp at hk hv; omega, ?_, (A2.mod.go0 M3 (by simp)).go0 M4 (by simp)⟩
   rw [one, ybH]; simp [yfR, yfQ]
  ·have g2 : k = false := g2
   subst g2
   intro w2 A2
   refine (ycP val (by simp at hv; omega) w2).mono ?_
   rintro e w3 ⟨rfl, M3⟩
   refine ⟨_, rfl, yaI.of0 M3, cat1 _ _ (by simp at hv; omega), ?_, A2.mod.go0 M3 (by simp)⟩
   rw [one]; simp [yfR, yfQ]
theorem ydN {x : Int} (hx : num x = true) (w : World) : Calls pP 66 #[.int .i64 x] w fun e w' => e = .returned (.string (bs (yaL x.toNat))) ∧ Mod [] w w' := by
 have := yeT hx
 obtain ⟨n, rfl⟩ := Int.eq_ofNat_of_zero_le this.1
 refine yaQ (yD1 ?_)
 rw [ygF (by omega)]
 refine (ygI (n := n) (by omega) w).mono ?_
 rintro e w1 ⟨rfl, M1⟩
 exact ⟨_, rfl, rfl, M1⟩
def ycD (m : PMail) : Int := if m.kind < 0 ∨ m.kind ≥ 12 then 180 else if ((yaS m).all num) = false then 1 else if ycO m.calls ≠ 0 then ycO m.calls else yfA m.r
theorem ycL {m : PMail} (h : ycD m = 0) : (0 ≤ m.kind ∧ m.kind < 12) ∧ (yaS m).all num = true ∧ ycO m.calls = 0 ∧ yfA m.r = 0 := by
 unfold ycD at h
 split at h
 ·omega
 ·split at h
  ·omega
  ·split at h
   ·rename_i h3; exact absurd h h3
   ·rename_i h1 h2 h3; exact ⟨by omega, by simpa using h2, by simpa using h3, h⟩
structure MailW (w : World) (m : PMail) (s f p : Sl) : Prop where
 calls : yeH w s m.calls
 lc : m.calls.length ≤ 100000
 rep : RepAtW w m.r f p
theorem MailAt.w {w : World} {m : PMail} {s f p : Sl} (h : MailAt w m s f p) (hl : m.calls.length ≤ 100000) : MailW w m s f p := ⟨h.calls, hl, h.rep.wide⟩
theorem yjS {w : World} {m : PMail} {s f p : Sl} (h : MailW w m s f p) :
  Calls pP 12 #[m.v s f p] w fun e w' => e = .returned (.int .i64 (ycD m)) ∧ Mod [] w w' := by
 obtain ⟨ll, hll, hop, hcs⟩ := h.calls
 have hl : ll.length ≤ 1000000 := by have := congrArg List.length hcs; have := h.lc; simp at *; omega
 refine yaQ (yGB ?_)
 intro b1 f1
 refine yaC (fun g1 => fun w2 A2 => ⟨by rw [ycD, if_pos (.inl g1)], A2.mod⟩) fun g1 => ?_
 refine yaC (fun g2 => fun w2 A2 => ⟨by rw [ycD, if_pos (.inr g2)], A2.mod⟩) fun g2 => ?_
 have hE : ycD m = if ((yaS m).all num) = false then 1 else if ycO m.calls ≠ 0 then ycO m.calls else yfA m.r := by rw [ycD, if_neg (by omega)]
 intro w4 A4 h4
 refine (yo6 b1 w4).mono ?_
 rintro e w5 ⟨rfl, M5⟩
 have N5 := A4.mod.go0 M5 (by simp)
 have h5 := M5.keep0 h4
 refine ⟨_, _, _, _, _, _, _, _, _, _, rfl, _, _, _, _, _, _, _, _, _, _, _, _, _, _, _, _, _, _, _, _, _, _, _, h5, ?_⟩
 refine yyK (fun mm x w' => ∃ k : Nat, x = k ∧ k ≤ 10 ∧ ((yaS m).take k).all num = true ∧ mm = 10 - k ∧ w' = w5) 10 ⟨0, rfl, by omega, by simp, rfl, rfl⟩ ?_
 rintro mm x w6 ⟨k, rfl, hk, hal, rfl, rfl⟩ h6
 refine yaC (fun hlt => ?_) fun hge => ?_
 ·have hk' : k < 10 := by omega
  obtain ⟨x, hx⟩ : ∃ x, (yaS m)[k]? = some x := ⟨_, List.getElem?_eq_getElem (by simpa [yaS] using hk')⟩
  have hc := yd0 (s := s) (f := f) (p := p) h6 hx
  have bad : ¬ (0 ≤ x ∧ x ≤ 1099511627776) → ycD m = 1 := fun hn => by
   rw [hE, if_pos]
   apply Bool.eq_false_iff.2
   intro hh
   have := List.all_eq_true.1 hh x (List.mem_of_getElem? hx)
   exact hn (by simpa [num] using this)
  refine ⟨_, yDN b1 hk', yaD hc ?_⟩
  refine yaC (fun g3 => ⟨by rw [bad (by omega)], N5⟩) fun g3 => ?_
  refine yaD hc ?_
  refine yaC (fun g4 => ⟨by rw [bad (by omega)], N5⟩) fun g4 => ?_
  refine yyJ (10 - (k + 1)) (by omega) ⟨k + 1, by rw [yaG (by omega) (by omega)]; omega, by omega, ?_, rfl, rfl⟩
  rw [yb5 hx, hal]; simp [num]; omega
 ·have hk' : k = 10 := by omega
  subst hk'
  rw [List.take_of_length_le (by simp [yaS])] at hal
  rw [hal, if_neg (by decide)] at hE
  refine (yrI (s := s) (ll := ll) ⟨hll.keep0 N5, fun q hq => (hop q hq).keep0 N5⟩ hl).mono ?_
  rw [hcs]
  rintro e w7 ⟨rfl, M7⟩
  refine ⟨_, _, rfl, _, _, _, _, _, _, _, _, _, _, _, _, _, _, _, _, _, _, _, _, _, _, _, M7.keep0 h6, ?_⟩
  have N7 := N5.go0 M7 (by simp)
  refine yaB (fun g => ?_) fun g => ?_
  ·have g : ycO m.calls ≠ 0 := by simpa using g
   exact ⟨by rw [hE, if_pos g], N7⟩
  have g : ycO m.calls = 0 := by simpa using g
  rw [if_neg (by simpa using g)] at hE
  refine (yo5 (h.rep.keep0 N7)).mono ?_
  rintro e w8 ⟨rfl, M8⟩
  refine ⟨_, _, rfl, _, _, _, _, _, _, _, _, _, _, _, _, _, _, _, _, _, _, _, _, _, _, _, (M7.go0 M8 (by simp)).keep0 h6, ?_⟩
  exact ⟨by rw [hE], N7.go0 M8 (by simp)⟩
section
set_option maxRecDepth 100000
variable {R : VWP} {w w0 : World} {m : Nat} {i0 i1 i2 i3 i4 i5 i6 i7 i8 i9 j0 j1 j2 j3 j4 j5 j6 j7 j8 j9 k0 k1 k2 k3 k4 k5 k6 k7 k8 k9 l0 l1 l2 l3 l4 l5 l6 l7 l8 l9 : Int} {s0 s1 s2 s3 s4 s5 s6 s7 s8 s9 t0 t1 t2 t3 t4 t5 t6 t7 t8 t9 : BA} {n0 n1 n2 n3 n4 n5 n6 n7 n8 n9 o0 o1 o2 o3 o4 o5 o6 o7 o8 o9 p0 p1 p2 p3 p4 p5 p6 p7 p8 p9 : Nat} {q0 q1 q2 q3 q4 q5 q6 q7 q8 q9 r0 r1 r2 r3 r4 r5 r6 r7 r8 r9 : OA} {B0 B1 B2 B3 B4 B5 B6 B7 B8 B9 : Bool} {M0 M1 M2 M3 : Option Nat} {V0 V1 V2 V3 V4 V5 : Value} {A0 A1 A2 : Addr}
def ynF : LA := ⟨[0, 0, 1, 0, 1, 1, 1, 1], [1, 5, 6], [(1, 0, 0)], 1, []⟩
def ynG : LA := ⟨[0, 0, 1, 0, 1, 1, 1, 1, 1, 1], [1, 5, 7], [(1, 0, 0)], 1, []⟩
def ynH : List LA := [ynF, ynG]
abbrev ytI := dnF pP ynH (code Tryz.f33)
abbrev yIT := yaO pP ynH (code Tryz.f33)
abbrev ytJ (p : List Nat) (K : List Kh) (R : VWP) := yaO pP ynH (code Tryz.f33) p K (ya4 pP Tryz.f33 [] R)
def yg4 (bm0 : Nat) (a6 a7 a8 a9 : Int) (a0 : OA) (a4 a2 : Nat) (a1 : OA) (a5 a3 : Nat) : ByteArray × Int → List Value × List TB := fun (b0, b1) => ([(.pointer (some ⟨bm0, 0, none⟩)), .string b0, .int .i64 b1], [⟨bm0, 27, [.int .i64 a6, .int .i64 a7, .int .i64 a8, .int .i64 a9, .slice a0 a4 a2, .slice a1 a5 a3], false⟩])
def yg5 (bm0 : Nat) (a6 a7 a8 a9 : Int) (a0 : OA) (a4 a2 : Nat) (a1 : OA) (a5 a3 : Nat) : ByteArray × Int → List Value × List TB := fun (b0, b1) => ([(.pointer (some ⟨bm0, 0, none⟩)), .string b0, .int .i64 b1], [⟨bm0, 27, [.int .i64 a6, .int .i64 a7, .int .i64 a8, .int .i64 a9, .slice a0 a4 a2, .slice a1 a5 a3], false⟩])
abbrev yAf (bm0 : Nat) (a6 a7 a8 a9 : Int) (a0 : OA) (a4 a2 : Nat) (a1 : OA) (a5 a3 : Nat) (I : Nat → ByteArray → Int → World → Prop) (m : Nat) : Kh := KG (yg4 bm0 a6 a7 a8 a9 a0 a4 a2 a1 a5 a3) (U2 I) m
theorem yuU {I : Nat → ByteArray → Int → World → Prop} (m' : Nat) (h1 : m' < m) (h2 : I m' s0 i4 w) : KS (yAf n0 i0 i1 i2 i3 q0 n1 n2 q1 n3 n4 I m) (yg4 n0 i0 i1 i2 i3 q0 n1 n2 q1 n3 n4 (s0, i4)) w := ⟨m', h1, _, rfl, rfl, h2⟩
theorem yuV (I : Nat → ByteArray → Int → World → Prop) (m0 : Nat) (h0 : I m0 s0 i4 w0)
 (hr : ∀ m b4 b3 w, I m b4 b3 w →
 brB (decide (b3 < (n1 : Int))) (
 ixA q0 n1 b3 5 fun c6 =>
 ∀ b1, Adv [] [] w b1 →
 yaF .i64 b1 c6 fun d4 =>
 ixA q0 n1 b3 5 fun b0 =>
 yaU b1 (Addr.add b0 1) fun c2 => yaP b1 (Addr.add (Addr.add b0 1) 1) fun b7 => yaU b1 (Addr.add (Addr.add b0 1) 2) fun c3 => yaP b1 (Addr.add (Addr.add b0 1) 3) fun b8 =>
 Calls pP 66 #[.int .i64 d4] b1 fun e b2 => ∃ b9, e = .returned (.string b9) ∧ yaI [n0] b1 b2 ∧ (yaU b2 (Addr.add b0 1) fun d2 => yaP b2 (Addr.add (Addr.add b0 1) 1) fun c7 => yaU b2 (Addr.add (Addr.add b0 1) 2) fun d3 => yaP b2 (Addr.add (Addr.add b0 1) 3) fun c8 => ((.agg (Z7 d2 c7 d3 c8)) : Value) = (.agg (Z7 c2 b7 c3 b8))) ∧ (((.slice q0 n1 n2) : Value) = (.slice q0 n1 n2)) ∧
 Calls pP 67 #[(.agg (Z7 c2 b7 c3 b8))] b2 fun e c4 => ∃ c0, e = .returned (.string c0) ∧ yaI [n0] b2 c4 ∧
 yfC b9 c0 fun c9 =>
 yfC b4 c9 fun d0 =>
 KS (yAf n0 i0 i1 i2 i3 q0 n1 n2 q1 n3 n4 I m) (yg4 n0 i0 i1 i2 i3 q0 n1 n2 q1 n3 n4 (d0, (IntKind.wrap .i64 (b3 + 1)))) c4)
 (
 Calls pP 66 #[(.int .i64 (n3 : Int))] w fun e c5 => ∃ c1, e = .returned (.string c1) ∧ yaI [n0] w c5 ∧
 yfC b4 c1 fun d1 =>
 yaJ ynG (ytI 392 [0, 0, 1, 0, 1, 1, 1, 1, 1, 1]) (ytJ [1, 1, 1, 1, 1, 1, 0, 1, 0] [] R) (yg5 n0 i0 i1 i2 i3 q0 n1 n2 q1 n3 n4 (d1, 0)) c5)) :
 yaJ ynF (ytI 394 [0, 0, 1, 0, 1, 1, 1, 1]) (ytJ [1, 1, 1, 1, 0, 1, 0] [] R) (yg4 n0 i0 i1 i2 i3 q0 n1 n2 q1 n3 n4 (s0, i4)) w0 :=
 lrule (yg4 n0 i0 i1 i2 i3 q0 n1 n2 q1 n3 n4) (U2 I) h0 (by rintro m ⟨b4, b3⟩ w h; exact ⟨by kernel_rfl, by kernel_rfl, fun js => Eq.mpr (by kernel_rfl) (hr m b4 b3 w h)⟩)
abbrev yAg (bm0 : Nat) (a6 a7 a8 a9 : Int) (a0 : OA) (a4 a2 : Nat) (a1 : OA) (a5 a3 : Nat) (I : Nat → ByteArray → Int → World → Prop) (m : Nat) : Kh := KG (yg5 bm0 a6 a7 a8 a9 a0 a4 a2 a1 a5 a3) (U2 I) m
theorem yuW {I : Nat → ByteArray → Int → World → Prop} (m' : Nat) (h1 : m' < m) (h2 : I m' s0 i4 w) : KS (yAg n0 i0 i1 i2 i3 q0 n1 n2 q1 n3 n4 I m) (yg5 n0 i0 i1 i2 i3 q0 n1 n2 q1 n3 n4 (s0, i4)) w := ⟨m', h1, _, rfl, rfl, h2⟩
theorem yuX (I : Nat → ByteArray → Int → World → Prop) (m0 : Nat) (h0 : I m0 s0 i4 w0)
 (hr : ∀ m b1 b0 w, I m b1 b0 w →
 brB (decide (b0 < (n3 : Int))) (
 ixA q1 n3 b0 2 fun c1 =>
 ∀ b2, Adv [] [] w b2 →
 yaP b2 c1 fun c2 =>
 ixA q1 n3 b0 2 fun b6 =>
 yaF .i64 b2 (Addr.add b6 1) fun c0 =>
 Calls pP 34 #[.string c2] b2 fun e b3 => ∃ b7, e = .returned (.string b7) ∧ yaI [n0] b2 b3 ∧ (yaF .i64 b3 (Addr.add b6 1) fun c5 => ((.int .i64 c5) : Value) = (.int .i64 c0)) ∧ (((.slice q1 n3 n4) : Value) = (.slice q1 n3 n4)) ∧
 Calls pP 66 #[.int .i64 c0] b3 fun e b9 => ∃ b8, e = .returned (.string b8) ∧ yaI [n0] b3 b9 ∧
 yfC b7 b8 fun c3 =>
 yfC b1 c3 fun c4 =>
 KS (yAg n0 i0 i1 i2 i3 q0 n1 n2 q1 n3 n4 I m) (yg5 n0 i0 i1 i2 i3 q0 n1 n2 q1 n3 n4 (c4, (IntKind.wrap .i64 (b0 + 1)))) b9)
 (
 R (.tuple #[.string b1, .int .i64 0]) w)) :
 yaJ ynG (ytI 392 [0, 0, 1, 0, 1, 1, 1, 1, 1, 1]) (ytJ [1, 1, 1, 1, 1, 1, 0, 1, 0] [] R) (yg5 n0 i0 i1 i2 i3 q0 n1 n2 q1 n3 n4 (s0, i4)) w0 :=
 lrule (yg5 n0 i0 i1 i2 i3 q0 n1 n2 q1 n3 n4) (U2 I) h0 (by rintro m ⟨b1, b0⟩ w h; exact ⟨by kernel_rfl, by kernel_rfl, fun js => Eq.mpr (by kernel_rfl) (hr m b1 b0 w h)⟩)
theorem yEk (h :
 ∀ b1, w.heap.size ≤ b1 →
 ∀ w2, Adv [] [b1] w w2 →
 Calls pP 65 #[(.agg (Z3 i0 i1 i2 i3 q0 n0 n1 q1 n2 n3))] w2 fun e w3 => ∃ x4, e = .returned (.int .i64 x4) ∧ yaI [b1] w2 w3 ∧
 brB (x4 != 0) (
 R (.tuple #[(.string (⟨#[]⟩ : BA)), .int .i64 x4]) w3)
 (
 ∀ w5, Adv [] [] w3 w5 →
 Calls pP 66 #[.int .i64 i0] w5 fun e w6 => ∃ s7, e = .returned (.string s7) ∧ yaI [b1] w5 w6 ∧ (((.slice q0 n0 n1) : Value) = (.slice q0 n0 n1)) ∧ (((.int .i64 i3) : Value) = (.int .i64 i3)) ∧ (((.int .i64 i2) : Value) = (.int .i64 i2)) ∧ (((.int .i64 i1) : Value) = (.int .i64 i1)) ∧
 Calls pP 66 #[.int .i64 i1] w6 fun e w8 => ∃ s9, e = .returned (.string s9) ∧ yaI [b1] w6 w8 ∧ (((.slice q0 n0 n1) : Value) = (.slice q0 n0 n1)) ∧ (((.int .i64 i3) : Value) = (.int .i64 i3)) ∧ (((.int .i64 i2) : Value) = (.int .i64 i2)) ∧
 yfC s7 s9 fun b7 =>
 Calls pP 66 #[.int .i64 i2] w8 fun e b0 => ∃ b3, e = .returned (.string b3) ∧ yaI [b1] w8 b0 ∧ (((.slice q0 n0 n1) : Value) = (.slice q0 n0 n1)) ∧ (((.int .i64 i3) : Value) = (.int .i64 i3)) ∧
 yfC b7 b3 fun b8 =>
 Calls pP 66 #[.int .i64 i3] b0 fun e b2 => ∃ b4, e = .returned (.string b4) ∧ yaI [b1] b0 b2 ∧ (((.slice q0 n0 n1) : Value) = (.slice q0 n0 n1)) ∧
 yfC b8 b4 fun b9 =>
 Calls pP 66 #[(.int .i64 (n0 : Int))] b2 fun e b6 => ∃ b5, e = .returned (.string b5) ∧ yaI [b1] b2 b6 ∧
 yfC b9 b5 fun c0 =>
 yaJ ynF (ytI 394 [0, 0, 1, 0, 1, 1, 1, 1]) (ytJ [1, 1, 1, 1, 0, 1, 0] [] R) (yg4 b1 i0 i1 i2 i3 q0 n0 n1 q1 n2 n3 (c0, 0)) b6)) :
 CR pP 33 #[(.agg (Z3 i0 i1 i2 i3 q0 n0 n1 q1 n2 n3))] w R :=
 yaA Tryz.wide_mixed (an := ynH) Tryz.func33 rfl rfl (by kernel_rfl) rfl (Eq.mpr (by kernel_rfl) h)
def ynI : LA := ⟨[0, 0, 1, 0, 1, 1, 1], [1, 3, 4], [(1, 0, 0)], 1, []⟩
def ynJ : List LA := [ynI]
abbrev yCX := dnF pP ynJ (code Tryz.f13)
abbrev yIU := yaO pP ynJ (code Tryz.f13)
abbrev yCY (p : List Nat) (K : List Kh) (R : VWP) := yaO pP ynJ (code Tryz.f13) p K (ya4 pP Tryz.f13 [] R)
def yg6 (c3 : OA) (c5 c4 bm0 : Nat) (b3 b4 b5 b6 b7 b8 b9 c0 c1 c2 : Int) (a0 : OA) (a6 a3 : Nat) (a9 b0 b1 b2 : Int) (a1 : OA) (a7 a4 : Nat) (a2 : OA) (a8 a5 : Nat) : Int → List Value × List TB := fun c6 => ([(.pointer (some ⟨bm0, 0, none⟩)), .slice c3 c5 c4, .int .i64 c6], [⟨bm0, 29, [.int .i64 b3, .int .i64 b4, .int .i64 b5, .int .i64 b6, .int .i64 b7, .int .i64 b8, .int .i64 b9, .int .i64 c0, .int .i64 c1, .int .i64 c2, .slice a0 a6 a3, .int .i64 a9, .int .i64 b0, .int .i64 b1, .int .i64 b2, .slice a1 a7 a4, .slice a2 a8 a5], false⟩])
abbrev yAh (c3 : OA) (c5 c4 bm0 : Nat) (b3 b4 b5 b6 b7 b8 b9 c0 c1 c2 : Int) (a0 : OA) (a6 a3 : Nat) (a9 b0 b1 b2 : Int) (a1 : OA) (a7 a4 : Nat) (a2 : OA) (a8 a5 : Nat) (I : Nat → Int → World → Prop) (m : Nat) : Kh := KG (yg6 c3 c5 c4 bm0 b3 b4 b5 b6 b7 b8 b9 c0 c1 c2 a0 a6 a3 a9 b0 b1 b2 a1 a7 a4 a2 a8 a5) (U1 I) m
theorem yuY {I : Nat → Int → World → Prop} (m' : Nat) (h1 : m' < m) (h2 : I m' j4 w) : KS (yAh q0 n0 n1 n2 i0 i1 i2 i3 i4 i5 i6 i7 i8 i9 q1 n3 n4 j0 j1 j2 j3 q2 n5 n6 q3 n7 n8 I m) (yg6 q0 n0 n1 n2 i0 i1 i2 i3 i4 i5 i6 i7 i8 i9 q1 n3 n4 j0 j1 j2 j3 q2 n5 n6 q3 n7 n8 j4) w := ⟨m', h1, _, rfl, rfl, h2⟩
theorem yuZ {c5 : OA} {a0 : OA} {a1 : OA} {a2 : OA} (I : Nat → Int → World → Prop) (m0 : Nat) (h0 : I m0 j4 w0)
 (hr : ∀ m c4 w, I m c4 w →
 brB (decide (c4 < (n0 : Int))) (
 ixA c5 n0 c4 1 fun q9 =>
 yaF .i64 w q9 fun d6 =>
 Calls pP 36 #[.int .i64 d6] w fun e c8 => ∃ d1, e = .returned (.bool d1) ∧ yaI [n2] w c8 ∧
 brB (!d1) (
 R (.int .i64 1) c8)
 (
 KS (yAh c5 n0 n1 n2 i0 i1 i2 i3 i4 i5 i6 i7 i8 i9 a0 n3 n4 j0 j1 j2 j3 a1 n5 n6 a2 n7 n8 I m) (yg6 c5 n0 n1 n2 i0 i1 i2 i3 i4 i5 i6 i7 i8 i9 a0 n3 n4 j0 j1 j2 j3 a1 n5 n6 a2 n7 n8 (IntKind.wrap .i64 (c4 + 1))) c8))
 (
 Calls pP 32 #[.slice a0 n3 n4] w fun e c7 => ∃ d4 c9, e = .returned (.tuple #[.string d4, .int .i64 c9]) ∧ yaI [n2] w c7 ∧
 brB (c9 != 0) (
 R (.int .i64 c9) c7)
 (
 Calls pP 33 #[(.agg (Z3 j0 j1 j2 j3 a1 n5 n6 a2 n7 n8))] c7 fun e d2 => ∃ d5 d3, e = .returned (.tuple #[.string d5, .int .i64 d3]) ∧ yaI [n2] c7 d2 ∧
 R (.int .i64 d3) d2))) :
 yaJ ynI (yCX 395 [0, 0, 1, 0, 1, 1, 1]) (yCY [1, 1, 1, 0, 1, 0] [] R) (yg6 c5 n0 n1 n2 i0 i1 i2 i3 i4 i5 i6 i7 i8 i9 a0 n3 n4 j0 j1 j2 j3 a1 n5 n6 a2 n7 n8 j4) w0 :=
 lrule (yg6 c5 n0 n1 n2 i0 i1 i2 i3 i4 i5 i6 i7 i8 i9 a0 n3 n4 j0 j1 j2 j3 a1 n5 n6 a2 n7 n8) (U1 I) h0 (by rintro m c4 w h; exact ⟨by kernel_rfl, by kernel_rfl, fun js => Eq.mpr (by kernel_rfl) (hr m c4 w h)⟩)
theorem yEl {a3 a2 : Nat} {a7 a5 : Nat} {b0 a9 : Nat} (h :
 ∀ b1, w.heap.size ≤ b1 →
 brB (decide (i0 < 0)) (
 ∀ w2, Adv [] [b1] w w2 →
 R (.int .i64 180) w2)
 (
 brB (decide (i0 > 11)) (
 ∀ w3, Adv [] [b1] w w3 →
 R (.int .i64 180) w3)
 (
 ∀ w4, Adv [] [b1] w w4 →
 Calls pP 30 #[(.agg (Z0 i0 i1 i2 i3 i4 i5 i6 i7 i8 i9 q0 a3 a2 j0 j1 j2 j3 q1 a7 a5 q2 b0 a9))] w4 fun e w5 => ∃ a6 n7 c8, e = .returned (.slice a6 n7 c8) ∧ yaI [b1] w4 w5 ∧
 yaJ ynI (yCX 395 [0, 0, 1, 0, 1, 1, 1]) (yCY [1, 1, 1, 0, 1, 0] [] R) (yg6 a6 n7 c8 b1 i0 i1 i2 i3 i4 i5 i6 i7 i8 i9 q0 a3 a2 j0 j1 j2 j3 q1 a7 a5 q2 b0 a9 0) w5))) :
 CR pP 13 #[(.agg (Z0 i0 i1 i2 i3 i4 i5 i6 i7 i8 i9 q0 a3 a2 j0 j1 j2 j3 q1 a7 a5 q2 b0 a9))] w R :=
 yaA Tryz.wide_mixed (an := ynJ) Tryz.func13 rfl rfl (by kernel_rfl) rfl (Eq.mpr (by kernel_rfl) h)
def ynK : LA := ⟨[0, 0, 1, 0, 1, 1, 1, 1], [1, 5, 6, 7], [(1, 0, 0)], 1, []⟩
def ynL : List LA := [ynK]
abbrev yCZ := dnF pP ynL (code Tryz.f11)
abbrev yIV := yaO pP ynL (code Tryz.f11)
abbrev yC0 (p : List Nat) (K : List Kh) (R : VWP) := yaO pP ynL (code Tryz.f11) p K (ya4 pP Tryz.f11 [] R)
def yg7 (c3 : OA) (c5 c4 bm0 : Nat) (b3 b4 b5 b6 b7 b8 b9 c0 c1 c2 : Int) (a0 : OA) (a6 a3 : Nat) (a9 b0 b1 b2 : Int) (a1 : OA) (a7 a4 : Nat) (a2 : OA) (a8 a5 : Nat) : ByteArray × Int → List Value × List TB := fun (c6, c7) => ([(.pointer (some ⟨bm0, 0, none⟩)), .string c6, .slice c3 c5 c4, .int .i64 c7], [⟨bm0, 29, [.int .i64 b3, .int .i64 b4, .int .i64 b5, .int .i64 b6, .int .i64 b7, .int .i64 b8, .int .i64 b9, .int .i64 c0, .int .i64 c1, .int .i64 c2, .slice a0 a6 a3, .int .i64 a9, .int .i64 b0, .int .i64 b1, .int .i64 b2, .slice a1 a7 a4, .slice a2 a8 a5], false⟩])
abbrev yAi (c3 : OA) (c5 c4 bm0 : Nat) (b3 b4 b5 b6 b7 b8 b9 c0 c1 c2 : Int) (a0 : OA) (a6 a3 : Nat) (a9 b0 b1 b2 : Int) (a1 : OA) (a7 a4 : Nat) (a2 : OA) (a8 a5 : Nat) (I : Nat → ByteArray → Int → World → Prop) (m : Nat) : Kh := KG (yg7 c3 c5 c4 bm0 b3 b4 b5 b6 b7 b8 b9 c0 c1 c2 a0 a6 a3 a9 b0 b1 b2 a1 a7 a4 a2 a8 a5) (U2 I) m
theorem yu0 {I : Nat → ByteArray → Int → World → Prop} (m' : Nat) (h1 : m' < m) (h2 : I m' s0 j4 w) : KS (yAi q0 n0 n1 n2 i0 i1 i2 i3 i4 i5 i6 i7 i8 i9 q1 n3 n4 j0 j1 j2 j3 q2 n5 n6 q3 n7 n8 I m) (yg7 q0 n0 n1 n2 i0 i1 i2 i3 i4 i5 i6 i7 i8 i9 q1 n3 n4 j0 j1 j2 j3 q2 n5 n6 q3 n7 n8 (s0, j4)) w := ⟨m', h1, _, rfl, rfl, h2⟩
theorem yu1 {c5 : OA} {a0 : OA} {a1 : OA} {a2 : OA} (I : Nat → ByteArray → Int → World → Prop) (m0 : Nat) (h0 : I m0 s0 j4 w0)
 (hr : ∀ m c6 c4 w, I m c6 c4 w →
 brB (decide (c4 < (n0 : Int))) (
 ixA c5 n0 c4 1 fun q9 =>
 yaF .i64 w q9 fun e5 =>
 Calls pP 31 #[(.int .u64 (IntKind.wrap .u64 e5))] w fun e e1 => ∃ d4, e = .returned (.string d4) ∧ yaI [n2] w e1 ∧
 yfC c6 d4 fun e3 =>
 KS (yAi c5 n0 n1 n2 i0 i1 i2 i3 i4 i5 i6 i7 i8 i9 a0 n3 n4 j0 j1 j2 j3 a1 n5 n6 a2 n7 n8 I m) (yg7 c5 n0 n1 n2 i0 i1 i2 i3 i4 i5 i6 i7 i8 i9 a0 n3 n4 j0 j1 j2 j3 a1 n5 n6 a2 n7 n8 (e3, (IntKind.wrap .i64 (c4 + 1)))) e1)
 (
 Calls pP 32 #[.slice a0 n3 n4] w fun e d0 => ∃ d5 e6, e = .returned (.tuple #[.string d5, .int .i64 e6]) ∧ yaI [n2] w d0 ∧
 Calls pP 33 #[(.agg (Z3 j0 j1 j2 j3 a1 n5 n6 a2 n7 n8))] d0 fun e d1 => ∃ d6 e7, e = .returned (.tuple #[.string d6, .int .i64 e7]) ∧ yaI [n2] d0 d1 ∧
 Calls pP 34 #[.string d5] d1 fun e d2 => ∃ d7, e = .returned (.string d7) ∧ yaI [n2] d1 d2 ∧
 Calls pP 34 #[.string d6] d2 fun e c8 => ∃ d8, e = .returned (.string d8) ∧ yaI [n2] d2 c8 ∧
 yfC d7 d8 fun e4 =>
 yfC c6 e4 fun d9 =>
 brB (decide ((d9.size : Int) > 1048576)) (
 R (.tuple #[(.string (⟨#[]⟩ : BA)), .int .i64 2]) c8)
 (
 Calls pP 35 #[.string d9] c8 fun e e2 => ∃ e0, e = .returned (.string e0) ∧ yaI [n2] c8 e2 ∧
 R (.tuple #[.string e0, .int .i64 0]) e2))) :
 yaJ ynK (yCZ 394 [0, 0, 1, 0, 1, 1, 1, 1]) (yC0 [1, 1, 1, 1, 0, 1, 0] [] R) (yg7 c5 n0 n1 n2 i0 i1 i2 i3 i4 i5 i6 i7 i8 i9 a0 n3 n4 j0 j1 j2 j3 a1 n5 n6 a2 n7 n8 (s0, j4)) w0 :=
 lrule (yg7 c5 n0 n1 n2 i0 i1 i2 i3 i4 i5 i6 i7 i8 i9 a0 n3 n4 j0 j1 j2 j3 a1 n5 n6 a2 n7 n8) (U2 I) h0 (by rintro m ⟨c6, c4⟩ w h; exact ⟨by kernel_rfl, by kernel_rfl, fun js => Eq.mpr (by kernel_rfl) (hr m c6 c4 w h)⟩)
theorem yEm {a2 a1 : Nat} {a5 a4 : Nat} {a9 a8 : Nat} (h :
 ∀ b1, w.heap.size ≤ b1 →
 ∀ w2, Adv [] [b1] w w2 →
 Calls pP 13 #[(.agg (Z0 i0 i1 i2 i3 i4 i5 i6 i7 i8 i9 q0 a2 a1 j0 j1 j2 j3 q1 a5 a4 q2 a9 a8))] w2 fun e w3 => ∃ x4, e = .returned (.int .i64 x4) ∧ yaI [b1] w2 w3 ∧
 brB (x4 != 0) (
 R (.tuple #[(.string (⟨#[]⟩ : BA)), .int .i64 x4]) w3)
 (
 Calls pP 30 #[(.agg (Z0 i0 i1 i2 i3 i4 i5 i6 i7 i8 i9 q0 a2 a1 j0 j1 j2 j3 q1 a5 a4 q2 a9 a8))] w3 fun e w5 => ∃ a6 n7 c8, e = .returned (.slice a6 n7 c8) ∧ yaI [b1] w3 w5 ∧
 yaJ ynK (yCZ 394 [0, 0, 1, 0, 1, 1, 1, 1]) (yC0 [1, 1, 1, 1, 0, 1, 0] [] R) (yg7 a6 n7 c8 b1 i0 i1 i2 i3 i4 i5 i6 i7 i8 i9 q0 a2 a1 j0 j1 j2 j3 q1 a5 a4 q2 a9 a8 ((⟨#[]⟩ : BA), 0)) w5)) :
 CR pP 11 #[(.agg (Z0 i0 i1 i2 i3 i4 i5 i6 i7 i8 i9 q0 a2 a1 j0 j1 j2 j3 q1 a5 a4 q2 a9 a8))] w R :=
 yaA Tryz.wide_mixed (an := ynL) Tryz.func11 rfl rfl (by kernel_rfl) rfl (Eq.mpr (by kernel_rfl) h)
def ynM : LA := ⟨[0, 0, 1, 0, 1, 1, 1], [1, 5, 18, 19], [(1, 0, 0), (5, 1, 0)], 2, [0, 1]⟩
def ynN : List LA := [ynM]
abbrev yC1 := dnF pP ynN (code Tryz.f10)
abbrev yIW := yaO pP ynN (code Tryz.f10)
abbrev yC2 (p : List Nat) (K : List Kh) (R : VWP) := yaO pP ynN (code Tryz.f10) p K (ya4 pP Tryz.f10 [] R)
def yg8 (b6 b7 b8 b9 c0 c1 c2 c3 c4 c5 : OA) (bm0 bm1 : Nat) : Int × Int × Int × Int × Int × Int × Int × Int × Int × Int × Int × (Option Addr) × Nat × Nat × Int × Int × Int × Int × (Option Addr) × Nat × Nat × (Option Addr) × Nat × Nat × (Option Addr) × (Option Addr) × Nat × Nat → List Value × List TB := fun (d7, c7, c8, c9, d0, d1, d2, d3, d4, d5, d6, a0, a6, a3, a9, b0, b1, b2, a1, a7, a4, a2, a8, a5, c6, b3, b5, b4) => ([(.pointer (some ⟨bm0, 0, none⟩)), (.pointer (some ⟨bm1, 0, none⟩)), (.agg (Z4 b6 b7 b8 b9 c0 c1 c2 c3 c4 c5)), .int .i64 d7], [⟨bm0, 29, [.int .i64 c7, .int .i64 c8, .int .i64 c9, .int .i64 d0, .int .i64 d1, .int .i64 d2, .int .i64 d3, .int .i64 d4, .int .i64 d5, .int .i64 d6, .slice a0 a6 a3, .int .i64 a9, .int .i64 b0, .int .i64 b1, .int .i64 b2, .slice a1 a7 a4, .slice a2 a8 a5], true⟩, ⟨bm1, 61, [.pointer c6, .slice b3 b5 b4], true⟩])
abbrev yAj (a0 a1 a2 a3 a4 a5 a6 a7 a8 a9 : OA) (bm0 bm1 : Nat) (I : Nat → Int → Int → Int → Int → Int → Int → Int → Int → Int → Int → Int → Option Addr → Nat → Nat → Int → Int → Int → Int → Option Addr → Nat → Nat → Option Addr → Nat → Nat → Option Addr → Option Addr → Nat → Nat → World → Prop) (m : Nat) : Kh := KG (yg8 a0 a1 a2 a3 a4 a5 a6 a7 a8 a9 bm0 bm1) (U28 I) m
theorem yu2 {I : Nat → Int → Int → Int → Int → Int → Int → Int → Int → Int → Int → Int → Option Addr → Nat → Nat → Int → Int → Int → Int → Option Addr → Nat → Nat → Option Addr → Nat → Nat → Option Addr → Option Addr → Nat → Nat → World → Prop} (m' : Nat) (h1 : m' < m) (h2 : I m' i0 i1 i2 i3 i4 i5 i6 i7 i8 i9 j0 r0 n2 n3 j1 j2 j3 j4 r1 n4 n5 r2 n6 n7 r3 r4 n8 n9 w) : KS (yAj q0 q1 q2 q3 q4 q5 q6 q7 q8 q9 n0 n1 I m) (yg8 q0 q1 q2 q3 q4 q5 q6 q7 q8 q9 n0 n1 (i0, i1, i2, i3, i4, i5, i6, i7, i8, i9, j0, r0, n2, n3, j1, j2, j3, j4, r1, n4, n5, r2, n6, n7, r3, r4, n8, n9)) w := ⟨m', h1, _, rfl, rfl, h2⟩
theorem yu3 (I : Nat → Int → Int → Int → Int → Int → Int → Int → Int → Int → Int → Int → Option Addr → Nat → Nat → Int → Int → Int → Int → Option Addr → Nat → Nat → Option Addr → Nat → Nat → Option Addr → Option Addr → Nat → Nat → World → Prop) (m0 : Nat) (h0 : I m0 i0 i1 i2 i3 i4 i5 i6 i7 i8 i9 j0 r0 n2 n3 j1 j2 j3 j4 r1 n4 n5 r2 n6 n7 r3 r4 n8 n9 w0)
 (hr : ∀ m d7 c7 c8 c9 d0 d1 d2 d3 d4 d5 d6 a0 a2 a1 b9 c0 c1 c2 b3 b7 b5 b4 b8 b6 c6 c3 c5 c4 w, I m d7 c7 c8 c9 d0 d1 d2 d3 d4 d5 d6 a0 a2 a1 b9 c0 c1 c2 b3 b7 b5 b4 b8 b6 c6 c3 c5 c4 w →
 w.heap[n0]? = some (.cells (Z0 c7 c8 c9 d0 d1 d2 d3 d4 d5 d6 a0 a2 a1 b9 c0 c1 c2 b3 b7 b5 b4 b8 b6) 29) →
 w.heap[n1]? = some (.cells #[.pointer c6, .slice c3 c5 c4] 61) →
 brB (decide (d7 < 10)) (
 ∃ w6, (∀ w' : World, (Instr.index 63 (.agg (Z4 q0 q1 q2 q3 q4 q5 q6 q7 q8 q9)) (.int .i64 d7)).run pP w' = .ok (.pointer w6) w') ∧
 ylV w6 fun ge =>
 yaF .i64 w ge fun gg =>
 Calls pP 24 #[(.int .u64 (IntKind.wrap .u64 gg))] w fun e v0 => ∃ w8, e = .returned (.string w8) ∧ ∃ gh gi gj gk gl gm gn go gp gq fr fz fv gr gs gt gu fs ga fw ft gb fx, v0.heap[n0]? = some (.cells (Z0 gh gi gj gk gl gm gn go gp gq fr fz fv gr gs gt gu fs ga fw ft gb fx) 29) ∧ ∃ gd fu gc fy, v0.heap[n1]? = some (.cells #[.pointer gd, .slice fu gc fy] 61) ∧
 Calls pP 23 #[(.pointer (some ⟨n1, 0, none⟩)), .string w8] v0 fun e v1 => ∃ gv gf, e = .returned (.tuple #[.int .i64 gv, gf]) ∧ ∃ w9 x0 x1 x2 x3 x4 x5 x6 x7 x8 v6 w3 v9 x9 y0 y1 y2 v7 w4 w1 v8 w5 w2, v1.heap[n0]? = some (.cells (Z0 w9 x0 x1 x2 x3 x4 x5 x6 x7 x8 v6 w3 v9 x9 y0 y1 y2 v7 w4 w1 v8 w5 w2) 29) ∧ ∃ w7 h3 h9 h6, v1.heap[n1]? = some (.cells #[.pointer w7, .slice h3 h9 h6] 61) ∧
 KS (yAj q0 q1 q2 q3 q4 q5 q6 q7 q8 q9 n0 n1 I m) (yg8 q0 q1 q2 q3 q4 q5 q6 q7 q8 q9 n0 n1 ((IntKind.wrap .i64 (d7 + 1)), w9, x0, x1, x2, x3, x4, x5, x6, x7, x8, v6, w3, v9, x9, y0, y1, y2, v7, w4, w1, v8, w5, w2, w7, h3, h9, h6)) v1)
 (
 Calls pP 25 #[.slice a0 a2 a1] w fun e g6 => ∃ u2 ck, e = .returned (.tuple #[.string u2, .int .i64 ck]) ∧ ∃ cl cm cn co cp cq cr cs ct cu y3 be af v2 v3 v4 v5 h4 u0 h7 h5 u1 h8, g6.heap[n0]? = some (.cells (Z0 cl cm cn co cp cq cr cs ct cu y3 be af v2 v3 v4 v5 h4 u0 h7 h5 u1 h8) 29) ∧ ∃ cc y4 bf ag, g6.heap[n1]? = some (.cells #[.pointer cc, .slice y4 bf ag] 61) ∧
 Calls pP 26 #[(.agg (Z3 v2 v3 v4 v5 h4 u0 h7 h5 u1 h8))] g6 fun e g7 => ∃ u3 cv, e = .returned (.tuple #[.string u3, .int .i64 cv]) ∧ ∃ cw cx cy cz da db dc dd de df y5 bg ah dg dh di dj y6 bh ai y7 bi aj, g7.heap[n0]? = some (.cells (Z0 cw cx cy cz da db dc dd de df y5 bg ah dg dh di dj y6 bh ai y7 bi aj) 29) ∧ ∃ cd y8 bj ak, g7.heap[n1]? = some (.cells #[.pointer cd, .slice y8 bj ak] 61) ∧
 Calls pP 27 #[(.pointer (some ⟨n1, 0, none⟩))] g7 fun e g8 => ∃ u4, e = .returned (.string u4) ∧ ∃ dk dl dm dn dp dq dr ds dt du y9 bk am dv dw dx dy z0 bl an z1 bm ao, g8.heap[n0]? = some (.cells (Z0 dk dl dm dn dp dq dr ds dt du y9 bk am dv dw dx dy z0 bl an z1 bm ao) 29) ∧ ∃ ce z2 bn ap, g8.heap[n1]? = some (.cells #[.pointer ce, .slice z2 bn ap] 61) ∧
 Calls pP 28 #[.string u2] g8 fun e g9 => ∃ u5, e = .returned (.string u5) ∧ ∃ dz ea eb ec ed ee ef eg eh ei z3 bo aq ej ek el em z4 bp ar z5 bq au, g9.heap[n0]? = some (.cells (Z0 dz ea eb ec ed ee ef eg eh ei z3 bo aq ej ek el em z4 bp ar z5 bq au) 29) ∧ ∃ cf z6 br av, g9.heap[n1]? = some (.cells #[.pointer cf, .slice z6 br av] 61) ∧
 yfC u4 u5 fun cj =>
 Calls pP 28 #[.string u3] g9 fun e g5 => ∃ u6, e = .returned (.string u6) ∧ ∃ en eo ep eq er et eu ew ex ey z7 bt aw ez fa fb fc z8 bu ax z9 bv ay, g5.heap[n0]? = some (.cells (Z0 en eo ep eq er et eu ew ex ey z7 bt aw ez fa fb fc z8 bu ax z9 bv ay) 29) ∧ ∃ ch aa bw az, g5.heap[n1]? = some (.cells #[.pointer ch, .slice aa bw az] 61) ∧
 yfC cj u6 fun u7 =>
 brB (decide ((u7.size : Int) > 1048576)) (
 R (.tuple #[(.string (⟨#[]⟩ : BA)), .int .i64 2]) g5)
 (
 Calls pP 29 #[.string u7] g5 fun e h1 => ∃ u9, e = .returned (.string u9) ∧ ∃ fd fe ff fg fh fi fj fk fl fm ab bx ba fn fo fp fq ac bz bb ad ca bc, h1.heap[n0]? = some (.cells (Z0 fd fe ff fg fh fi fj fk fl fm ab bx ba fn fo fp fq ac bz bb ad ca bc) 29) ∧ ∃ ci ae cb bd, h1.heap[n1]? = some (.cells #[.pointer ci, .slice ae cb bd] 61) ∧
 R (.tuple #[.string u9, .int .i64 0]) h1))) :
 yaJ ynM (yC1 395 [0, 0, 1, 0, 1, 1, 1]) (yC2 [1, 1, 1, 0, 1, 0] [] R) (yg8 q0 q1 q2 q3 q4 q5 q6 q7 q8 q9 n0 n1 (i0, i1, i2, i3, i4, i5, i6, i7, i8, i9, j0, r0, n2, n3, j1, j2, j3, j4, r1, n4, n5, r2, n6, n7, r3, r4, n8, n9)) w0 :=
 lrule (yg8 q0 q1 q2 q3 q4 q5 q6 q7 q8 q9 n0 n1) (U28 I) h0 (by rintro m ⟨d7, c7, c8, c9, d0, d1, d2, d3, d4, d5, d6, a0, a2, a1, b9, c0, c1, c2, b3, b7, b5, b4, b8, b6, c6, c3, c5, c4⟩ w h; exact ⟨by kernel_rfl, by kernel_rfl, fun js => Eq.mpr (by kernel_rfl) (hr m d7 c7 c8 c9 d0 d1 d2 d3 d4 d5 d6 a0 a2 a1 b9 c0 c1 c2 b3 b7 b5 b4 b8 b6 c6 c3 c5 c4 w h)⟩)
theorem yEn {a2 a1 : Nat} {a5 a4 : Nat} {a8 a7 : Nat} (h :
 ∀ b1, w.heap.size ≤ b1 →
 ∀ w2, Adv [] [b1] w w2 →
 Calls pP 12 #[(.agg (Z0 i0 i1 i2 i3 i4 i5 i6 i7 i8 i9 q0 a2 a1 j0 j1 j2 j3 q1 a5 a4 q2 a8 a7))] w2 fun e w3 => ∃ x4, e = .returned (.int .i64 x4) ∧ yaI [b1] w2 w3 ∧
 brB (x4 != 0) (
 R (.tuple #[(.string (⟨#[]⟩ : BA)), .int .i64 x4]) w3)
 (
 ∀ b5, w3.heap.size ≤ b5 →
 ∀ w6, Adv [] [b5] w3 w6 → w6.heap[b1]? = some (.cells (Z0 i0 i1 i2 i3 i4 i5 i6 i7 i8 i9 q0 a2 a1 j0 j1 j2 j3 q1 a5 a4 q2 a8 a7) 29) →
 Calls pP 22 #[(.pointer (some ⟨b1, 0, none⟩))] w6 fun e w7 => ∃ p8 p9 e9 f0 f1 f2 f3 f4 f5 f6, e = .returned (.agg (Z4 p8 p9 e9 f0 f1 f2 f3 f4 f5 f6)) ∧ yaZ [b1] [(b5, 61)] [b5] w6 w7 ∧ ∃ d5 d6 d7 d8 d9 e0 e1 e2 e3 e4 c6 d2 c9 e5 e6 e7 e8 c7 d3 d0 c8 d4 d1, w7.heap[b1]? = some (.cells (Z0 d5 d6 d7 d8 d9 e0 e1 e2 e3 e4 c6 d2 c9 e5 e6 e7 e8 c7 d3 d0 c8 d4 d1) 29) ∧
 ∀ c5, Adv [] [] w7 c5 → c5.heap[b1]? = some (.cells (Z0 d5 d6 d7 d8 d9 e0 e1 e2 e3 e4 c6 d2 c9 e5 e6 e7 e8 c7 d3 d0 c8 d4 d1) 29) →
 c5.heap[b5]? = some (.cells #[.pointer none, .slice none 0 0] 61) →
 yaJ ynM (yC1 395 [0, 0, 1, 0, 1, 1, 1]) (yC2 [1, 1, 1, 0, 1, 0] [] R) (yg8 p8 p9 e9 f0 f1 f2 f3 f4 f5 f6 b1 b5 (0, d5, d6, d7, d8, d9, e0, e1, e2, e3, e4, c6, d2, c9, e5, e6, e7, e8, c7, d3, d0, c8, d4, d1, none, none, 0, 0)) c5)) :
 CR pP 10 #[(.agg (Z0 i0 i1 i2 i3 i4 i5 i6 i7 i8 i9 q0 a2 a1 j0 j1 j2 j3 q1 a5 a4 q2 a8 a7))] w R :=
 yaA Tryz.wide_mixed (an := ynN) Tryz.func10 rfl rfl (by kernel_rfl) rfl (Eq.mpr (by kernel_rfl) h)
def ynO : LA := ⟨[0, 0, 1, 0, 1, 1], [2, 3, 5, 6, 10], [(2, 0, 0), (3, 1, 0), (5, 2, 0), (6, 3, 0)], 4, [0, 1, 2, 3]⟩
def ynP : List LA := [ynO]
abbrev yC3 := dnF pP ynP (code Tryz.f14)
abbrev yIX := yaO pP ynP (code Tryz.f14)
abbrev yC4 (p : List Nat) (K : List Kh) (R : VWP) := yaO pP ynP (code Tryz.f14) p K (ya4 pP Tryz.f14 [] R)
def yg9 (bm0 : Nat) (e6 e7 e8 e9 f0 f1 f2 f3 f4 f5 : Int) (a0 : OA) (b2 a6 : Nat) (b8 b9 c0 c1 : Int) (a1 : OA) (b3 a7 : Nat) (a2 : OA) (b4 a8 bm1 : Nat) (f6 f7 f8 f9 g0 g1 g2 g3 g4 g5 : Int) (a3 : OA) (b5 a9 : Nat) (c2 c3 c4 c5 : Int) (a4 : OA) (b6 b0 : Nat) (a5 : OA) (b7 b1 bm2 : Nat) (c6 c7 c8 c9 d0 d1 d2 d3 d4 d5 : OA) (bm3 : Nat) (d6 d7 d8 d9 e0 e1 e2 e3 e4 e5 : OA) : Int → List Value × List TB := fun g6 => ([(.pointer (some ⟨bm0, 0, none⟩)), (.pointer (some ⟨bm1, 0, none⟩)), (.pointer (some ⟨bm2, 0, none⟩)), (.pointer (some ⟨bm3, 0, none⟩)), .int .i64 g6], [⟨bm0, 29, [.int .i64 e6, .int .i64 e7, .int .i64 e8, .int .i64 e9, .int .i64 f0, .int .i64 f1, .int .i64 f2, .int .i64 f3, .int .i64 f4, .int .i64 f5, .slice a0 b2 a6, .int .i64 b8, .int .i64 b9, .int .i64 c0, .int .i64 c1, .slice a1 b3 a7, .slice a2 b4 a8], true⟩, ⟨bm1, 29, [.int .i64 f6, .int .i64 f7, .int .i64 f8, .int .i64 f9, .int .i64 g0, .int .i64 g1, .int .i64 g2, .int .i64 g3, .int .i64 g4, .int .i64 g5, .slice a3 b5 a9, .int .i64 c2, .int .i64 c3, .int .i64 c4, .int .i64 c5, .slice a4 b6 b0, .slice a5 b7 b1], true⟩, ⟨bm2, 63, [.pointer c6, .pointer c7, .pointer c8, .pointer c9, .pointer d0, .pointer d1, .pointer d2, .pointer d3, .pointer d4, .pointer d5], true⟩, ⟨bm3, 63, [.pointer d6, .pointer d7, .pointer d8, .pointer d9, .pointer e0, .pointer e1, .pointer e2, .pointer e3, .pointer e4, .pointer e5], true⟩])
abbrev yAk (bm0 : Nat) (e6 e7 e8 e9 f0 f1 f2 f3 f4 f5 : Int) (a0 : OA) (b2 a6 : Nat) (b8 b9 c0 c1 : Int) (a1 : OA) (b3 a7 : Nat) (a2 : OA) (b4 a8 bm1 : Nat) (f6 f7 f8 f9 g0 g1 g2 g3 g4 g5 : Int) (a3 : OA) (b5 a9 : Nat) (c2 c3 c4 c5 : Int) (a4 : OA) (b6 b0 : Nat) (a5 : OA) (b7 b1 bm2 : Nat) (c6 c7 c8 c9 d0 d1 d2 d3 d4 d5 : OA) (bm3 : Nat) (d6 d7 d8 d9 e0 e1 e2 e3 e4 e5 : OA) (I : Nat → Int → World → Prop) (m : Nat) : Kh := KG (yg9 bm0 e6 e7 e8 e9 f0 f1 f2 f3 f4 f5 a0 b2 a6 b8 b9 c0 c1 a1 b3 a7 a2 b4 a8 bm1 f6 f7 f8 f9 g0 g1 g2 g3 g4 g5 a3 b5 a9 c2 c3 c4 c5 a4 b6 b0 a5 b7 b1 bm2 c6 c7 c8 c9 d0 d1 d2 d3 d4 d5 bm3 d6 d7 d8 d9 e0 e1 e2 e3 e4 e5) (U1 I) m
theorem yu4 {d6 d7 d8 d9 e0 e1 e2 e3 e4 e5 : OA} {I : Nat → Int → World → Prop} (m' : Nat) (h1 : m' < m) (h2 : I m' k8 w) : KS (yAk n0 i0 i1 i2 i3 i4 i5 i6 i7 i8 i9 q0 n1 n2 j0 j1 j2 j3 q1 n3 n4 q2 n5 n6 n7 j4 j5 j6 j7 j8 j9 k0 k1 k2 k3 q3 n8 n9 k4 k5 k6 k7 q4 o0 o1 q5 o2 o3 o4 q6 q7 q8 q9 r0 r1 r2 r3 r4 r5 o5 d6 d7 d8 d9 e0 e1 e2 e3 e4 e5 I m) (yg9 n0 i0 i1 i2 i3 i4 i5 i6 i7 i8 i9 q0 n1 n2 j0 j1 j2 j3 q1 n3 n4 q2 n5 n6 n7 j4 j5 j6 j7 j8 j9 k0 k1 k2 k3 q3 n8 n9 k4 k5 k6 k7 q4 o0 o1 q5 o2 o3 o4 q6 q7 q8 q9 r0 r1 r2 r3 r4 r5 o5 d6 d7 d8 d9 e0 e1 e2 e3 e4 e5 k8) w := ⟨m', h1, _, rfl, rfl, h2⟩
theorem yu5 {d6 d7 d8 d9 e0 e1 e2 e3 e4 e5 : OA} (I : Nat → Int → World → Prop) (m0 : Nat) (h0 : I m0 k8 w0)
 (hr : ∀ m e6 w, I m e6 w →
 w.heap[n0]? = some (.cells (Z0 i0 i1 i2 i3 i4 i5 i6 i7 i8 i9 q0 n1 n2 j0 j1 j2 j3 q1 n3 n4 q2 n5 n6) 29) →
 w.heap[n7]? = some (.cells (Z0 j4 j5 j6 j7 j8 j9 k0 k1 k2 k3 q3 n8 n9 k4 k5 k6 k7 q4 o0 o1 q5 o2 o3) 29) →
 w.heap[o4]? = some (.cells (Z4 q6 q7 q8 q9 r0 r1 r2 r3 r4 r5) 63) →
 w.heap[o5]? = some (.cells (Z4 d6 d7 d8 d9 e0 e1 e2 e3 e4 e5) 63) →
 brB (decide (e6 < 10)) (0 ≤ e6 ∧ e6 < ((10 : Nat) : Int) ∧
 yn6 w (Addr.add ⟨o4, 0, none⟩ (Int.toNat e6 * 1)) fun db =>
 ylV db fun dc =>
 yaF .i64 w dc fun ba => 0 ≤ e6 ∧ e6 < ((10 : Nat) : Int) ∧
 yn6 w (Addr.add ⟨o5, 0, none⟩ (Int.toNat e6 * 1)) fun y1 =>
 ylV y1 fun az =>
 yaF .i64 w az fun bb =>
 brB (ba != bb) (
 ∀ g7, Adv [] [] w g7 → g7.heap[n0]? = some (.cells (Z0 i0 i1 i2 i3 i4 i5 i6 i7 i8 i9 q0 n1 n2 j0 j1 j2 j3 q1 n3 n4 q2 n5 n6) 29) →
 g7.heap[n7]? = some (.cells (Z0 j4 j5 j6 j7 j8 j9 k0 k1 k2 k3 q3 n8 n9 k4 k5 k6 k7 q4 o0 o1 q5 o2 o3) 29) →
 g7.heap[o4]? = some (.cells (Z4 q6 q7 q8 q9 r0 r1 r2 r3 r4 r5) 63) →
 g7.heap[o5]? = some (.cells (Z4 d6 d7 d8 d9 e0 e1 e2 e3 e4 e5) 63) →
 R (.bool false) g7)
 (
 ∀ g8, Adv [] [] w g8 → g8.heap[n0]? = some (.cells (Z0 i0 i1 i2 i3 i4 i5 i6 i7 i8 i9 q0 n1 n2 j0 j1 j2 j3 q1 n3 n4 q2 n5 n6) 29) →
 g8.heap[n7]? = some (.cells (Z0 j4 j5 j6 j7 j8 j9 k0 k1 k2 k3 q3 n8 n9 k4 k5 k6 k7 q4 o0 o1 q5 o2 o3) 29) →
 g8.heap[o4]? = some (.cells (Z4 q6 q7 q8 q9 r0 r1 r2 r3 r4 r5) 63) →
 g8.heap[o5]? = some (.cells (Z4 d6 d7 d8 d9 e0 e1 e2 e3 e4 e5) 63) →
 KS (yAk n0 i0 i1 i2 i3 i4 i5 i6 i7 i8 i9 q0 n1 n2 j0 j1 j2 j3 q1 n3 n4 q2 n5 n6 n7 j4 j5 j6 j7 j8 j9 k0 k1 k2 k3 q3 n8 n9 k4 k5 k6 k7 q4 o0 o1 q5 o2 o3 o4 q6 q7 q8 q9 r0 r1 r2 r3 r4 r5 o5 d6 d7 d8 d9 e0 e1 e2 e3 e4 e5 I m) (yg9 n0 i0 i1 i2 i3 i4 i5 i6 i7 i8 i9 q0 n1 n2 j0 j1 j2 j3 q1 n3 n4 q2 n5 n6 n7 j4 j5 j6 j7 j8 j9 k0 k1 k2 k3 q3 n8 n9 k4 k5 k6 k7 q4 o0 o1 q5 o2 o3 o4 q6 q7 q8 q9 r0 r1 r2 r3 r4 r5 o5 d6 d7 d8 d9 e0 e1 e2 e3 e4 e5 (IntKind.wrap .i64 (e6 + 1))) g8))
 (
 Calls pP 37 #[.slice q0 n1 n2, .slice q3 n8 n9] w fun e g9 => ∃ u5, e = .returned (.bool u5) ∧ ∃ bc bd be bf bg bh bi bj bk bl v6 x3 w5 u7 u9 v0 v1 h3 u1 h7 h4 u2 h8, g9.heap[n0]? = some (.cells (Z0 bc bd be bf bg bh bi bj bk bl v6 x3 w5 u7 u9 v0 v1 h3 u1 h7 h4 u2 h8) 29) ∧ ∃ bm bn bo bp bq br bt bu bv bw v7 x4 w6 v2 v3 v4 v5 h5 u3 h9 h6 u4 u0, g9.heap[n7]? = some (.cells (Z0 bm bn bo bp bq br bt bu bv bw v7 x4 w6 v2 v3 v4 v5 h5 u3 h9 h6 u4 u0) 29) ∧ ∃ y2 y3 y4 y5 y6 y7 y8 y9 z0 z1, g9.heap[o4]? = some (.cells (Z4 y2 y3 y4 y5 y6 y7 y8 y9 z0 z1) 63) ∧ ∃ z2 z3 z4 z5 z6 z7 z8 z9 aa ab, g9.heap[o5]? = some (.cells (Z4 z2 z3 z4 z5 z6 z7 z8 z9 aa ab) 63) ∧
 brB u5 (
 Calls pP 38 #[(.agg (Z3 u7 u9 v0 v1 h3 u1 h7 h4 u2 h8)), (.agg (Z3 v2 v3 v4 v5 h5 u3 h9 h6 u4 u0))] g9 fun e h1 => ∃ u6, e = .returned (.bool u6) ∧ ∃ bx bz ca cb cc cd ce cf ch ci v8 x5 w7 cj ck cl cm v9 x6 w8 w1 x7 w9, h1.heap[n0]? = some (.cells (Z0 bx bz ca cb cc cd ce cf ch ci v8 x5 w7 cj ck cl cm v9 x6 w8 w1 x7 w9) 29) ∧ ∃ cn co cp cq cr cs ct cu cv cw w2 x8 x0 cx cy cz da w3 x9 x1 w4 y0 x2, h1.heap[n7]? = some (.cells (Z0 cn co cp cq cr cs ct cu cv cw w2 x8 x0 cx cy cz da w3 x9 x1 w4 y0 x2) 29) ∧ ∃ ac ad ae af ag ah ai aj ak am, h1.heap[o4]? = some (.cells (Z4 ac ad ae af ag ah ai aj ak am) 63) ∧ ∃ an ao ap aq ar au av aw ax ay, h1.heap[o5]? = some (.cells (Z4 an ao ap aq ar au av aw ax ay) 63) ∧
 R (.bool u6) h1)
 (
 R (.bool false) g9))) :
 yaJ ynO (yC3 396 [0, 0, 1, 0, 1, 1]) (yC4 [1, 1, 0, 1, 0] [] R) (yg9 n0 i0 i1 i2 i3 i4 i5 i6 i7 i8 i9 q0 n1 n2 j0 j1 j2 j3 q1 n3 n4 q2 n5 n6 n7 j4 j5 j6 j7 j8 j9 k0 k1 k2 k3 q3 n8 n9 k4 k5 k6 k7 q4 o0 o1 q5 o2 o3 o4 q6 q7 q8 q9 r0 r1 r2 r3 r4 r5 o5 d6 d7 d8 d9 e0 e1 e2 e3 e4 e5 k8) w0 :=
 lrule (yg9 n0 i0 i1 i2 i3 i4 i5 i6 i7 i8 i9 q0 n1 n2 j0 j1 j2 j3 q1 n3 n4 q2 n5 n6 n7 j4 j5 j6 j7 j8 j9 k0 k1 k2 k3 q3 n8 n9 k4 k5 k6 k7 q4 o0 o1 q5 o2 o3 o4 q6 q7 q8 q9 r0 r1 r2 r3 r4 r5 o5 d6 d7 d8 d9 e0 e1 e2 e3 e4 e5) (U1 I) h0 (by rintro m e6 w h; exact ⟨by kernel_rfl, by kernel_rfl, fun js => Eq.mpr (by kernel_rfl) (hr m e6 w h)⟩)
theorem yEo {a3 a2 : Nat} {a6 a5 : Nat} {a9 a8 : Nat} {b4 b3 : Nat} {b7 b6 : Nat} {c0 b9 : Nat} (h :
 ∀ b1, w.heap.size ≤ b1 →
 ∀ b2, w.heap.size ≤ b2 →
 ∀ w3, Adv [] [b2, b1] w w3 → w3.heap[b1]? = some (.cells (Z0 i0 i1 i2 i3 i4 i5 i6 i7 i8 i9 q0 a3 a2 j0 j1 j2 j3 q1 a6 a5 q2 a9 a8) 29) →
 Calls pP 22 #[(.pointer (some ⟨b1, 0, none⟩))] w3 fun e w4 => ∃ p5 p6 p7 p8 p9 h1 h2 h3 h4 h5, e = .returned (.agg (Z4 p5 p6 p7 p8 p9 h1 h2 h3 h4 h5)) ∧ yaZ [b1] [(b2, 29)] [b2] w3 w4 ∧ ∃ y6 y7 y8 y9 z0 z1 z2 z3 z4 z5 x7 y3 y0 z6 z7 z8 z9 x8 y4 y1 x9 y5 y2, w4.heap[b1]? = some (.cells (Z0 y6 y7 y8 y9 z0 z1 z2 z3 z4 z5 x7 y3 y0 z6 z7 z8 z9 x8 y4 y1 x9 y5 y2) 29) ∧
 ∀ f2, Adv [] [] w4 f2 → f2.heap[b1]? = some (.cells (Z0 y6 y7 y8 y9 z0 z1 z2 z3 z4 z5 x7 y3 y0 z6 z7 z8 z9 x8 y4 y1 x9 y5 y2) 29) →
 f2.heap[b2]? = some (.cells (Z0 j4 j5 j6 j7 j8 j9 k0 k1 k2 k3 q3 b4 b3 k4 k5 k6 k7 q4 b7 b6 q5 c0 b9) 29) →
 Calls pP 22 #[(.pointer (some ⟨b2, 0, none⟩))] f2 fun e e9 => ∃ h6 h7 h8 h9 u0 u1 u2 u3 u4 u5, e = .returned (.agg (Z4 h6 h7 h8 h9 u0 u1 u2 u3 u4 u5)) ∧ ∃ u6 u7 u9 v0 v1 v2 v3 v4 v5 v6 f3 g5 f9 v7 v8 v9 w0 f4 g6 g0 f5 g7 g1, e9.heap[b1]? = some (.cells (Z0 u6 u7 u9 v0 v1 v2 v3 v4 v5 v6 f3 g5 f9 v7 v8 v9 w0 f4 g6 g0 f5 g7 g1) 29) ∧ ∃ w1 w2 w5 w6 w7 w8 w9 x0 x1 x2 f6 g8 g2 x3 x4 x5 x6 f7 g9 g3 f8 h0 g4, e9.heap[b2]? = some (.cells (Z0 w1 w2 w5 w6 w7 w8 w9 x0 x1 x2 f6 g8 g2 x3 x4 x5 x6 f7 g9 g3 f8 h0 g4) 29) ∧
 ∀ f0, e9.heap.size ≤ f0 →
 ∀ f1, e9.heap.size ≤ f1 →
 ∀ a0, Adv [] [f1, f0] e9 a0 → a0.heap[b1]? = some (.cells (Z0 u6 u7 u9 v0 v1 v2 v3 v4 v5 v6 f3 g5 f9 v7 v8 v9 w0 f4 g6 g0 f5 g7 g1) 29) →
 a0.heap[b2]? = some (.cells (Z0 w1 w2 w5 w6 w7 w8 w9 x0 x1 x2 f6 g8 g2 x3 x4 x5 x6 f7 g9 g3 f8 h0 g4) 29) →
 a0.heap[f0]? = some (.cells (Z4 p5 p6 p7 p8 p9 h1 h2 h3 h4 h5) 63) →
 a0.heap[f1]? = some (.cells (Z4 h6 h7 h8 h9 u0 u1 u2 u3 u4 u5) 63) →
 yaJ ynO (yC3 396 [0, 0, 1, 0, 1, 1]) (yC4 [1, 1, 0, 1, 0] [] R) (yg9 b1 u6 u7 u9 v0 v1 v2 v3 v4 v5 v6 f3 g5 f9 v7 v8 v9 w0 f4 g6 g0 f5 g7 g1 b2 w1 w2 w5 w6 w7 w8 w9 x0 x1 x2 f6 g8 g2 x3 x4 x5 x6 f7 g9 g3 f8 h0 g4 f0 p5 p6 p7 p8 p9 h1 h2 h3 h4 h5 f1 h6 h7 h8 h9 u0 u1 u2 u3 u4 u5 0) a0) :
 CR pP 14 #[(.agg (Z0 i0 i1 i2 i3 i4 i5 i6 i7 i8 i9 q0 a3 a2 j0 j1 j2 j3 q1 a6 a5 q2 a9 a8)), (.agg (Z0 j4 j5 j6 j7 j8 j9 k0 k1 k2 k3 q3 b4 b3 k4 k5 k6 k7 q4 b7 b6 q5 c0 b9))] w R :=
 yaA Tryz.wide_mixed (an := ynP) Tryz.func14 rfl rfl (by kernel_rfl) rfl (Eq.mpr (by kernel_rfl) h)
theorem yEp {a2 a1 : Nat} {a5 a4 : Nat} {a9 a8 : Nat} (h :
 ∀ b1, w.heap.size ≤ b1 →
 ∀ b2, w.heap.size ≤ b2 →
 ∀ b3, w.heap.size ≤ b3 →
 ∀ w4, Adv [] [b3, b2, b1] w w4 →
 Calls pP 20 #[.slice q0 a2 a1] w4 fun e w5 => ∃ a6 n7 c8, e = .returned (.slice a6 n7 c8) ∧ yaI [b1, b2, b3] w4 w5 ∧
 ∀ w9, Adv [b3] [] w5 w9 →
 Calls pP 21 #[(.agg (Z3 j0 j1 j2 j3 q1 a5 a4 q2 a9 a8))] w9 fun e d4 => ∃ d6 d7 d8 d9 c7 d2 d0 c9 d3 d1, e = .returned (.agg (Z3 d6 d7 d8 d9 c7 d2 d0 c9 d3 d1)) ∧ yaI [b1, b2, b3] w9 d4 ∧
 ∀ d5, Adv [b2, b3] [] d4 d5 →
 R (.agg (Z0 i0 i1 i2 i3 i4 i5 i6 i7 i8 i9 a6 n7 c8 d6 d7 d8 d9 c7 d2 d0 c9 d3 d1)) d5) :
 CR pP 9 #[(.agg (Z0 i0 i1 i2 i3 i4 i5 i6 i7 i8 i9 q0 a2 a1 j0 j1 j2 j3 q1 a5 a4 q2 a9 a8))] w R :=
 yaA Tryz.wide_mixed (an := []) Tryz.func9 rfl rfl (by kernel_rfl) rfl (Eq.mpr (by kernel_rfl) h)
theorem yEq (h :
 ∀ b1, w.heap.size ≤ b1 →
 ∀ w2, Adv [] [b1] w w2 →
 Calls pP 10 #[(.agg (Z0 4 0 1 2 0 0 5 0 0 0 none 0 0 0 0 0 0 none 0 0 none 0 0))] w2 fun e w3 => ∃ s4 x5, e = .returned (.tuple #[.string s4, .int .i64 x5]) ∧ yaI [b1] w2 w3 ∧
 Calls pP 17 #[.string s4] w3 fun e w6 => ∃ x7 x8 x9 d0 d2 d3 d4 d5 d6 d7 a8 b5 b2 d8 d9 e0 e1 a9 b6 b3 b0 b7 b4 f5, e = .returned (.tuple #[(.agg (Z0 x7 x8 x9 d0 d2 d3 d4 d5 d6 d7 a8 b5 b2 d8 d9 e0 e1 a9 b6 b3 b0 b7 b4)), .int .i64 f5]) ∧ yaI [b1] w3 w6 ∧
 ∀ a0, w6.heap.size ≤ a0 →
 yfC s4 (⟨#[120]⟩ : BA) fun u2 =>
 ∀ c4, Adv [] [a0] w6 c4 →
 Calls pP 17 #[.string u2] c4 fun e c5 => ∃ u4 u5 u6 u7 u9 v0 v1 v2 v3 v4 h3 h9 h6 v5 v6 v7 v8 h4 u0 h7 h5 u1 h8 f6, e = .returned (.tuple #[(.agg (Z0 u4 u5 u6 u7 u9 v0 v1 v2 v3 v4 h3 h9 h6 v5 v6 v7 v8 h4 u0 h7 h5 u1 h8)), .int .i64 f6]) ∧ yaI [b1, a0] c4 c5 ∧
 ∀ a2, c5.heap.size ≤ a2 →
 ∀ c6, Adv [] [a2] c5 c6 →
 Calls pP 10 #[(.agg (Z0 12 0 0 0 0 0 0 0 0 0 none 0 0 0 0 0 0 none 0 0 none 0 0))] c6 fun e c7 => ∃ u3 f7, e = .returned (.tuple #[.string u3, .int .i64 f7]) ∧ yaI [b1, a0, a2] c6 c7 ∧
 Calls pP 11 #[(.agg (Z0 4 0 1 2 0 0 5 0 0 0 none 0 0 0 0 0 0 none 0 0 none 0 0))] c7 fun e c8 => ∃ f1 f8, e = .returned (.tuple #[.string f1, .int .i64 f8]) ∧ yaI [b1, a0, a2] c7 c8 ∧
 Calls pP 19 #[(.agg (Z0 4 0 1 2 0 0 5 0 0 0 none 0 0 0 0 0 0 none 0 0 none 0 0))] c8 fun e a3 => ∃ f9 g0 g1 g2 g3 g4 g5 g6 g7 g8 e2 e8 e5 g9 h0 h1 h2 e3 e9 e6 e4 f0 e7, e = .returned (.agg (Z0 f9 g0 g1 g2 g3 g4 g5 g6 g7 g8 e2 e8 e5 g9 h0 h1 h2 e3 e9 e6 e4 f0 e7)) ∧ yaI [b1, a0, a2] c8 a3 ∧
 ∀ a1, a3.heap.size ≤ a1 →
 brB (x5 == 0) (
 brB (s4.toList == f1.toList) (
 brB (f8 == 0) (
 brB (f5 == 0) (
 ∀ c9, Adv [] [a1] a3 c9 →
 Calls pP 15 #[(.agg (Z0 4 0 1 2 0 0 5 0 0 0 none 0 0 0 0 0 0 none 0 0 none 0 0)), (.agg (Z0 x7 x8 x9 d0 d2 d3 d4 d5 d6 d7 a8 b5 b2 d8 d9 e0 e1 a9 b6 b3 b0 b7 b4))] c9 fun e a4 => ∃ f2, e = .returned (.bool f2) ∧ yaI [b1, a0, a2, a1] c9 a4 ∧
 brB f2 (
 brB (f6 == 180) (
 brB (f7 == 180) (
 Calls pP 14 #[(.agg (Z0 4 0 1 2 0 0 5 0 0 0 none 0 0 0 0 0 0 none 0 0 none 0 0)), (.agg (Z0 x7 x8 x9 d0 d2 d3 d4 d5 d6 d7 a8 b5 b2 d8 d9 e0 e1 a9 b6 b3 b0 b7 b4))] a4 fun e a5 => ∃ f3, e = .returned (.bool f3) ∧ yaI [b1, a0, a2, a1] a4 a5 ∧
 brB f3 (
 Calls pP 14 #[(.agg (Z0 4 0 1 2 0 0 5 0 0 0 none 0 0 0 0 0 0 none 0 0 none 0 0)), (.agg (Z0 0 0 0 0 0 0 0 0 0 0 none 0 0 0 0 0 0 none 0 0 none 0 0))] a5 fun e a6 => ∃ f4, e = .returned (.bool f4) ∧ yaI [b1, a0, a2, a1] a5 a6 ∧
 brB (!f4) (
 Calls pP 15 #[(.agg (Z0 f9 g0 g1 g2 g3 g4 g5 g6 g7 g8 e2 e8 e5 g9 h0 h1 h2 e3 e9 e6 e4 f0 e7)), (.agg (Z0 4 0 1 2 0 0 5 0 0 0 none 0 0 0 0 0 0 none 0 0 none 0 0))] a6 fun e a7 => ∃ b8, e = .returned (.bool b8) ∧ yaI [b1, a0, a2, a1] a6 a7 ∧
 brB b8 (
 Calls pP 12 #[(.agg (Z0 0 0 0 (-1) 0 0 0 0 0 0 none 0 0 0 0 0 0 none 0 0 none 0 0))] a7 fun e b9 => ∃ d1, e = .returned (.int .i64 d1) ∧ yaI [b1, a0, a2, a1] a7 b9 ∧
 R (.bool (d1 == 1)) b9)
 (
 R (.bool false) a7))
 (
 R (.bool false) a6))
 (
 R (.bool false) a5))
 (
 R (.bool false) a4))
 (
 R (.bool false) a4))
 (
 R (.bool false) a4))
 (
 ∀ c0, Adv [] [a1] a3 c0 →
 R (.bool false) c0))
 (
 ∀ c1, Adv [] [a1] a3 c1 →
 R (.bool false) c1))
 (
 ∀ c2, Adv [] [a1] a3 c2 →
 R (.bool false) c2))
 (
 ∀ c3, Adv [] [a1] a3 c3 →
 R (.bool false) c3)) :
 CR pP 16 #[] w R :=
 yaA Tryz.wide_mixed (an := []) Tryz.func16 rfl rfl (by kernel_rfl) rfl (Eq.mpr (by kernel_rfl) h)
def ynQ : LA := ⟨[0, 0, 1, 0, 1, 1, 1, 1], [1, 3, 4, 5], [(1, 0, 0), (3, 1, 0), (4, 2, 0)], 3, []⟩
def ynR : LA := ⟨[0, 0, 1, 0, 1, 0, 0, 1, 0, 0, 1, 0, 1, 1, 1, 1], [1, 3, 4, 5, 6], [(1, 0, 0), (3, 1, 0), (4, 2, 0)], 3, []⟩
def ynS : LA := ⟨[0, 0, 1, 1, 1, 0, 0, 1, 0, 0, 1, 0, 1, 1, 1, 1], [1, 3, 4, 5, 7], [(1, 0, 0), (3, 1, 0), (4, 2, 0)], 3, []⟩
def ynT : LA := ⟨[0, 0, 1, 0, 1, 1, 1, 1, 1], [1, 3, 4, 8], [(1, 0, 0), (3, 1, 0), (4, 2, 0)], 3, []⟩
def ynU : LA := ⟨[0, 0, 1, 0, 1, 1, 1, 1, 1, 1], [1, 3, 4, 9], [(1, 0, 0), (3, 1, 0), (4, 2, 0)], 3, []⟩
def ynV : List LA := [ynQ, ynR, ynS, ynT, ynU]
abbrev yfH := dnF pP ynV (code Tryz.f7)
abbrev yIY := yaO pP ynV (code Tryz.f7)
abbrev yfI (p : List Nat) (K : List Kh) (R : VWP) := yaO pP ynV (code Tryz.f7) p K (ya4 pP Tryz.f7 [] R)
def yhA (bm0 : Nat) (d9 e0 e1 e2 e3 e4 e5 e6 e7 e8 : Int) (a0 : OA) (b8 a9 : Nat) (c7 c8 c9 d0 : Int) (a1 : OA) (b9 b0 : Nat) (a2 : OA) (c0 b1 bm1 : Nat) (e9 f0 f1 f2 f3 f4 f5 f6 f7 f8 : Int) (a3 : OA) (c1 b2 : Nat) (d1 d2 d3 d4 : Int) (a4 : OA) (c2 b3 : Nat) (a5 : OA) (c3 b4 bm2 : Nat) (f9 g0 g1 g2 g3 g4 g5 g6 g7 g8 : Int) (a6 : OA) (c4 b5 : Nat) (d5 d6 d7 d8 : Int) (a7 : OA) (c5 b6 : Nat) (a8 : OA) (c6 b7 : Nat) : Int → List Value × List TB := fun g9 => ([(.pointer (some ⟨bm0, 0, none⟩)), (.pointer (some ⟨bm1, 0, none⟩)), (.pointer (some ⟨bm2, 0, none⟩)), .int .i64 g9], [⟨bm0, 29, [.int .i64 d9, .int .i64 e0, .int .i64 e1, .int .i64 e2, .int .i64 e3, .int .i64 e4, .int .i64 e5, .int .i64 e6, .int .i64 e7, .int .i64 e8, .slice a0 b8 a9, .int .i64 c7, .int .i64 c8, .int .i64 c9, .int .i64 d0, .slice a1 b9 b0, .slice a2 c0 b1], false⟩, ⟨bm1, 29, [.int .i64 e9, .int .i64 f0, .int .i64 f1, .int .i64 f2, .int .i64 f3, .int .i64 f4, .int .i64 f5, .int .i64 f6, .int .i64 f7, .int .i64 f8, .slice a3 c1 b2, .int .i64 d1, .int .i64 d2, .int .i64 d3, .int .i64 d4, .slice a4 c2 b3, .slice a5 c3 b4], false⟩, ⟨bm2, 29, [.int .i64 f9, .int .i64 g0, .int .i64 g1, .int .i64 g2, .int .i64 g3, .int .i64 g4, .int .i64 g5, .int .i64 g6, .int .i64 g7, .int .i64 g8, .slice a6 c4 b5, .int .i64 d5, .int .i64 d6, .int .i64 d7, .int .i64 d8, .slice a7 c5 b6, .slice a8 c6 b7], false⟩])
def yhB (g9 : Int) (bm0 : Nat) (d9 e0 e1 e2 e3 e4 e5 e6 e7 e8 : Int) (a0 : OA) (b8 a9 : Nat) (c7 c8 c9 d0 : Int) (a1 : OA) (b9 b0 : Nat) (a2 : OA) (c0 b1 bm1 : Nat) (e9 f0 f1 f2 f3 f4 f5 f6 f7 f8 : Int) (a3 : OA) (c1 b2 : Nat) (d1 d2 d3 d4 : Int) (a4 : OA) (c2 b3 : Nat) (a5 : OA) (c3 b4 bm2 : Nat) (f9 g0 g1 g2 g3 g4 g5 g6 g7 g8 : Int) (a6 : OA) (c4 b5 : Nat) (d5 d6 d7 d8 : Int) (a7 : OA) (c5 b6 : Nat) (a8 : OA) (c6 b7 : Nat) : Int → List Value × List TB := fun h0 => ([(.pointer (some ⟨bm0, 0, none⟩)), (.pointer (some ⟨bm1, 0, none⟩)), (.pointer (some ⟨bm2, 0, none⟩)), .int .i64 g9, .int .i64 h0], [⟨bm0, 29, [.int .i64 d9, .int .i64 e0, .int .i64 e1, .int .i64 e2, .int .i64 e3, .int .i64 e4, .int .i64 e5, .int .i64 e6, .int .i64 e7, .int .i64 e8, .slice a0 b8 a9, .int .i64 c7, .int .i64 c8, .int .i64 c9, .int .i64 d0, .slice a1 b9 b0, .slice a2 c0 b1], false⟩, ⟨bm1, 29, [.int .i64 e9, .int .i64 f0, .int .i64 f1, .int .i64 f2, .int .i64 f3, .int .i64 f4, .int .i64 f5, .int .i64 f6, .int .i64 f7, .int .i64 f8, .slice a3 c1 b2, .int .i64 d1, .int .i64 d2, .int .i64 d3, .int .i64 d4, .slice a4 c2 b3, .slice a5 c3 b4], false⟩, ⟨bm2, 29, [.int .i64 f9, .int .i64 g0, .int .i64 g1, .int .i64 g2, .int .i64 g3, .int .i64 g4, .int .i64 g5, .int .i64 g6, .int .i64 g7, .int .i64 g8, .slice a6 c4 b5, .int .i64 d5, .int .i64 d6, .int .i64 d7, .int .i64 d8, .slice a7 c5 b6, .slice a8 c6 b7], false⟩])
def yhC (g9 : Int) (bm0 : Nat) (d9 e0 e1 e2 e3 e4 e5 e6 e7 e8 : Int) (a0 : OA) (b8 a9 : Nat) (c7 c8 c9 d0 : Int) (a1 : OA) (b9 b0 : Nat) (a2 : OA) (c0 b1 bm1 : Nat) (e9 f0 f1 f2 f3 f4 f5 f6 f7 f8 : Int) (a3 : OA) (c1 b2 : Nat) (d1 d2 d3 d4 : Int) (a4 : OA) (c2 b3 : Nat) (a5 : OA) (c3 b4 bm2 : Nat) (f9 g0 g1 g2 g3 g4 g5 g6 g7 g8 : Int) (a6 : OA) (c4 b5 : Nat) (d5 d6 d7 d8 : Int) (a7 : OA) (c5 b6 : Nat) (a8 : OA) (c6 b7 : Nat) : Int → List Value × List TB := fun h0 => ([(.pointer (some ⟨bm0, 0, none⟩)), (.pointer (some ⟨bm1, 0, none⟩)), (.pointer (some ⟨bm2, 0, none⟩)), .int .i64 g9, .int .i64 h0], [⟨bm0, 29, [.int .i64 d9, .int .i64 e0, .int .i64 e1, .int .i64 e2, .int .i64 e3, .int .i64 e4, .int .i64 e5, .int .i64 e6, .int .i64 e7, .int .i64 e8, .slice a0 b8 a9, .int .i64 c7, .int .i64 c8, .int .i64 c9, .int .i64 d0, .slice a1 b9 b0, .slice a2 c0 b1], false⟩, ⟨bm1, 29, [.int .i64 e9, .int .i64 f0, .int .i64 f1, .int .i64 f2, .int .i64 f3, .int .i64 f4, .int .i64 f5, .int .i64 f6, .int .i64 f7, .int .i64 f8, .slice a3 c1 b2, .int .i64 d1, .int .i64 d2, .int .i64 d3, .int .i64 d4, .slice a4 c2 b3, .slice a5 c3 b4], false⟩, ⟨bm2, 29, [.int .i64 f9, .int .i64 g0, .int .i64 g1, .int .i64 g2, .int .i64 g3, .int .i64 g4, .int .i64 g5, .int .i64 g6, .int .i64 g7, .int .i64 g8, .slice a6 c4 b5, .int .i64 d5, .int .i64 d6, .int .i64 d7, .int .i64 d8, .slice a7 c5 b6, .slice a8 c6 b7], false⟩])
def yhD (bm0 : Nat) (d9 e0 e1 e2 e3 e4 e5 e6 e7 e8 : Int) (a0 : OA) (b8 a9 : Nat) (c7 c8 c9 d0 : Int) (a1 : OA) (b9 b0 : Nat) (a2 : OA) (c0 b1 bm1 : Nat) (e9 f0 f1 f2 f3 f4 f5 f6 f7 f8 : Int) (a3 : OA) (c1 b2 : Nat) (d1 d2 d3 d4 : Int) (a4 : OA) (c2 b3 : Nat) (a5 : OA) (c3 b4 bm2 : Nat) (f9 g0 g1 g2 g3 g4 g5 g6 g7 g8 : Int) (a6 : OA) (c4 b5 : Nat) (d5 d6 d7 d8 : Int) (a7 : OA) (c5 b6 : Nat) (a8 : OA) (c6 b7 : Nat) : Int → List Value × List TB := fun g9 => ([(.pointer (some ⟨bm0, 0, none⟩)), (.pointer (some ⟨bm1, 0, none⟩)), (.pointer (some ⟨bm2, 0, none⟩)), .int .i64 g9], [⟨bm0, 29, [.int .i64 d9, .int .i64 e0, .int .i64 e1, .int .i64 e2, .int .i64 e3, .int .i64 e4, .int .i64 e5, .int .i64 e6, .int .i64 e7, .int .i64 e8, .slice a0 b8 a9, .int .i64 c7, .int .i64 c8, .int .i64 c9, .int .i64 d0, .slice a1 b9 b0, .slice a2 c0 b1], false⟩, ⟨bm1, 29, [.int .i64 e9, .int .i64 f0, .int .i64 f1, .int .i64 f2, .int .i64 f3, .int .i64 f4, .int .i64 f5, .int .i64 f6, .int .i64 f7, .int .i64 f8, .slice a3 c1 b2, .int .i64 d1, .int .i64 d2, .int .i64 d3, .int .i64 d4, .slice a4 c2 b3, .slice a5 c3 b4], false⟩, ⟨bm2, 29, [.int .i64 f9, .int .i64 g0, .int .i64 g1, .int .i64 g2, .int .i64 g3, .int .i64 g4, .int .i64 g5, .int .i64 g6, .int .i64 g7, .int .i64 g8, .slice a6 c4 b5, .int .i64 d5, .int .i64 d6, .int .i64 d7, .int .i64 d8, .slice a7 c5 b6, .slice a8 c6 b7], false⟩])
def yhE (bm0 : Nat) (d9 e0 e1 e2 e3 e4 e5 e6 e7 e8 : Int) (a0 : OA) (b8 a9 : Nat) (c7 c8 c9 d0 : Int) (a1 : OA) (b9 b0 : Nat) (a2 : OA) (c0 b1 bm1 : Nat) (e9 f0 f1 f2 f3 f4 f5 f6 f7 f8 : Int) (a3 : OA) (c1 b2 : Nat) (d1 d2 d3 d4 : Int) (a4 : OA) (c2 b3 : Nat) (a5 : OA) (c3 b4 bm2 : Nat) (f9 g0 g1 g2 g3 g4 g5 g6 g7 g8 : Int) (a6 : OA) (c4 b5 : Nat) (d5 d6 d7 d8 : Int) (a7 : OA) (c5 b6 : Nat) (a8 : OA) (c6 b7 : Nat) : Int → List Value × List TB := fun g9 => ([(.pointer (some ⟨bm0, 0, none⟩)), (.pointer (some ⟨bm1, 0, none⟩)), (.pointer (some ⟨bm2, 0, none⟩)), .int .i64 g9], [⟨bm0, 29, [.int .i64 d9, .int .i64 e0, .int .i64 e1, .int .i64 e2, .int .i64 e3, .int .i64 e4, .int .i64 e5, .int .i64 e6, .int .i64 e7, .int .i64 e8, .slice a0 b8 a9, .int .i64 c7, .int .i64 c8, .int .i64 c9, .int .i64 d0, .slice a1 b9 b0, .slice a2 c0 b1], false⟩, ⟨bm1, 29, [.int .i64 e9, .int .i64 f0, .int .i64 f1, .int .i64 f2, .int .i64 f3, .int .i64 f4, .int .i64 f5, .int .i64 f6, .int .i64 f7, .int .i64 f8, .slice a3 c1 b2, .int .i64 d1, .int .i64 d2, .int .i64 d3, .int .i64 d4, .slice a4 c2 b3, .slice a5 c3 b4], false⟩, ⟨bm2, 29, [.int .i64 f9, .int .i64 g0, .int .i64 g1, .int .i64 g2, .int .i64 g3, .int .i64 g4, .int .i64 g5, .int .i64 g6, .int .i64 g7, .int .i64 g8, .slice a6 c4 b5, .int .i64 d5, .int .i64 d6, .int .i64 d7, .int .i64 d8, .slice a7 c5 b6, .slice a8 c6 b7], false⟩])
abbrev yAl (bm0 : Nat) (d9 e0 e1 e2 e3 e4 e5 e6 e7 e8 : Int) (a0 : OA) (b8 a9 : Nat) (c7 c8 c9 d0 : Int) (a1 : OA) (b9 b0 : Nat) (a2 : OA) (c0 b1 bm1 : Nat) (e9 f0 f1 f2 f3 f4 f5 f6 f7 f8 : Int) (a3 : OA) (c1 b2 : Nat) (d1 d2 d3 d4 : Int) (a4 : OA) (c2 b3 : Nat) (a5 : OA) (c3 b4 bm2 : Nat) (f9 g0 g1 g2 g3 g4 g5 g6 g7 g8 : Int) (a6 : OA) (c4 b5 : Nat) (d5 d6 d7 d8 : Int) (a7 : OA) (c5 b6 : Nat) (a8 : OA) (c6 b7 : Nat) (I : Nat → Int → World → Prop) (m : Nat) : Kh := KG (yhA bm0 d9 e0 e1 e2 e3 e4 e5 e6 e7 e8 a0 b8 a9 c7 c8 c9 d0 a1 b9 b0 a2 c0 b1 bm1 e9 f0 f1 f2 f3 f4 f5 f6 f7 f8 a3 c1 b2 d1 d2 d3 d4 a4 c2 b3 a5 c3 b4 bm2 f9 g0 g1 g2 g3 g4 g5 g6 g7 g8 a6 c4 b5 d5 d6 d7 d8 a7 c5 b6 a8 c6 b7) (U1 I) m
theorem yu6 {d5 d6 d7 d8 : Int} {I : Nat → Int → World → Prop} (m' : Nat) (h1 : m' < m) (h2 : I m' l8 w) : KS (yAl n0 i0 i1 i2 i3 i4 i5 i6 i7 i8 i9 q0 n1 n2 j0 j1 j2 j3 q1 n3 n4 q2 n5 n6 n7 j4 j5 j6 j7 j8 j9 k0 k1 k2 k3 q3 n8 n9 k4 k5 k6 k7 q4 o0 o1 q5 o2 o3 o4 k8 k9 l0 l1 l2 l3 l4 l5 l6 l7 q6 o5 o6 d5 d6 d7 d8 q7 o7 o8 q8 o9 p0 I m) (yhA n0 i0 i1 i2 i3 i4 i5 i6 i7 i8 i9 q0 n1 n2 j0 j1 j2 j3 q1 n3 n4 q2 n5 n6 n7 j4 j5 j6 j7 j8 j9 k0 k1 k2 k3 q3 n8 n9 k4 k5 k6 k7 q4 o0 o1 q5 o2 o3 o4 k8 k9 l0 l1 l2 l3 l4 l5 l6 l7 q6 o5 o6 d5 d6 d7 d8 q7 o7 o8 q8 o9 p0 l8) w := ⟨m', h1, _, rfl, rfl, h2⟩
theorem yu7 {d5 d6 d7 d8 : Int} (I : Nat → Int → World → Prop) (m0 : Nat) (h0 : I m0 l8 w0)
 (hr : ∀ m h1 w, I m h1 w →
 brB (decide (h1 < (n1 : Int))) (
 ixA q0 n1 h1 16 fun h5 =>
 ∀ h2, Adv [] [] w h2 →
 yaF .i64 h2 (Addr.add h5 1) fun h7 =>
 ixA q0 n1 h1 16 fun h6 =>
 st h2 (Addr.add h6 1) [(.int .i64 (IntKind.wrap .i64 (h7 + 1)))] fun h4 => yaI [n0, n7, o4] h2 h4 ∧
 yaJ ynR (yfH 390 [0, 0, 1, 0, 1, 0, 0, 1, 0, 0, 1, 0, 1, 1, 1, 1]) (yfI [1, 1, 1, 1, 0, 1, 0, 0, 1, 0, 0, 1, 0, 1, 0] [(yAl n0 i0 i1 i2 i3 i4 i5 i6 i7 i8 i9 q0 n1 n2 j0 j1 j2 j3 q1 n3 n4 q2 n5 n6 n7 j4 j5 j6 j7 j8 j9 k0 k1 k2 k3 q3 n8 n9 k4 k5 k6 k7 q4 o0 o1 q5 o2 o3 o4 k8 k9 l0 l1 l2 l3 l4 l5 l6 l7 q6 o5 o6 d5 d6 d7 d8 q7 o7 o8 q8 o9 p0 I m)] R) (yhB h1 n0 i0 i1 i2 i3 i4 i5 i6 i7 i8 i9 q0 n1 n2 j0 j1 j2 j3 q1 n3 n4 q2 n5 n6 n7 j4 j5 j6 j7 j8 j9 k0 k1 k2 k3 q3 n8 n9 k4 k5 k6 k7 q4 o0 o1 q5 o2 o3 o4 k8 k9 l0 l1 l2 l3 l4 l5 l6 l7 q6 o5 o6 d5 d6 d7 d8 q7 o7 o8 q8 o9 p0 0) h4)
 (
 yaJ ynT (yfH 393 [0, 0, 1, 0, 1, 1, 1, 1, 1]) (yfI [1, 1, 1, 1, 1, 0, 1, 0] [] R) (yhD n0 i0 i1 i2 i3 i4 i5 i6 i7 i8 i9 q0 n1 n2 j0 j1 j2 j3 q1 n3 n4 q2 n5 n6 n7 j4 j5 j6 j7 j8 j9 k0 k1 k2 k3 q3 n8 n9 k4 k5 k6 k7 q4 o0 o1 q5 o2 o3 o4 k8 k9 l0 l1 l2 l3 l4 l5 l6 l7 q6 o5 o6 d5 d6 d7 d8 q7 o7 o8 q8 o9 p0 0) w)) :
 yaJ ynQ (yfH 394 [0, 0, 1, 0, 1, 1, 1, 1]) (yfI [1, 1, 1, 1, 0, 1, 0] [] R) (yhA n0 i0 i1 i2 i3 i4 i5 i6 i7 i8 i9 q0 n1 n2 j0 j1 j2 j3 q1 n3 n4 q2 n5 n6 n7 j4 j5 j6 j7 j8 j9 k0 k1 k2 k3 q3 n8 n9 k4 k5 k6 k7 q4 o0 o1 q5 o2 o3 o4 k8 k9 l0 l1 l2 l3 l4 l5 l6 l7 q6 o5 o6 d5 d6 d7 d8 q7 o7 o8 q8 o9 p0 l8) w0 :=
 lrule (yhA n0 i0 i1 i2 i3 i4 i5 i6 i7 i8 i9 q0 n1 n2 j0 j1 j2 j3 q1 n3 n4 q2 n5 n6 n7 j4 j5 j6 j7 j8 j9 k0 k1 k2 k3 q3 n8 n9 k4 k5 k6 k7 q4 o0 o1 q5 o2 o3 o4 k8 k9 l0 l1 l2 l3 l4 l5 l6 l7 q6 o5 o6 d5 d6 d7 d8 q7 o7 o8 q8 o9 p0) (U1 I) h0 (by rintro m h1 w h; exact ⟨by kernel_rfl, by kernel_rfl, fun js => Eq.mpr (by kernel_rfl) (hr m h1 w h)⟩)
abbrev yAm (g9 : Int) (bm0 : Nat) (d9 e0 e1 e2 e3 e4 e5 e6 e7 e8 : Int) (a0 : OA) (b8 a9 : Nat) (c7 c8 c9 d0 : Int) (a1 : OA) (b9 b0 : Nat) (a2 : OA) (c0 b1 bm1 : Nat) (e9 f0 f1 f2 f3 f4 f5 f6 f7 f8 : Int) (a3 : OA) (c1 b2 : Nat) (d1 d2 d3 d4 : Int) (a4 : OA) (c2 b3 : Nat) (a5 : OA) (c3 b4 bm2 : Nat) (f9 g0 g1 g2 g3 g4 g5 g6 g7 g8 : Int) (a6 : OA) (c4 b5 : Nat) (d5 d6 d7 d8 : Int) (a7 : OA) (c5 b6 : Nat) (a8 : OA) (c6 b7 : Nat) (I : Nat → Int → World → Prop) (m : Nat) : Kh := KG (yhB g9 bm0 d9 e0 e1 e2 e3 e4 e5 e6 e7 e8 a0 b8 a9 c7 c8 c9 d0 a1 b9 b0 a2 c0 b1 bm1 e9 f0 f1 f2 f3 f4 f5 f6 f7 f8 a3 c1 b2 d1 d2 d3 d4 a4 c2 b3 a5 c3 b4 bm2 f9 g0 g1 g2 g3 g4 g5 g6 g7 g8 a6 c4 b5 d5 d6 d7 d8 a7 c5 b6 a8 c6 b7) (U1 I) m
theorem yu8 {d5 d6 d7 d8 : Int} {I : Nat → Int → World → Prop} (m' : Nat) (h1 : m' < m) (h2 : I m' l9 w) : KS (yAm i0 n0 i1 i2 i3 i4 i5 i6 i7 i8 i9 j0 q0 n1 n2 j1 j2 j3 j4 q1 n3 n4 q2 n5 n6 n7 j5 j6 j7 j8 j9 k0 k1 k2 k3 k4 q3 n8 n9 k5 k6 k7 k8 q4 o0 o1 q5 o2 o3 o4 k9 l0 l1 l2 l3 l4 l5 l6 l7 l8 q6 o5 o6 d5 d6 d7 d8 q7 o7 o8 q8 o9 p0 I m) (yhB i0 n0 i1 i2 i3 i4 i5 i6 i7 i8 i9 j0 q0 n1 n2 j1 j2 j3 j4 q1 n3 n4 q2 n5 n6 n7 j5 j6 j7 j8 j9 k0 k1 k2 k3 k4 q3 n8 n9 k5 k6 k7 k8 q4 o0 o1 q5 o2 o3 o4 k9 l0 l1 l2 l3 l4 l5 l6 l7 l8 q6 o5 o6 d5 d6 d7 d8 q7 o7 o8 q8 o9 p0 l9) w := ⟨m', h1, _, rfl, rfl, h2⟩
theorem yu9 {d5 d6 d7 d8 : Int} {K1 : Kh} (I : Nat → Int → World → Prop) (m0 : Nat) (h0 : I m0 l9 w0)
 (hr : ∀ m h2 w, I m h2 w →
 ixA q0 n1 i0 16 fun h8 =>
 yaR w (Addr.add (Addr.add h8 2) 13) fun u1 h6 u2 =>
 brB (decide (h2 < (h6 : Int))) (
 ixA q0 n1 i0 16 fun h9 =>
 yaR w (Addr.add (Addr.add h9 2) 13) fun h5 h7 u3 =>
 ixA h5 h7 h2 1 fun u0 =>
 st w u0 [(.string (⟨#[115, 112, 111, 105, 108, 116]⟩ : BA))] fun h4 => yaI [n0, n7, o4] w h4 ∧
 KS (yAm i0 n0 i1 i2 i3 i4 i5 i6 i7 i8 i9 j0 q0 n1 n2 j1 j2 j3 j4 q1 n3 n4 q2 n5 n6 n7 j5 j6 j7 j8 j9 k0 k1 k2 k3 k4 q3 n8 n9 k5 k6 k7 k8 q4 o0 o1 q5 o2 o3 o4 k9 l0 l1 l2 l3 l4 l5 l6 l7 l8 q6 o5 o6 d5 d6 d7 d8 q7 o7 o8 q8 o9 p0 I m) (yhB i0 n0 i1 i2 i3 i4 i5 i6 i7 i8 i9 j0 q0 n1 n2 j1 j2 j3 j4 q1 n3 n4 q2 n5 n6 n7 j5 j6 j7 j8 j9 k0 k1 k2 k3 k4 q3 n8 n9 k5 k6 k7 k8 q4 o0 o1 q5 o2 o3 o4 k9 l0 l1 l2 l3 l4 l5 l6 l7 l8 q6 o5 o6 d5 d6 d7 d8 q7 o7 o8 q8 o9 p0 (IntKind.wrap .i64 (h2 + 1))) h4)
 (
 yaJ ynS (yfH 389 [0, 0, 1, 1, 1, 0, 0, 1, 0, 0, 1, 0, 1, 1, 1, 1]) (yfI [1, 1, 1, 1, 0, 1, 0, 0, 1, 0, 0, 1, 1, 1, 0] [K1] R) (yhC i0 n0 i1 i2 i3 i4 i5 i6 i7 i8 i9 j0 q0 n1 n2 j1 j2 j3 j4 q1 n3 n4 q2 n5 n6 n7 j5 j6 j7 j8 j9 k0 k1 k2 k3 k4 q3 n8 n9 k5 k6 k7 k8 q4 o0 o1 q5 o2 o3 o4 k9 l0 l1 l2 l3 l4 l5 l6 l7 l8 q6 o5 o6 d5 d6 d7 d8 q7 o7 o8 q8 o9 p0 0) w)) :
 yaJ ynR (yfH 390 [0, 0, 1, 0, 1, 0, 0, 1, 0, 0, 1, 0, 1, 1, 1, 1]) (yfI [1, 1, 1, 1, 0, 1, 0, 0, 1, 0, 0, 1, 0, 1, 0] [K1] R) (yhB i0 n0 i1 i2 i3 i4 i5 i6 i7 i8 i9 j0 q0 n1 n2 j1 j2 j3 j4 q1 n3 n4 q2 n5 n6 n7 j5 j6 j7 j8 j9 k0 k1 k2 k3 k4 q3 n8 n9 k5 k6 k7 k8 q4 o0 o1 q5 o2 o3 o4 k9 l0 l1 l2 l3 l4 l5 l6 l7 l8 q6 o5 o6 d5 d6 d7 d8 q7 o7 o8 q8 o9 p0 l9) w0 :=
 lrule (yhB i0 n0 i1 i2 i3 i4 i5 i6 i7 i8 i9 j0 q0 n1 n2 j1 j2 j3 j4 q1 n3 n4 q2 n5 n6 n7 j5 j6 j7 j8 j9 k0 k1 k2 k3 k4 q3 n8 n9 k5 k6 k7 k8 q4 o0 o1 q5 o2 o3 o4 k9 l0 l1 l2 l3 l4 l5 l6 l7 l8 q6 o5 o6 d5 d6 d7 d8 q7 o7 o8 q8 o9 p0) (U1 I) h0 (by rintro m h2 w h; exact ⟨by kernel_rfl, by kernel_rfl, fun js => Eq.mpr (by kernel_rfl) (hr m h2 w h)⟩)
abbrev yAn (g9 : Int) (bm0 : Nat) (d9 e0 e1 e2 e3 e4 e5 e6 e7 e8 : Int) (a0 : OA) (b8 a9 : Nat) (c7 c8 c9 d0 : Int) (a1 : OA) (b9 b0 : Nat) (a2 : OA) (c0 b1 bm1 : Nat) (e9 f0 f1 f2 f3 f4 f5 f6 f7 f8 : Int) (a3 : OA) (c1 b2 : Nat) (d1 d2 d3 d4 : Int) (a4 : OA) (c2 b3 : Nat) (a5 : OA) (c3 b4 bm2 : Nat) (f9 g0 g1 g2 g3 g4 g5 g6 g7 g8 : Int) (a6 : OA) (c4 b5 : Nat) (d5 d6 d7 d8 : Int) (a7 : OA) (c5 b6 : Nat) (a8 : OA) (c6 b7 : Nat) (I : Nat → Int → World → Prop) (m : Nat) : Kh := KG (yhC g9 bm0 d9 e0 e1 e2 e3 e4 e5 e6 e7 e8 a0 b8 a9 c7 c8 c9 d0 a1 b9 b0 a2 c0 b1 bm1 e9 f0 f1 f2 f3 f4 f5 f6 f7 f8 a3 c1 b2 d1 d2 d3 d4 a4 c2 b3 a5 c3 b4 bm2 f9 g0 g1 g2 g3 g4 g5 g6 g7 g8 a6 c4 b5 d5 d6 d7 d8 a7 c5 b6 a8 c6 b7) (U1 I) m
theorem yvA {d5 d6 d7 d8 : Int} {I : Nat → Int → World → Prop} (m' : Nat) (h1 : m' < m) (h2 : I m' l9 w) : KS (yAn i0 n0 i1 i2 i3 i4 i5 i6 i7 i8 i9 j0 q0 n1 n2 j1 j2 j3 j4 q1 n3 n4 q2 n5 n6 n7 j5 j6 j7 j8 j9 k0 k1 k2 k3 k4 q3 n8 n9 k5 k6 k7 k8 q4 o0 o1 q5 o2 o3 o4 k9 l0 l1 l2 l3 l4 l5 l6 l7 l8 q6 o5 o6 d5 d6 d7 d8 q7 o7 o8 q8 o9 p0 I m) (yhC i0 n0 i1 i2 i3 i4 i5 i6 i7 i8 i9 j0 q0 n1 n2 j1 j2 j3 j4 q1 n3 n4 q2 n5 n6 n7 j5 j6 j7 j8 j9 k0 k1 k2 k3 k4 q3 n8 n9 k5 k6 k7 k8 q4 o0 o1 q5 o2 o3 o4 k9 l0 l1 l2 l3 l4 l5 l6 l7 l8 q6 o5 o6 d5 d6 d7 d8 q7 o7 o8 q8 o9 p0 l9) w := ⟨m', h1, _, rfl, rfl, h2⟩
theorem yvB {d5 d6 d7 d8 : Int} {K1 : Kh} (I : Nat → Int → World → Prop) (m0 : Nat) (h0 : I m0 l9 w0)
 (hr : ∀ m h2 w, I m h2 w →
 ixA q0 n1 i0 16 fun h9 =>
 yaR w (Addr.add (Addr.add (Addr.add h9 2) 5) 3) fun u2 h8 u3 =>
 brB (decide (h2 < (h8 : Int))) (
 ixA q0 n1 i0 16 fun u0 =>
 yaR w (Addr.add (Addr.add (Addr.add u0 2) 5) 3) fun h7 h5 u1 =>
 ixA h7 h5 h2 4 fun h6 =>
 st w (Addr.add h6 1) [(.string (⟨#[115, 112, 111, 105, 108, 116]⟩ : BA))] fun h3 => yaI [n0, n7, o4] w h3 ∧
 KS (yAn i0 n0 i1 i2 i3 i4 i5 i6 i7 i8 i9 j0 q0 n1 n2 j1 j2 j3 j4 q1 n3 n4 q2 n5 n6 n7 j5 j6 j7 j8 j9 k0 k1 k2 k3 k4 q3 n8 n9 k5 k6 k7 k8 q4 o0 o1 q5 o2 o3 o4 k9 l0 l1 l2 l3 l4 l5 l6 l7 l8 q6 o5 o6 d5 d6 d7 d8 q7 o7 o8 q8 o9 p0 I m) (yhC i0 n0 i1 i2 i3 i4 i5 i6 i7 i8 i9 j0 q0 n1 n2 j1 j2 j3 j4 q1 n3 n4 q2 n5 n6 n7 j5 j6 j7 j8 j9 k0 k1 k2 k3 k4 q3 n8 n9 k5 k6 k7 k8 q4 o0 o1 q5 o2 o3 o4 k9 l0 l1 l2 l3 l4 l5 l6 l7 l8 q6 o5 o6 d5 d6 d7 d8 q7 o7 o8 q8 o9 p0 (IntKind.wrap .i64 (h2 + 1))) h3)
 (
 KS K1 (yhA n0 i1 i2 i3 i4 i5 i6 i7 i8 i9 j0 q0 n1 n2 j1 j2 j3 j4 q1 n3 n4 q2 n5 n6 n7 j5 j6 j7 j8 j9 k0 k1 k2 k3 k4 q3 n8 n9 k5 k6 k7 k8 q4 o0 o1 q5 o2 o3 o4 k9 l0 l1 l2 l3 l4 l5 l6 l7 l8 q6 o5 o6 d5 d6 d7 d8 q7 o7 o8 q8 o9 p0 (IntKind.wrap .i64 (i0 + 1))) w)) :
 yaJ ynS (yfH 389 [0, 0, 1, 1, 1, 0, 0, 1, 0, 0, 1, 0, 1, 1, 1, 1]) (yfI [1, 1, 1, 1, 0, 1, 0, 0, 1, 0, 0, 1, 1, 1, 0] [K1] R) (yhC i0 n0 i1 i2 i3 i4 i5 i6 i7 i8 i9 j0 q0 n1 n2 j1 j2 j3 j4 q1 n3 n4 q2 n5 n6 n7 j5 j6 j7 j8 j9 k0 k1 k2 k3 k4 q3 n8 n9 k5 k6 k7 k8 q4 o0 o1 q5 o2 o3 o4 k9 l0 l1 l2 l3 l4 l5 l6 l7 l8 q6 o5 o6 d5 d6 d7 d8 q7 o7 o8 q8 o9 p0 l9) w0 :=
 lrule (yhC i0 n0 i1 i2 i3 i4 i5 i6 i7 i8 i9 j0 q0 n1 n2 j1 j2 j3 j4 q1 n3 n4 q2 n5 n6 n7 j5 j6 j7 j8 j9 k0 k1 k2 k3 k4 q3 n8 n9 k5 k6 k7 k8 q4 o0 o1 q5 o2 o3 o4 k9 l0 l1 l2 l3 l4 l5 l6 l7 l8 q6 o5 o6 d5 d6 d7 d8 q7 o7 o8 q8 o9 p0) (U1 I) h0 (by rintro m h2 w h; exact ⟨by kernel_rfl, by kernel_rfl, fun js => Eq.mpr (by kernel_rfl) (hr m h2 w h)⟩)
abbrev yAo (bm0 : Nat) (d9 e0 e1 e2 e3 e4 e5 e6 e7 e8 : Int) (a0 : OA) (b8 a9 : Nat) (c7 c8 c9 d0 : Int) (a1 : OA) (b9 b0 : Nat) (a2 : OA) (c0 b1 bm1 : Nat) (e9 f0 f1 f2 f3 f4 f5 f6 f7 f8 : Int) (a3 : OA) (c1 b2 : Nat) (d1 d2 d3 d4 : Int) (a4 : OA) (c2 b3 : Nat) (a5 : OA) (c3 b4 bm2 : Nat) (f9 g0 g1 g2 g3 g4 g5 g6 g7 g8 : Int) (a6 : OA) (c4 b5 : Nat) (d5 d6 d7 d8 : Int) (a7 : OA) (c5 b6 : Nat) (a8 : OA) (c6 b7 : Nat) (I : Nat → Int → World → Prop) (m : Nat) : Kh := KG (yhD bm0 d9 e0 e1 e2 e3 e4 e5 e6 e7 e8 a0 b8 a9 c7 c8 c9 d0 a1 b9 b0 a2 c0 b1 bm1 e9 f0 f1 f2 f3 f4 f5 f6 f7 f8 a3 c1 b2 d1 d2 d3 d4 a4 c2 b3 a5 c3 b4 bm2 f9 g0 g1 g2 g3 g4 g5 g6 g7 g8 a6 c4 b5 d5 d6 d7 d8 a7 c5 b6 a8 c6 b7) (U1 I) m
theorem yvC {d5 d6 d7 d8 : Int} {I : Nat → Int → World → Prop} (m' : Nat) (h1 : m' < m) (h2 : I m' l8 w) : KS (yAo n0 i0 i1 i2 i3 i4 i5 i6 i7 i8 i9 q0 n1 n2 j0 j1 j2 j3 q1 n3 n4 q2 n5 n6 n7 j4 j5 j6 j7 j8 j9 k0 k1 k2 k3 q3 n8 n9 k4 k5 k6 k7 q4 o0 o1 q5 o2 o3 o4 k8 k9 l0 l1 l2 l3 l4 l5 l6 l7 q6 o5 o6 d5 d6 d7 d8 q7 o7 o8 q8 o9 p0 I m) (yhD n0 i0 i1 i2 i3 i4 i5 i6 i7 i8 i9 q0 n1 n2 j0 j1 j2 j3 q1 n3 n4 q2 n5 n6 n7 j4 j5 j6 j7 j8 j9 k0 k1 k2 k3 q3 n8 n9 k4 k5 k6 k7 q4 o0 o1 q5 o2 o3 o4 k8 k9 l0 l1 l2 l3 l4 l5 l6 l7 q6 o5 o6 d5 d6 d7 d8 q7 o7 o8 q8 o9 p0 l8) w := ⟨m', h1, _, rfl, rfl, h2⟩
theorem yvD {d5 d6 d7 d8 : Int} (I : Nat → Int → World → Prop) (m0 : Nat) (h0 : I m0 l8 w0)
 (hr : ∀ m h1 w, I m h1 w →
 brB (decide (h1 < (n5 : Int))) (
 ixA q2 n5 h1 2 fun h5 =>
 ∀ h2, Adv [] [] w h2 →
 yaF .i64 h2 (Addr.add h5 1) fun h7 =>
 ixA q2 n5 h1 2 fun h6 =>
 st h2 (Addr.add h6 1) [(.int .i64 (IntKind.wrap .i64 (h7 + 1)))] fun h3 => yaI [n0, n7, o4] h2 h3 ∧
 KS (yAo n0 i0 i1 i2 i3 i4 i5 i6 i7 i8 i9 q0 n1 n2 j0 j1 j2 j3 q1 n3 n4 q2 n5 n6 n7 j4 j5 j6 j7 j8 j9 k0 k1 k2 k3 q3 n8 n9 k4 k5 k6 k7 q4 o0 o1 q5 o2 o3 o4 k8 k9 l0 l1 l2 l3 l4 l5 l6 l7 q6 o5 o6 d5 d6 d7 d8 q7 o7 o8 q8 o9 p0 I m) (yhD n0 i0 i1 i2 i3 i4 i5 i6 i7 i8 i9 q0 n1 n2 j0 j1 j2 j3 q1 n3 n4 q2 n5 n6 n7 j4 j5 j6 j7 j8 j9 k0 k1 k2 k3 q3 n8 n9 k4 k5 k6 k7 q4 o0 o1 q5 o2 o3 o4 k8 k9 l0 l1 l2 l3 l4 l5 l6 l7 q6 o5 o6 d5 d6 d7 d8 q7 o7 o8 q8 o9 p0 (IntKind.wrap .i64 (h1 + 1))) h3)
 (
 yaJ ynU (yfH 392 [0, 0, 1, 0, 1, 1, 1, 1, 1, 1]) (yfI [1, 1, 1, 1, 1, 1, 0, 1, 0] [] R) (yhE n0 i0 i1 i2 i3 i4 i5 i6 i7 i8 i9 q0 n1 n2 j0 j1 j2 j3 q1 n3 n4 q2 n5 n6 n7 j4 j5 j6 j7 j8 j9 k0 k1 k2 k3 q3 n8 n9 k4 k5 k6 k7 q4 o0 o1 q5 o2 o3 o4 k8 k9 l0 l1 l2 l3 l4 l5 l6 l7 q6 o5 o6 d5 d6 d7 d8 q7 o7 o8 q8 o9 p0 0) w)) :
 yaJ ynT (yfH 393 [0, 0, 1, 0, 1, 1, 1, 1, 1]) (yfI [1, 1, 1, 1, 1, 0, 1, 0] [] R) (yhD n0 i0 i1 i2 i3 i4 i5 i6 i7 i8 i9 q0 n1 n2 j0 j1 j2 j3 q1 n3 n4 q2 n5 n6 n7 j4 j5 j6 j7 j8 j9 k0 k1 k2 k3 q3 n8 n9 k4 k5 k6 k7 q4 o0 o1 q5 o2 o3 o4 k8 k9 l0 l1 l2 l3 l4 l5 l6 l7 q6 o5 o6 d5 d6 d7 d8 q7 o7 o8 q8 o9 p0 l8) w0 :=
 lrule (yhD n0 i0 i1 i2 i3 i4 i5 i6 i7 i8 i9 q0 n1 n2 j0 j1 j2 j3 q1 n3 n4 q2 n5 n6 n7 j4 j5 j6 j7 j8 j9 k0 k1 k2 k3 q3 n8 n9 k4 k5 k6 k7 q4 o0 o1 q5 o2 o3 o4 k8 k9 l0 l1 l2 l3 l4 l5 l6 l7 q6 o5 o6 d5 d6 d7 d8 q7 o7 o8 q8 o9 p0) (U1 I) h0 (by rintro m h1 w h; exact ⟨by kernel_rfl, by kernel_rfl, fun js => Eq.mpr (by kernel_rfl) (hr m h1 w h)⟩)
abbrev yAp (bm0 : Nat) (d9 e0 e1 e2 e3 e4 e5 e6 e7 e8 : Int) (a0 : OA) (b8 a9 : Nat) (c7 c8 c9 d0 : Int) (a1 : OA) (b9 b0 : Nat) (a2 : OA) (c0 b1 bm1 : Nat) (e9 f0 f1 f2 f3 f4 f5 f6 f7 f8 : Int) (a3 : OA) (c1 b2 : Nat) (d1 d2 d3 d4 : Int) (a4 : OA) (c2 b3 : Nat) (a5 : OA) (c3 b4 bm2 : Nat) (f9 g0 g1 g2 g3 g4 g5 g6 g7 g8 : Int) (a6 : OA) (c4 b5 : Nat) (d5 d6 d7 d8 : Int) (a7 : OA) (c5 b6 : Nat) (a8 : OA) (c6 b7 : Nat) (I : Nat → Int → World → Prop) (m : Nat) : Kh := KG (yhE bm0 d9 e0 e1 e2 e3 e4 e5 e6 e7 e8 a0 b8 a9 c7 c8 c9 d0 a1 b9 b0 a2 c0 b1 bm1 e9 f0 f1 f2 f3 f4 f5 f6 f7 f8 a3 c1 b2 d1 d2 d3 d4 a4 c2 b3 a5 c3 b4 bm2 f9 g0 g1 g2 g3 g4 g5 g6 g7 g8 a6 c4 b5 d5 d6 d7 d8 a7 c5 b6 a8 c6 b7) (U1 I) m
theorem yvE {d5 d6 d7 d8 : Int} {I : Nat → Int → World → Prop} (m' : Nat) (h1 : m' < m) (h2 : I m' l8 w) : KS (yAp n0 i0 i1 i2 i3 i4 i5 i6 i7 i8 i9 q0 n1 n2 j0 j1 j2 j3 q1 n3 n4 q2 n5 n6 n7 j4 j5 j6 j7 j8 j9 k0 k1 k2 k3 q3 n8 n9 k4 k5 k6 k7 q4 o0 o1 q5 o2 o3 o4 k8 k9 l0 l1 l2 l3 l4 l5 l6 l7 q6 o5 o6 d5 d6 d7 d8 q7 o7 o8 q8 o9 p0 I m) (yhE n0 i0 i1 i2 i3 i4 i5 i6 i7 i8 i9 q0 n1 n2 j0 j1 j2 j3 q1 n3 n4 q2 n5 n6 n7 j4 j5 j6 j7 j8 j9 k0 k1 k2 k3 q3 n8 n9 k4 k5 k6 k7 q4 o0 o1 q5 o2 o3 o4 k8 k9 l0 l1 l2 l3 l4 l5 l6 l7 q6 o5 o6 d5 d6 d7 d8 q7 o7 o8 q8 o9 p0 l8) w := ⟨m', h1, _, rfl, rfl, h2⟩
theorem yvF {c4 c5 c6 c7 : Int} (I : Nat → Int → World → Prop) (m0 : Nat) (h0 : I m0 l8 w0)
 (hr : ∀ m h1 w, I m h1 w →
 brB (decide (h1 < (n3 : Int))) (
 ixA q1 n3 h1 5 fun h9 =>
 ∀ h2, Adv [] [] w h2 →
 yaF .i64 h2 h9 fun u1 =>
 ixA q1 n3 h1 5 fun u0 =>
 st h2 u0 [(.int .i64 (IntKind.wrap .i64 (u1 + 1)))] fun h6 => yaI [n0, n7, o4] h2 h6 ∧
 KS (yAp n0 i0 i1 i2 i3 i4 i5 i6 i7 i8 i9 q0 n1 n2 j0 j1 j2 j3 q1 n3 n4 q2 n5 n6 n7 j4 j5 j6 j7 j8 j9 k0 k1 k2 k3 q3 n8 n9 k4 k5 k6 k7 q4 o0 o1 q5 o2 o3 o4 k8 k9 l0 l1 l2 l3 l4 l5 l6 l7 q6 o5 o6 c4 c5 c6 c7 q7 o7 o8 q8 o9 p0 I m) (yhE n0 i0 i1 i2 i3 i4 i5 i6 i7 i8 i9 q0 n1 n2 j0 j1 j2 j3 q1 n3 n4 q2 n5 n6 n7 j4 j5 j6 j7 j8 j9 k0 k1 k2 k3 q3 n8 n9 k4 k5 k6 k7 q4 o0 o1 q5 o2 o3 o4 k8 k9 l0 l1 l2 l3 l4 l5 l6 l7 q6 o5 o6 c4 c5 c6 c7 q7 o7 o8 q8 o9 p0 (IntKind.wrap .i64 (h1 + 1))) h6)
 (
 Calls pP 15 #[(.agg (Z0 k8 k9 l0 l1 l2 l3 l4 l5 l6 l7 q6 o5 o6 c4 c5 c6 c7 q7 o7 o8 q8 o9 p0)), (.agg (Z0 j4 j5 j6 j7 j8 j9 k0 k1 k2 k3 q3 n8 n9 k4 k5 k6 k7 q4 o0 o1 q5 o2 o3))] w fun e h3 => ∃ h4, e = .returned (.bool h4) ∧ yaI [n0, n7, o4] w h3 ∧
 brB h4 (
 Calls pP 16 #[] h3 fun e h7 => ∃ h5, e = .returned (.bool h5) ∧ yaI [n0, n7, o4] h3 h7 ∧
 R (.bool h5) h7)
 (
 R (.bool false) h3))) :
 yaJ ynU (yfH 392 [0, 0, 1, 0, 1, 1, 1, 1, 1, 1]) (yfI [1, 1, 1, 1, 1, 1, 0, 1, 0] [] R) (yhE n0 i0 i1 i2 i3 i4 i5 i6 i7 i8 i9 q0 n1 n2 j0 j1 j2 j3 q1 n3 n4 q2 n5 n6 n7 j4 j5 j6 j7 j8 j9 k0 k1 k2 k3 q3 n8 n9 k4 k5 k6 k7 q4 o0 o1 q5 o2 o3 o4 k8 k9 l0 l1 l2 l3 l4 l5 l6 l7 q6 o5 o6 c4 c5 c6 c7 q7 o7 o8 q8 o9 p0 l8) w0 :=
 lrule (yhE n0 i0 i1 i2 i3 i4 i5 i6 i7 i8 i9 q0 n1 n2 j0 j1 j2 j3 q1 n3 n4 q2 n5 n6 n7 j4 j5 j6 j7 j8 j9 k0 k1 k2 k3 q3 n8 n9 k4 k5 k6 k7 q4 o0 o1 q5 o2 o3 o4 k8 k9 l0 l1 l2 l3 l4 l5 l6 l7 q6 o5 o6 c4 c5 c6 c7 q7 o7 o8 q8 o9 p0) (U1 I) h0 (by rintro m h1 w h; exact ⟨by kernel_rfl, by kernel_rfl, fun js => Eq.mpr (by kernel_rfl) (hr m h1 w h)⟩)
theorem yEr (h :
 ∀ b1, w.heap.size ≤ b1 →
 ∀ w2, Adv [] [b1] w w2 →
 Calls pP 9 #[(.agg (Z0 i0 i1 i2 i3 i4 i5 i6 i7 i8 i9 q0 n0 n1 j0 j1 j2 j3 q1 n2 n3 q2 n4 n5))] w2 fun e w3 => ∃ x4 x5 x6 x7 x8 x9 d4 d5 d6 d7 c4 d1 c8 d8 d9 e0 e1 c5 d2 c9 c6 d3 d0, e = .returned (.agg (Z0 x4 x5 x6 x7 x8 x9 d4 d5 d6 d7 c4 d1 c8 d8 d9 e0 e1 c5 d2 c9 c6 d3 d0)) ∧ yaI [b1] w2 w3 ∧
 ∀ e4, Adv [b1] [] w3 e4 →
 Calls pP 9 #[(.agg (Z0 x4 x5 x6 x7 x8 x9 d4 d5 d6 d7 c4 d1 c8 d8 d9 e0 e1 c5 d2 c9 c6 d3 d0))] e4 fun e e5 => ∃ g7 g8 g9 h0 h1 h2 h3 h4 h5 h6 e8 g1 f4 h7 h8 h9 u0 e9 g2 f5 f0 g3 f6, e = .returned (.agg (Z0 g7 g8 g9 h0 h1 h2 h3 h4 h5 h6 e8 g1 f4 h7 h8 h9 u0 e9 g2 f5 f0 g3 f6)) ∧ yaI [b1] e4 e5 ∧
 ∀ c7, e5.heap.size ≤ c7 →
 ∀ e6, Adv [] [c7] e5 e6 →
 Calls pP 19 #[(.agg (Z0 x4 x5 x6 x7 x8 x9 d4 d5 d6 d7 c4 d1 c8 d8 d9 e0 e1 c5 d2 c9 c6 d3 d0))] e6 fun e e7 => ∃ u1 u2 u3 u4 u5 u6 u7 u9 v0 v1 f1 g4 f8 v2 v3 v4 v5 f2 g5 f9 f3 g6 g0, e = .returned (.agg (Z0 u1 u2 u3 u4 u5 u6 u7 u9 v0 v1 f1 g4 f8 v2 v3 v4 v5 f2 g5 f9 f3 g6 g0)) ∧ yaI [b1, c7] e6 e7 ∧
 ∀ e2, e7.heap.size ≤ e2 →
 ∀ e3, Adv [] [e2] e7 e3 →
 yaJ ynQ (yfH 394 [0, 0, 1, 0, 1, 1, 1, 1]) (yfI [1, 1, 1, 1, 0, 1, 0] [] R) (yhA b1 x4 x5 x6 x7 x8 x9 d4 d5 d6 d7 c4 d1 c8 d8 d9 e0 e1 c5 d2 c9 c6 d3 d0 c7 g7 g8 g9 h0 h1 h2 h3 h4 h5 h6 e8 g1 f4 h7 h8 h9 u0 e9 g2 f5 f0 g3 f6 e2 u1 u2 u3 u4 u5 u6 u7 u9 v0 v1 f1 g4 f8 v2 v3 v4 v5 f2 g5 f9 f3 g6 g0 0) e3) :
 CR pP 7 #[(.agg (Z0 i0 i1 i2 i3 i4 i5 i6 i7 i8 i9 q0 n0 n1 j0 j1 j2 j3 q1 n2 n3 q2 n4 n5))] w R :=
 yaA Tryz.wide_mixed (an := ynV) Tryz.func7 rfl rfl (by kernel_rfl) rfl (Eq.mpr (by kernel_rfl) h)
end
theorem yeW {x : Int} (h0 : 0 ≤ x) (h : x.toNat ≤ 1099511627776) : num x = true := ypF h0 (by omega)
theorem ylO {w : World} {r : PRep} {f p : Sl} (h : RepAt w r f p) :
  Calls pP 33 #[r.v f p] w fun e w' => e = .returned (.tuple #[.string (if yfA r = 0 then bs (ydF r) else bs []), .int .i64 (yfA r)]) ∧ Mod [] w w' := by
 refine yaQ (yEk ?_)
 intro b1 f1 w2 A2
 refine (yBi (h.keep0 A2.mod)).mono ?_
 rintro _ w3 ⟨rfl, M3⟩
 have N3 := A2.mod.go0 M3 (by simp)
 refine ⟨_, rfl, yaI.of0 M3, yaB (fun g => ?_) fun g => ?_⟩
 ·have g : yfA r ≠ 0 := by simpa using g
  rw [if_neg g]; exact ⟨rfl, N3⟩
 have g : yfA r = 0 := by simpa using g
 have G := RepGood.of g
 rw [if_pos g, g]
 have e4 := h.found.1
 have e5 := h.parts.1
 have lf := G.lf
 have lp := G.lp
 obtain ⟨n0, n1, n2, n3⟩ := G.nn
 have d0 := G.hd r.e.toNat (by simp [hdL])
 have d1 := G.hd r.off.toNat (by simp [hdL])
 have d2 := G.hd r.n.toNat (by simp [hdL])
 have d3 := G.hd r.gen.toNat (by simp [hdL])
 have v0 := (yaN r.e.toNat (by omega)).2
 have v1 := (yaN r.off.toNat (by omega)).2
 have v2 := (yaN r.n.toNat (by omega)).2
 have v3 := (yaN r.gen.toNat (by omega)).2
 have v4 := (yaN f.n (by omega)).2
 have v5 := (yaN p.n (by omega)).2
 intro w5 A5
 refine (ydN (yeW n0 d0) w5).mono ?_
 rintro _ w6 ⟨rfl, M6⟩
 refine ⟨_, rfl, yaI.of0 M6, rfl, rfl, rfl, rfl, ?_⟩
 refine (ydN (yeW n1 d1) w6).mono ?_
 rintro _ w7 ⟨rfl, M7⟩
 refine ⟨_, rfl, yaI.of0 M7, rfl, rfl, rfl, by rw [yaE, yaE]; omega, ?_⟩
 rw [ybH]
 refine (ydN (yeW n2 d2) w7).mono ?_
 rintro _ w8 ⟨rfl, M8⟩
 refine ⟨_, rfl, yaI.of0 M8, rfl, rfl, by rw [yaE, yaE, List.length_append]; omega, ?_⟩
 rw [ybH]
 refine (ydN (yeW n3 d3) w8).mono ?_
 rintro _ w9 ⟨rfl, M9⟩
 refine ⟨_, rfl, yaI.of0 M9, rfl, by rw [yaE, yaE, List.length_append, List.length_append]; omega, ?_⟩
 rw [ybH]
 refine (ydN (x := (f.n : Nat)) (ypF (by omega) (by omega)) w9).mono ?_
 rintro _ w10 ⟨rfl, M10⟩
 refine ⟨_, rfl, yaI.of0 M10, by rw [yaE, yaE, List.length_append, List.length_append, List.length_append, Int.toNat_natCast]; omega, ?_⟩
 rw [ybH, Int.toNat_natCast]
 have N10 : Mod [] w w10 := (((((N3.go0 A5.mod (by simp)).go0 M6 (by simp)).go0 M7 (by simp)).go0 M8 (by simp)).go0 M9 (by simp)).go0 M10 (by simp)
 have eh : yaL r.e.toNat ++ yaL r.off.toNat ++ yaL r.n.toNat ++ yaL r.gen.toNat ++ yaL f.n = ycU r 0 := by
  simp [ycU, hdL, e4]
 rw [eh]
 refine yuV (fun mm s x w' => ∃ k : Nat, x = k ∧ k ≤ r.found.length ∧ s = bs (ycU r k) ∧ Mod [] w w' ∧ mm = r.found.length - k) r.found.length ⟨0, rfl, by omega, rfl, N10, rfl⟩ ?_
 rintro mm s x w11 ⟨k, rfl, hk, rfl, M11, rfl⟩
 have l2 := G.len2 k
 refine yaC (fun hlt => ?_) fun hge => ?_
 ·obtain ⟨y, hy⟩ : ∃ y, r.found[k]? = some y := ⟨_, List.getElem?_eq_getElem (by omega)⟩
  obtain ⟨y1, y2⟩ := G.f y (List.mem_of_getElem? hy)
  have ly := G.lenF (List.mem_of_getElem? hy)
  have l2' := G.len2 (k + 1)
  refine (h.keep0 M11).found.ixW hy fun q hq => ?_
  intro w12 A12
  have N12 := M11.go0 A12.mod (by simp)
  refine yaD (x := y.off) (by simpa [add_zero] using hq w12 A12.mod 0 _ rfl) ?_
  refine (h.keep0 N12).found.ixW hy fun q hq => ?_
  have hc := hq w12 (Mod.refl _)
  rw [ycB, ycB, ycB]
  refine yaM (hc 1 _ rfl) (yaH (hc 2 _ rfl) (yaM (hc 3 _ rfl) (yaH (hc 4 _ rfl) ?_)))
  refine (ydN y1 w12).mono ?_
  rintro _ w13 ⟨rfl, M13⟩
  have hd := hq w13 M13
  refine ⟨_, rfl, yaI.of0 M13, ?_, rfl, ?_⟩
  ·exact yaM (hd 1 _ rfl) (yaH (hd 2 _ rfl) (yaM (hd 3 _ rfl) (yaH (hd 4 _ rfl) rfl)))
  refine (yAe y.r y2 w13).mono ?_
  rintro _ w14 ⟨rfl, M14⟩
  have N14 := (N12.go0 M13 (by simp)).go0 M14 (by simp)
  have eF : yaL y.off.toNat ++ yfR y.r = yeS y := rfl
  refine ⟨_, rfl, yaI.of0 M14, by rw [yaE, yaE, ← List.length_append, eF]; omega, ?_⟩
  rw [ybH, eF]
  refine ⟨by rw [yaE, yaE]; omega, ?_⟩
  rw [ybH]
  refine yuU (r.found.length - (k + 1)) (by omega) ⟨k + 1, by rw [yaG (by omega) (by omega)]; omega, by omega, ?_, N14, rfl⟩
  rw [ycU, ycU, ybC hy, ← List.append_assoc]
 ·have hk : k = r.found.length := by omega
  subst hk
  refine (ydN (x := (p.n : Nat)) (ypF (by omega) (by omega)) w11).mono ?_
  rintro _ w12 ⟨rfl, M12⟩
  refine ⟨_, rfl, yaI.of0 M12, by rw [yaE, yaE, Int.toNat_natCast]; omega, ?_⟩
  rw [ybH, Int.toNat_natCast]
  have e3 : ycU r r.found.length ++ yaL p.n = yeM r 0 := by rw [ycU, yeM, List.take_length, e5]; simp
  rw [e3]
  refine yuX (fun mm s x w' => ∃ k : Nat, x = k ∧ k ≤ r.parts.length ∧ s = bs (yeM r k) ∧ Mod [] w w' ∧ mm = r.parts.length - k) r.parts.length ⟨0, rfl, by omega, rfl, M11.go0 M12 (by simp), rfl⟩ ?_
  rintro mm s x w13 ⟨k, rfl, hk, rfl, M13, rfl⟩
  have l3 := G.len3 k
  refine yaC (fun hlt => ?_) fun hge => ?_
  ·obtain ⟨y, hy⟩ : ∃ y, r.parts[k]? = some y := ⟨_, List.getElem?_eq_getElem (by omega)⟩
   obtain ⟨y1, y2⟩ := G.p y (List.mem_of_getElem? hy)
   have ly := G.lenP (List.mem_of_getElem? hy)
   refine (h.keep0 M13).parts.ixW hy fun q hq => ?_
   intro w14 A14
   have N14 := M13.go0 A14.mod (by simp)
   refine yaH (x := y.t) (by simpa [add_zero] using hq w14 A14.mod 0 _ rfl) ?_
   refine (h.keep0 N14).parts.ixW hy fun q hq => ?_
   refine yaD (x := y.n) (hq w14 (Mod.refl _) 1 _ rfl) ?_
   refine (ycP y.t (by omega) w14).mono ?_
   rintro _ w15 ⟨rfl, M15⟩
   refine ⟨_, rfl, yaI.of0 M15, yaD (x := y.n) (hq w15 M15 1 _ rfl) rfl, rfl, ?_⟩
   refine (ydN y1 w15).mono ?_
   rintro _ w16 ⟨rfl, M16⟩
   have N16 := (N14.go0 M15 (by simp)).go0 M16 (by simp)
   have eP : ybP y.t ++ yaL y.n.toNat = ycJ y := rfl
   refine ⟨_, rfl, yaI.of0 M16, by rw [yaE, yaE, ← List.length_append, eP]; omega, ?_⟩
   rw [ybH, eP]
   refine ⟨by rw [yaE, yaE]; omega, ?_⟩
   rw [ybH]
   refine yuW (r.parts.length - (k + 1)) (by omega) ⟨k + 1, by rw [yaG (by omega) (by omega)]; omega, by omega, ?_, N16, rfl⟩
   rw [yeM, yeM, ybC hy, ← List.append_assoc]
  ·have hk : k = r.parts.length := by omega
   subst hk
   exact ⟨rfl, M13⟩
def ylP (n : Int) : List UInt8 := yaL n.toNat
def ybF (m : PMail) : List UInt8 := (yaS m).flatMap ylP ++ ybP (bs (ybJ m.calls)) ++ ybP (bs (ydF m.r))
def ybY (m : PMail) : Int := if ycD m ≠ 0 then ycD m else if (ybF m).length > 1048576 then 2 else 0
def yeJ (m : PMail) : ByteArray := bs (ycW (bs (ybF m)))
theorem ybZ {m : PMail} (h : ybY m = 0) : ycD m = 0 ∧ (ybF m).length ≤ 1048576 := by
 unfold ybY at h
 split at h
 ·rename_i g; exact absurd h g
 ·rename_i g
  split at h
  ·omega
  ·exact ⟨by simpa using g, by omega⟩
theorem yjT {xs : List PCall} (h : ycO xs = 0) : (ybJ xs).length ≤ 200000000 := by
 obtain ⟨h1, h2⟩ := yjN h
 have h3 := ydQ (f := yfV) (c := 40000) (l := xs) fun x hx => (yjM (h2 x hx).1 (h2 x hx).2).1
 have h4 := (yaN xs.length (by omega)).2
 unfold ybJ; rw [List.length_append]; omega
theorem ygJ (m : PMail) : (yaS m).length = 10 := rfl
theorem yeX {n : Int} (h : num n = true) : n.toNat < 18446744073709551616 ∧ (ylP n).length ≤ 10 := by
 have := yeT h
 exact ⟨by omega, (yaN n.toNat (by omega)).2⟩
theorem ygK {m : PMail} (h : (yaS m).all num = true) {k : Nat} {n : Int} (hn : (yaS m)[k]? = some n) : num n = true := List.all_eq_true.1 h n (List.mem_of_getElem? hn)
theorem yeY {m : PMail} (h : (yaS m).all num = true) (k : Nat) : (((yaS m).take k).flatMap ylP).length ≤ 100 := by
 have := ydQ (f := ylP) (c := 10) (l := (yaS m).take k) fun x hx => (yeX (List.all_eq_true.1 h x (List.mem_of_mem_take hx))).2
 have e : ((yaS m).take k).length ≤ 10 := by rw [List.length_take, ygJ]; omega
 omega
theorem ypG {m : PMail} (h : ycD m = 0) : (ybF m).length ≤ 300000000 := by
 obtain ⟨_, h1, h2, h3⟩ := ycL h
 have l1 := yeY h1 10
 rw [List.take_of_length_le (by rw [ygJ]; omega)] at l1
 have l2 := yjT h2
 have l3 := (RepGood.of h3).len3 m.r.parts.length
 have l3 : (ydF m.r).length ≤ 60000 := l3
 have p2 := (ya0 (bs (ybJ m.calls)) (by rw [yaE]; omega)).2
 have p3 := (ya0 (bs (ydF m.r)) (by rw [yaE]; omega)).2
 rw [yaE] at p2 p3
 unfold ybF; rw [List.length_append, List.length_append]; omega
def yhX (m : PMail) (k : Nat) : Nat := (((yaS m).take k).flatMap ylP).length
theorem yBF {m : PMail} (h : (yaS m).all num = true) {k : Nat} {n : Int} (hn : (yaS m)[k]? = some n) : yeN (ybF m) (yhX m k) = some (n.toNat, yhX m (k + 1)) := by
 have hs := yeX (ygK h hn)
 have hk := (List.getElem?_eq_some_iff.1 hn).1
 have e : yaS m = (yaS m).take k ++ n :: (yaS m).drop (k + 1) := by
  have h2 := List.drop_eq_getElem_cons hk
  have h3 : (yaS m)[k] = n := (List.getElem?_eq_some_iff.1 hn).2
  rw [h3] at h2
  rw [← h2, List.take_append_drop]
 have hd : (ybF m).drop (yhX m k) = ylP n ++ (((yaS m).drop (k + 1)).flatMap ylP ++ ybP (bs (ybJ m.calls)) ++ ybP (bs (ydF m.r))) := by
  have e2 : (yaS m).flatMap ylP = ((yaS m).take k).flatMap ylP ++ (ylP n ++ ((yaS m).drop (k + 1)).flatMap ylP) := by
   conv => lhs; rw [e]
   rw [List.flatMap_append, List.flatMap_cons]
  unfold ybF yhX
  rw [e2]
  simp only [List.append_assoc]
  rw [List.drop_left']
  rfl
 rw [ye5 (n := n.toNat) hs.1 hd]
 congr 2
 unfold yhX
 rw [ybC hn, List.length_append]; rfl
theorem yBG {m : PMail} (h : ybY m = 0) : ylD 1048576 (ybF m) (yhX m 10) = some (bs (ybJ m.calls), yhX m 10 + (ybP (bs (ybJ m.calls))).length) ∧
  ylD 1048576 (ybF m) (yhX m 10 + (ybP (bs (ybJ m.calls))).length) = some (bs (ydF m.r), (ybF m).length) := by
 obtain ⟨_, hl⟩ := ybZ h
 have e10 : yhX m 10 = ((yaS m).flatMap ylP).length := by unfold yhX; rw [List.take_of_length_le (by rw [ygJ]; omega)]
 have hd1 : (ybF m).drop (yhX m 10) = ybP (bs (ybJ m.calls)) ++ ybP (bs (ydF m.r)) := by
  rw [e10]; unfold ybF; rw [List.append_assoc, List.drop_left']; rfl
 have hd2 : (ybF m).drop (yhX m 10 + (ybP (bs (ybJ m.calls))).length) = ybP (bs (ydF m.r)) ++ [] := by
  rw [List.append_nil, yaV hd1]
 have hlen : (ybF m).length = yhX m 10 + (ybP (bs (ybJ m.calls))).length + (ybP (bs (ydF m.r))).length := by
  rw [e10]; unfold ybF; rw [List.length_append, List.length_append]
 have z1 : (bs (ybJ m.calls)).size ≤ (ybP (bs (ybJ m.calls))).length := by unfold ybP; rw [List.length_append]; simp
 have z2 : (bs (ydF m.r)).size ≤ (ybP (bs (ydF m.r))).length := by unfold ybP; rw [List.length_append]; simp
 refine ⟨yeI (by omega) (by omega) hd1, ?_⟩
 rw [yeI (by omega) (by omega) hd2, hlen]
theorem yAq {x y : PMail} (hx : ybY x = 0) (hy : ybY y = 0) (h : yeJ x = yeJ y) : ybF x = ybF y := by
 have h := yi5 h
 obtain ⟨_, l1⟩ := ybZ hx
 obtain ⟨_, l2⟩ := ybZ hy
 have c1 := ykT (lim := 1048576) (bs (ybF x)) [] (by rw [yaE]; omega) (by rw [yaE]; omega)
 have c2 := ykT (lim := 1048576) (bs (ybF y)) [] (by rw [yaE]; omega) (by rw [yaE]; omega)
 rw [h, c2] at c1
 have := (Prod.mk.inj (Option.some.inj c1)).1
 exact (yi5 this).symm
theorem yEs {x : PMail} (hx : ybY x = 0) : cg 1048576 (yeJ x).data.toList = some (bs (ybF x), (ycW (bs (ybF x))).length) := by
 obtain ⟨_, l1⟩ := ybZ hx
 have := ykT (lim := 1048576) (bs (ybF x)) [] (by rw [yaE]; omega) (by rw [yaE]; omega)
 rw [List.append_nil] at this
 rw [yeJ, ydP]; exact this
theorem yhF {α : Type} {f : α → List UInt8} {l : List α} {k : Nat} {x : α} (h : l[k]? = some x) : l.flatMap f = (l.take k).flatMap f ++ (f x ++ (l.drop (k + 1)).flatMap f) := by
 have hk := (List.getElem?_eq_some_iff.1 h).1
 have h2 := List.drop_eq_getElem_cons hk
 have h3 : l[k] = x := (List.getElem?_eq_some_iff.1 h).2
 rw [h3] at h2
 conv => lhs; rw [← List.take_append_drop k l, h2]
 rw [List.flatMap_append, List.flatMap_cons]
theorem ynW {p q l : List UInt8} (h : l = p ++ q) : l.drop p.length = q := by
 rw [h, List.drop_left']; rfl
theorem yHN {r : PRep} {k n : Nat} (h : (hdL r)[k]? = some n) : ∃ t, (ydF r).drop (yhW r k).length = yaL n ++ t :=
 ⟨_, ynW (p := yhW r k) (by unfold ydF yeM yhW; rw [yhF h]; simp only [List.append_assoc]; rfl)⟩
theorem yIv {r : PRep} {k : Nat} {y : PFound} (h : r.found[k]? = some y) : ∃ t, (ydF r).drop (ycU r k).length = yaL y.off.toNat ++ (yfR y.r ++ t) :=
 ⟨_, ynW (p := ycU r k) (by unfold ydF yeM ycU; rw [yhF h, yeS]; simp only [List.append_assoc]; rfl)⟩
theorem yHO (r : PRep) : ∃ t, (ydF r).drop (ycU r r.found.length).length = yaL r.parts.length ++ t :=
 ⟨_, ynW (p := ycU r r.found.length) (by unfold ydF yeM ycU; simp only [List.take_length, List.append_assoc]; rfl)⟩
theorem yIw {r : PRep} {k : Nat} {y : PPart} (h : r.parts[k]? = some y) : ∃ t, (ydF r).drop (yeM r k).length = ycJ y ++ t :=
 ⟨_, ynW (p := yeM r k) (by unfold ydF; rw [yeM, yeM, List.take_length, yhF h]; simp only [List.append_assoc]; rfl)⟩
theorem yAr (r : PRep) : yhW r 5 = ycU r 0 := by rw [yhW, ycU, List.take_of_length_le (by simp [hdL])]; simp
theorem yHP (r : PRep) : yeM r 0 = ycU r r.found.length ++ yaL r.parts.length := by rw [ycU, yeM, List.take_length]; simp
theorem yAs {r : PRep} {k n : Nat} (h : (hdL r)[k]? = some n) : (yhW r (k + 1)).length = (yhW r k).length + (yaL n).length := by rw [yhW, ybC h, List.length_append]; rfl
theorem yAt {r : PRep} {k : Nat} {y : PFound} (h : r.found[k]? = some y) : (ycU r (k + 1)).length = (ycU r k).length + (yaL y.off.toNat).length + (yfR y.r).length := by
 have e : ycU r (k + 1) = ycU r k ++ yeS y := by rw [ycU, ycU, ybC h, ← List.append_assoc]
 rw [e, List.length_append, yeS, List.length_append]; omega
theorem yAu {r : PRep} {k : Nat} {y : PPart} (h : r.parts[k]? = some y) : (yeM r (k + 1)).length = (yeM r k).length + (ycJ y).length := by
 rw [yeM, yeM, ybC h, ← List.append_assoc, List.length_append]
def hdI (r : PRep) : List Int := [r.e, r.off, r.n, r.gen, r.found.length]
theorem yHQ {r : PRep} (G : RepGood r) {k : Nat} {n : Int} (h : (hdI r)[k]? = some n) : num n = true ∧ (hdL r)[k]? = some n.toNat := by
 obtain ⟨n0, n1, n2, n3⟩ := G.nn
 have lf := G.lf
 have d0 := G.hd r.e.toNat (by simp [hdL])
 have d1 := G.hd r.off.toNat (by simp [hdL])
 have d2 := G.hd r.n.toNat (by simp [hdL])
 have d3 := G.hd r.gen.toNat (by simp [hdL])
 have hk := (List.getElem?_eq_some_iff.1 h).1
 simp [hdI] at hk
 match k, hk, h with
 | 0, _, h => simp [hdI] at h; subst h; exact ⟨yeW n0 d0, rfl⟩
 | 1, _, h => simp [hdI] at h; subst h; exact ⟨yeW n1 d1, rfl⟩
 | 2, _, h => simp [hdI] at h; subst h; exact ⟨yeW n2 d2, rfl⟩
 | 3, _, h => simp [hdI] at h; subst h; exact ⟨yeW n3 d3, rfl⟩
 | 4, _, h => simp [hdI] at h; subst h; exact ⟨ypF (by omega) (by omega), by simp [hdL]⟩
def ye7 (s : ByteArray) (x : PRep) : Prop := yfA x = 0 ∧ s.data.toList = ydF x
theorem ye7.eq {s : ByteArray} {x : PRep} (h : ye7 s x) : s = bs (ydF x) := by
 have := h.2; rw [← this, yoW]
theorem ye7.of {s : ByteArray} {x : PRep} (h : yfA x = 0) (hs : s = bs (ydF x)) : ye7 s x := ⟨h, by rw [hs, ydP]⟩
theorem ye7.hd {s : ByteArray} {x : PRep} (h : ye7 s x) {k : Nat} {n : Int} (hn : (hdI x)[k]? = some n) : ya8 s.data.toList (some (yhW x k).length) 0 = (some (yhW x (k + 1)).length, n) := by
 obtain ⟨h1, h2⟩ := yHQ (RepGood.of h.1) hn
 obtain ⟨t, ht⟩ := yHN h2
 rw [h.2, ybD h1 ht, yAs h2]
theorem ye7.f {s : ByteArray} {x : PRep} (h : ye7 s x) {k : Nat} {y : PFound} (hy : x.found[k]? = some y) :
  ya8 s.data.toList (some (ycU x k).length) 0 = (some ((ycU x k).length + (yaL y.off.toNat).length), y.off) ∧ yo8 s.data.toList ((ycU x k).length + (yaL y.off.toNat).length) = some (y.r, (ycU x (k + 1)).length) := by
 obtain ⟨h1, h2⟩ := (RepGood.of h.1).f y (List.mem_of_getElem? hy)
 obtain ⟨t, ht⟩ := yIv hy
 rw [h.2, ybD h1 ht]
 refine ⟨rfl, ?_⟩
 rw [ysY h2 (yaV ht), yAt hy]
theorem ye7.np {s : ByteArray} {x : PRep} (h : ye7 s x) : ya8 s.data.toList (some (ycU x x.found.length).length) 0 = (some (yeM x 0).length, ((x.parts.length : Nat) : Int)) := by
 obtain ⟨t, ht⟩ := yHO x
 have lp := (RepGood.of h.1).lp
 rw [h.2, ybD (n := (x.parts.length : Nat)) (ypF (by omega) (by omega)) (by simpa using ht), yHP, List.length_append]
 rfl
theorem ye7.p {s : ByteArray} {x : PRep} (h : ye7 s x) {k : Nat} {y : PPart} (hy : x.parts[k]? = some y) : ycK s.data.toList (some (yeM x k).length) = (some (yeM x (k + 1)).length, y) := by
 obtain ⟨h1, h2⟩ := (RepGood.of h.1).p y (List.mem_of_getElem? hy)
 have h3 := (RepGood.of h.1).lenP (List.mem_of_getElem? hy)
 obtain ⟨t, ht⟩ := yIw hy
 rw [h.2, ydD h3.2 h1 ht, yAu hy]
theorem ytK {x y : PRep} (hx : yfA x = 0) (hy : yfA y = 0) (h : ydF x = ydF y) : x = y := by
 have X : ye7 (bs (ydF x)) x := ⟨hx, ydP _⟩
 have Y : ye7 (bs (ydF x)) y := ⟨hy, by rw [ydP, h]⟩
 have hd : ∀ k, k ≤ 5 → (yhW x k).length = (yhW y k).length ∧ (hdI x).take k = (hdI y).take k := by
  intro k
  induction k with
  | zero => intro _; exact ⟨rfl, rfl⟩
  | succ k ih =>
   intro hk
   obtain ⟨i1, i2⟩ := ih (by omega)
   obtain ⟨a, ha⟩ : ∃ a, (hdI x)[k]? = some a := ⟨_, List.getElem?_eq_getElem (by simp [hdI]; omega)⟩
   obtain ⟨b, hb⟩ : ∃ b, (hdI y)[k]? = some b := ⟨_, List.getElem?_eq_getElem (by simp [hdI]; omega)⟩
   have h1 := X.hd ha
   have h2 := Y.hd hb
   rw [i1, h2] at h1
   simp only [Prod.mk.injEq, Option.some.injEq] at h1
   exact ⟨h1.1.symm, by rw [List.take_add_one, List.take_add_one, ha, hb, i2, h1.2]⟩
 obtain ⟨h5, hI⟩ := hd 5 (Nat.le_refl _)
 rw [List.take_of_length_le (by simp [hdI]), List.take_of_length_le (by simp [hdI])] at hI
 simp only [hdI, List.cons.injEq, and_true] at hI
 obtain ⟨e1, e2, e3, e4, e5⟩ := hI
 have e5 : x.found.length = y.found.length := by omega
 rw [yAr, yAr] at h5
 have hf : ∀ k, k ≤ x.found.length → (ycU x k).length = (ycU y k).length ∧ x.found.take k = y.found.take k := by
  intro k
  induction k with
  | zero => intro _; exact ⟨h5, rfl⟩
  | succ k ih =>
   intro hk
   obtain ⟨i1, i2⟩ := ih (by omega)
   obtain ⟨a, ha⟩ : ∃ a, x.found[k]? = some a := ⟨_, List.getElem?_eq_getElem (by omega)⟩
   obtain ⟨b, hb⟩ : ∃ b, y.found[k]? = some b := ⟨_, List.getElem?_eq_getElem (by omega)⟩
   obtain ⟨h1, h2⟩ := X.f ha
   obtain ⟨h3, h4⟩ := Y.f hb
   rw [i1, h3] at h1
   simp only [Prod.mk.injEq, Option.some.injEq] at h1
   rw [i1, ← h1.1, h4] at h2
   simp only [Prod.mk.injEq, Option.some.injEq] at h2
   have : a = b := by
    obtain ⟨o1, q1⟩ := a
    obtain ⟨o2, q2⟩ := b
    simp only [PFound.mk.injEq]
    exact ⟨h1.2.symm, h2.1.symm⟩
   exact ⟨h2.2.symm, by rw [List.take_add_one, List.take_add_one, ha, hb, i2, this]⟩
 obtain ⟨h6, e6⟩ := hf _ (Nat.le_refl _)
 rw [List.take_length, e5, List.take_length] at e6
 have h7 := X.np
 have h8 := Y.np
 rw [h6, e5, h8] at h7
 simp only [Prod.mk.injEq, Option.some.injEq] at h7
 have e7 : x.parts.length = y.parts.length := by omega
 have hp : ∀ k, k ≤ x.parts.length → (yeM x k).length = (yeM y k).length ∧ x.parts.take k = y.parts.take k := by
  intro k
  induction k with
  | zero => intro _; exact ⟨h7.1.symm, rfl⟩
  | succ k ih =>
   intro hk
   obtain ⟨i1, i2⟩ := ih (by omega)
   obtain ⟨a, ha⟩ : ∃ a, x.parts[k]? = some a := ⟨_, List.getElem?_eq_getElem (by omega)⟩
   obtain ⟨b, hb⟩ : ∃ b, y.parts[k]? = some b := ⟨_, List.getElem?_eq_getElem (by omega)⟩
   have h1 := X.p ha
   have h2 := Y.p hb
   rw [i1, h2] at h1
   simp only [Prod.mk.injEq, Option.some.injEq] at h1
   exact ⟨h1.1.symm, by rw [List.take_add_one, List.take_add_one, ha, hb, i2, h1.2]⟩
 obtain ⟨_, e8⟩ := hp _ (Nat.le_refl _)
 rw [List.take_length, e7, List.take_length] at e8
 obtain ⟨x1, x2, x3, x4, x5, x6⟩ := x
 obtain ⟨y1, y2, y3, y4, y5, y6⟩ := y
 simp only [PRep.mk.injEq]
 exact ⟨e1, e2, e3, e4, e6, e8⟩
end Go.Proofs.YtkbcmppbjfpjmaaGreat
