/- Part 4 of the proof of PMSpoilt. -/
import Derived.Test.YtkbcmppbjfpjmaaGreatPMSpoiltK3
namespace Go.Proofs.YtkbcmppbjfpjmaaGreat
open Go Go.RowKit
set_option linter.all false
section
set_option maxRecDepth 100000
variable {R : VWP} {w w0 : World} {m : Nat} {i0 i1 i2 i3 i4 i5 i6 i7 i8 i9 j0 j1 j2 j3 j4 j5 j6 j7 j8 j9 k0 k1 k2 k3 k4 k5 k6 k7 k8 k9 l0 l1 l2 l3 l4 l5 l6 l7 l8 l9 : Int} {s0 s1 s2 s3 s4 s5 s6 s7 s8 s9 t0 t1 t2 t3 t4 t5 t6 t7 t8 t9 : BA} {n0 n1 n2 n3 n4 n5 n6 n7 n8 n9 o0 o1 o2 o3 o4 o5 o6 o7 o8 o9 p0 p1 p2 p3 p4 p5 p6 p7 p8 p9 : Nat} {q0 q1 q2 q3 q4 q5 q6 q7 q8 q9 r0 r1 r2 r3 r4 r5 r6 r7 r8 r9 : OA} {B0 B1 B2 B3 B4 B5 B6 B7 B8 B9 : Bool} {M0 M1 M2 M3 : Option Nat} {V0 V1 V2 V3 V4 V5 : Value} {A0 A1 A2 : Addr}
theorem yHb (h :
 ∀ b1, w.heap.size ≤ b1 →
 ∀ w2, Adv [] [b1] w w2 →
 Calls pP 79 #[.string s0, .int .i64 0] w2 fun e w3 => ∃ x4 x5 x6, e = .returned (.tuple #[.int .u64 x4, .int .i64 x5, .int .i64 x6]) ∧ yaI [b1] w2 w3 ∧
 brB (x6 != 0) (
 ∀ w7, Adv [b1] [] w3 w7 →
 R (.agg (Z5 0 0 0 ByteArray.empty 0 0 0 0 0 0 none 0 0 ByteArray.empty ByteArray.empty 0 false none 0 0)) w7)
 (
 Calls pP 79 #[.string s0, .int .i64 x5] w3 fun e w8 => ∃ x9 b8 b9, e = .returned (.tuple #[.int .u64 x9, .int .i64 b8, .int .i64 b9]) ∧ yaI [b1] w3 w8 ∧
 brB (b9 != 0) (
 ∀ b6, Adv [b1] [] w8 b6 →
 R (.agg (Z5 0 0 0 ByteArray.empty 0 0 0 0 0 0 none 0 0 ByteArray.empty ByteArray.empty 0 false none 0 0)) b6)
 (
 Calls pP 78 (Z2 s0 b8 65536) w8 fun e a1 => ∃ b0 c8 c9, e = .returned (.tuple (Z2 b0 c8 c9)) ∧ yaI [b1] w8 a1 ∧
 Calls pP 131 #[.string b0] a1 fun e a2 => ∃ c0 b2 c1 c2 c3 c4 c5 c6 a3 a8 a6 b3 b4 c7 b5 a4 a9 a7 d0, e = .returned (.tuple #[(.agg (Z1 c0 b2 c1 c2 c3 c4 c5 c6 a3 a8 a6 b3 b4 c7 b5 a4 a9 a7)), .int .i64 d0]) ∧ yaI [b1] a1 a2 ∧
 ∀ a5, a2.heap.size ≤ a5 →
 ∀ b7, Adv [b1] [a5] a2 b7 →
 R (.agg (Z5 (IntKind.wrap .i64 x4) (IntKind.wrap .i64 x9) c0 b2 c1 c2 c3 c4 c5 c6 a3 a8 a6 b3 b4 c7 b5 a4 a9 a7)) b7))) :
 CR pP 111 #[.string s0] w R :=
 yaA Tryz.wide_mixed (an := []) Tryz.func111 rfl rfl (by kernel_rfl) rfl (Eq.mpr (by kernel_rfl) h)
def yq4 : LA := ⟨[0, 0, 1, 0, 1, 1, 1], [0, 4, 5, 6, 7, 8], [], 0, []⟩
def ysX : List LA := [yq4]
abbrev yHc := dnF pP ysX (code Tryz.f80)
abbrev yJb := yaP pP ysX (code Tryz.f80)
abbrev yHd (p : List Nat) (K : List Kh) (R : VWP) := yaP pP ysX (code Tryz.f80) p K (ya4 pP Tryz.f80 [] R)
def ylA (a3 : BA) (a4 : Int) : Int × Int × (Option Addr) × Nat × Nat × Int → List Value × List TB := fun (a5, a6, a0, a2, a1, a7) => ([.string a3, .int .u64 a4, .int .i64 a5, .int .i64 a6, .slice a0 a2 a1, .int .u64 a7], [])
abbrev yCj (a0 : BA) (a1 : Int) (I : Nat → Int → Int → Option Addr → Nat → Nat → Int → World → Prop) (m : Nat) : Kh := KG (ylA a0 a1) (U6 I) m
theorem yy1 {I : Nat → Int → Int → Option Addr → Nat → Nat → Int → World → Prop} (m' : Nat) (h1 : m' < m) (h2 : I m' i1 i2 q0 n0 n1 i3 w) : KS (yCj s0 i0 I m) (ylA s0 i0 (i1, i2, q0, n0, n1, i3)) w := ⟨m', h1, _, rfl, rfl, h2⟩
theorem yy2 {a3 : BA} (I : Nat → Int → Int → Option Addr → Nat → Nat → Int → World → Prop) (m0 : Nat) (h0 : I m0 i1 i2 q0 n0 n1 i3 w0)
 (hr : ∀ m a9 a4 a0 a2 a1 a6 w, I m a9 a4 a0 a2 a1 a6 w →
 brB (decide (a6 < i0)) (
 brB (a4 == 0) (
 Calls pP 41 (Z2 a3 a9 65536) w fun e w5 => ∃ s6 x7 x8, e = .returned (.tuple (Z2 s6 x7 x8)) ∧
 Calls pP 111 #[.string s6] w5 fun e w9 => ∃ c8 c9 d0 c2 d1 d2 d3 d4 d5 d6 b6 c0 b8 c3 c4 d7 c7 b7 c1 b9, e = .returned (.agg (Z5 c8 c9 d0 c2 d1 d2 d3 d4 d5 d6 b6 c0 b8 c3 c4 d7 c7 b7 c1 b9)) ∧
 al w9 (.cells (Z5 c8 c9 d0 c2 d1 d2 d3 d4 d5 d6 b6 c0 b8 c3 c4 d7 c7 b7 c1 b9) 51) fun e1 e4 =>
 ycP pP (Builtin.append_ #[22, 22] 22 #[.slice a0 a2 a1, (.slice (some ⟨e1, 0, none⟩) 1 1)]) e4 fun e0 e3 e2 e5 =>
 KS (yCj a3 i0 I m) (ylA a3 i0 (x7, x8, e0, e3, e2, (IntKind.wrap .u64 (a6 + 1)))) e5)
 (
 Calls pP 25 #[.slice a0 a2 a1] w fun e a7 => ∃ c5 d8, e = .returned (.tuple #[.string c5, .int .i64 d8]) ∧
 brB (a4 != 0) (
 R (.tuple #[.slice none 0 0, .int .i64 162]) a7)
 (
 brB (d8 != 0) (
 R (.tuple #[.slice none 0 0, .int .i64 162]) a7)
 (
 brB (!(c5.toList == a3.toList)) (
 R (.tuple #[.slice none 0 0, .int .i64 162]) a7)
 (
 R (.tuple #[.slice a0 a2 a1, .int .i64 0]) a7)))))
 (
 Calls pP 25 #[.slice a0 a2 a1] w fun e a8 => ∃ c6 d9, e = .returned (.tuple #[.string c6, .int .i64 d9]) ∧
 brB (a4 != 0) (
 R (.tuple #[.slice none 0 0, .int .i64 162]) a8)
 (
 brB (d9 != 0) (
 R (.tuple #[.slice none 0 0, .int .i64 162]) a8)
 (
 brB (!(c6.toList == a3.toList)) (
 R (.tuple #[.slice none 0 0, .int .i64 162]) a8)
 (
 R (.tuple #[.slice a0 a2 a1, .int .i64 0]) a8))))) :
 yaL yq4 (yHc 395 [0, 0, 1, 0, 1, 1, 1]) (yHd [1, 1, 1, 0, 1, 0] [] R) (ylA a3 i0 (i1, i2, q0, n0, n1, i3)) w0 :=
 lrule (ylA a3 i0) (U6 I) h0 (by rintro m ⟨a9, a4, a0, a2, a1, a6⟩ w h; exact ⟨by kernel_rfl, by kernel_rfl, fun js => Eq.mpr (by kernel_rfl) (hr m a9 a4 a0 a2 a1 a6 w h)⟩)
theorem yHe (h :
 Calls pP 79 #[.string s0, .int .i64 0] w fun e w1 => ∃ x2 x3 x4, e = .returned (.tuple #[.int .u64 x2, .int .i64 x3, .int .i64 x4]) ∧
 yaL yq4 (yHc 395 [0, 0, 1, 0, 1, 1, 1]) (yHd [1, 1, 1, 0, 1, 0] [] R) (ylA s0 x2 (x3, x4, none, 0, 0, 0)) w1) :
 CR pP 80 #[.string s0] w R :=
 yaA Tryz.wide_mixed (an := ysX) Tryz.func80 rfl rfl (by kernel_rfl) rfl (Eq.mpr (by kernel_rfl) h)
theorem yHf {c5 : BA} {b4 b5 : BA} {d5 : BA} {b8 b9 : BA} (h :
 ∀ b1, w.heap.size ≤ b1 →
 ∀ b2, w.heap.size ≤ b2 →
 brB (i0 == j0) (
 brB (i1 == j1) (
 ∀ w3, Adv [] [b2, b1] w w3 →
 Calls pP 72 #[(.agg (Z1 i2 c5 i3 i4 i5 i6 i7 i8 q0 n0 n1 b4 b5 i9 B0 q1 n2 n3)), (.agg (Z1 j2 d5 j3 j4 j5 j6 j7 j8 q2 n4 n5 b8 b9 j9 B1 q3 n6 n7))] w3 fun e w4 => ∃ t5, e = .returned (.bool t5) ∧ yaI [b1, b2] w3 w4 ∧
 R (.bool t5) w4)
 (
 ∀ w6, Adv [] [b2, b1] w w6 →
 R (.bool false) w6))
 (
 ∀ w7, Adv [] [b2, b1] w w7 →
 R (.bool false) w7)) :
 CR pP 71 #[(.agg (Z5 i0 i1 i2 c5 i3 i4 i5 i6 i7 i8 q0 n0 n1 b4 b5 i9 B0 q1 n2 n3)), (.agg (Z5 j0 j1 j2 d5 j3 j4 j5 j6 j7 j8 q2 n4 n5 b8 b9 j9 B1 q3 n6 n7))] w R :=
 yaA Tryz.wide_mixed (an := []) Tryz.func71 rfl rfl (by kernel_rfl) rfl (Eq.mpr (by kernel_rfl) h)
theorem yHg (h :
 Calls pP 70 #[.slice q0 n0 n1, .slice q1 n2 n3, (.func (.func 71) #[] #[])] w fun e w1 => ∃ t2, e = .returned (.bool t2) ∧
 R (.bool t2) w1) :
 CR pP 37 #[.slice q0 n0 n1, .slice q1 n2 n3] w R :=
 yaA Tryz.wide_mixed (an := []) Tryz.func37 rfl rfl (by kernel_rfl) rfl (Eq.mpr (by kernel_rfl) h)
def yq5 : LA := ⟨[0, 0, 1, 0, 1, 1], [1, 2, 15, 16, 17], [], 0, []⟩
def ysY : List LA := [yq5]
abbrev yHh := dnF pP ysY (code Tryz.f70)
abbrev yJc := yaP pP ysY (code Tryz.f70)
abbrev yHi (p : List Nat) (K : List Kh) (R : VWP) := yaP pP ysY (code Tryz.f70) p K (ya4 pP Tryz.f70 [] R)
def ylB (a5 : OA) (a7 a6 : Nat) (a0 : OA) (a2 a1 : Nat) (a3 : Int) : Int → List Value × List TB := fun a4 => ([.slice a5 a7 a6, (.func (.func 71) #[] #[]), .slice a0 a2 a1, .int .i64 a3, .int .i64 a4], [])
abbrev yCk (a4 : OA) (a6 a5 : Nat) (a0 : OA) (a2 a1 : Nat) (a3 : Int) (I : Nat → Int → World → Prop) (m : Nat) : Kh := KG (ylB a4 a6 a5 a0 a2 a1 a3) (U1 I) m
theorem yy3 {I : Nat → Int → World → Prop} (m' : Nat) (h1 : m' < m) (h2 : I m' i1 w) : KS (yCk q0 n0 n1 q1 n2 n3 i0 I m) (ylB q0 n0 n1 q1 n2 n3 i0 i1) w := ⟨m', h1, _, rfl, rfl, h2⟩
theorem yy4 {a7 : OA} {a3 : OA} (I : Nat → Int → World → Prop) (m0 : Nat) (h0 : I m0 i1 w0)
 (hr : ∀ m a2 w, I m a2 w →
 brB (decide (a2 < i0)) (
 ixA a3 n2 a2 16 fun q1 =>
 yaF .i64 w q1 fun x2 => yaF .i64 w (Addr.add q1 1) fun x3 => yaF .i64 w (Addr.add q1 2) fun x4 => yaO w (Addr.add q1 3) fun s5 => yaF .i64 w (Addr.add q1 4) fun x6 => yaF .i64 w (Addr.add q1 5) fun x7 => yaF .i64 w (Addr.add q1 6) fun x8 => yaF .i64 w (Addr.add q1 7) fun x9 => yaF .i64 w (Addr.add q1 8) fun d5 => yaF .i64 w (Addr.add q1 9) fun d6 => yaS w (Addr.add q1 10) fun b6 c4 c0 => yaO w (Addr.add q1 11) fun c8 => yaO w (Addr.add q1 12) fun c9 => yaF .i64 w (Addr.add q1 13) fun d7 => yaT w (Addr.add q1 14) fun d3 => yaS w (Addr.add q1 15) fun b7 c5 c1 =>
 ∀ b1, w.heap.size ≤ b1 →
 ixA a7 n0 a2 16 fun a1 =>
 ∀ a0, Adv [] [b1] w a0 →
 yaF .i64 a0 a1 fun d8 => yaF .i64 a0 (Addr.add a1 1) fun d9 => yaF .i64 a0 (Addr.add a1 2) fun e0 => yaO a0 (Addr.add a1 3) fun d0 => yaF .i64 a0 (Addr.add a1 4) fun e1 => yaF .i64 a0 (Addr.add a1 5) fun e2 => yaF .i64 a0 (Addr.add a1 6) fun e3 => yaF .i64 a0 (Addr.add a1 7) fun e4 => yaF .i64 a0 (Addr.add a1 8) fun e5 => yaF .i64 a0 (Addr.add a1 9) fun e6 => yaS a0 (Addr.add a1 10) fun b8 c6 c2 => yaO a0 (Addr.add a1 11) fun d1 => yaO a0 (Addr.add a1 12) fun d2 => yaF .i64 a0 (Addr.add a1 13) fun e7 => yaT a0 (Addr.add a1 14) fun d4 => yaS a0 (Addr.add a1 15) fun b9 c7 c3 =>
 ∀ b2, a0.heap.size ≤ b2 →
 ∀ b3, Adv [] [b2] a0 b3 →
 Calls pP 71 #[(.agg (Z5 x2 x3 x4 s5 x6 x7 x8 x9 d5 d6 b6 c4 c0 c8 c9 d7 d3 b7 c5 c1)), (.agg (Z5 d8 d9 e0 d0 e1 e2 e3 e4 e5 e6 b8 c6 c2 d1 d2 e7 d4 b9 c7 c3))] b3 fun e b4 => ∃ b5, e = .returned (.bool b5) ∧ yaI [b1, b2] b3 b4 ∧
 brB (!b5) (
 R (.bool false) b4)
 (
 KS (yCk a7 n0 n1 a3 n2 n3 i0 I m) (ylB a7 n0 n1 a3 n2 n3 i0 (IntKind.wrap .i64 (a2 + 1))) b4))
 (
 R (.bool true) w)) :
 yaL yq5 (yHh 396 [0, 0, 1, 0, 1, 1]) (yHi [1, 1, 0, 1, 0] [] R) (ylB a7 n0 n1 a3 n2 n3 i0 i1) w0 :=
 lrule (ylB a7 n0 n1 a3 n2 n3 i0) (U1 I) h0 (by rintro m a2 w h; exact ⟨by kernel_rfl, by kernel_rfl, fun js => Eq.mpr (by kernel_rfl) (hr m a2 w h)⟩)
theorem yHj (h :
 brB ((n0 : Int) != (n2 : Int)) (
 R (.bool false) w)
 (
 yaL yq5 (yHh 396 [0, 0, 1, 0, 1, 1]) (yHi [1, 1, 0, 1, 0] [] R) (ylB q1 n2 n3 q0 n0 n1 (n0 : Int) 0) w)) :
 CR pP 70 #[.slice q0 n0 n1, .slice q1 n2 n3, (.func (.func 71) #[] #[])] w R :=
 yaA Tryz.wide_mixed (an := ysY) Tryz.func70 rfl rfl (by kernel_rfl) rfl (Eq.mpr (by kernel_rfl) h)
end
end Go.Proofs.YtkbcmppbjfpjmaaGreat
namespace Go.Proofs.YtkbcmppbjfpjmaaGreat
open Go Go.RowKit Go.Shelf
set_option linter.unusedVariables false
set_option linter.unusedSimpArgs false
def yAq (n : Int) : Bool := decide (n < 1 ∨ n > 1099511627776)
theorem yy5 (n : Int) (w : World) : Calls pP 89 #[.int .i64 n] w fun e w' => e = .returned (.bool (yAq n)) ∧ w' = w := by
 refine yaQ (yGp ?_)
 refine yaC (fun h => ⟨?_, rfl⟩) fun h => ⟨?_, rfl⟩
 ·congr 1; symm; simp [yAq]; omega
 ·congr 1; rw [yAq]; congr 1; apply propext; omega
set_option maxRecDepth 100000 in
set_option maxHeartbeats 2000000 in
theorem yBa {w : World} {b1 : Nat} {T : TypeId} (h : w.heap[b1]? = some (.cells #[.func (.func 89) #[] #[]] T)) (c n : Int) (v2 v3 v4 v5 v6 v7 v8 v9 v10 v11 v12 v13 v14 v15 : Value) :
  Calls pP 91 #[.agg #[.int .i64 c, .int .i64 n, v2, v3, v4, v5, v6, v7, v8, v9, v10, v11, v12, v13, v14, v15], .pointer (some ⟨b1, 0, none⟩)] w fun e w' => e = .returned (.bool (yAq c || yAq n)) ∧ Mod [] w w' := by
 have mixed := Tryz.wide_mixed
 have hM : Mod [] w (w.alloc (.cells #[.int .i64 c, .int .i64 n, v2, v3, v4, v5, v6, v7, v8, v9, v10, v11, v12, v13, v14, v15] 51)) := Mod.of_below ((Below.refl _ _).alloc (Nat.le_refl _) _)
 have hN := World.alloc_heap_new w (.cells #[.int .i64 c, .int .i64 n, v2, v3, v4, v5, v6, v7, v8, v9, v10, v11, v12, v13, v14, v15] 51)
 have c0 : (w.alloc (.cells #[.int .i64 c, .int .i64 n, v2, v3, v4, v5, v6, v7, v8, v9, v10, v11, v12, v13, v14, v15] 51)).cell? ⟨b1, 0, none⟩ = some (.func (.func 89) #[] #[]) := by rw [yaY (hM.keep0 h)]; rfl
 have c1 : (w.alloc (.cells #[.int .i64 c, .int .i64 n, v2, v3, v4, v5, v6, v7, v8, v9, v10, v11, v12, v13, v14, v15] 51)).cell? ⟨w.heap.size, 0, none⟩ = some (.int .i64 c) := by rw [yaY hN]; rfl
 have c2 : (w.alloc (.cells #[.int .i64 c, .int .i64 n, v2, v3, v4, v5, v6, v7, v8, v9, v10, v11, v12, v13, v14, v15] 51)).cell? ⟨w.heap.size, 1, none⟩ = some (.int .i64 n) := by rw [yaY hN]; rfl
 go_enter Tryz.func91, Tryz.ntmps91
 go_wp2_with fail
 refine (yy5 _ _).mono ?_
 rintro _ w' ⟨rfl, rfl⟩
 cases hc : yAq c with
 | true =>
  go_wp2
  go_ret
  exact ⟨by rw [hc]; rfl, hM⟩
 | false =>
  go_wp2_with fail
  refine (yy5 _ _).mono ?_
  rintro _ w' ⟨rfl, rfl⟩
  go_wp2
  go_ret
  exact ⟨by rw [hc]; rfl, hM⟩
def ymM (x : PCall) : Bool := yAq x.c || yAq x.n
def yfH (xs : List PCall) : Int := if xs.any ymM then 1 else match xs.find? fun x => opE x.op ≠ 0 with
 | none => 0
 | some x => opE x.op
structure CsAt (w : World) (s : Sl) (ll : List CV) : Prop where
 sl : ybW w 16 CV.cs s.a s.n ll
 op : ∀ q ∈ ll, OpAt w q.x.op q.rs q.ts
theorem yDr {w : World} {b1 : Nat} {T : TypeId} (h : w.heap[b1]? = some (.cells #[.func (.func 89) #[] #[]] T)) (q : CV) :
 Calls pP 91 #[q.v, .pointer (some ⟨b1, 0, none⟩)] w fun e w' => e = .returned (.bool (ymM q.x)) ∧ Mod [] w w' := yBa h _ _ _ _ _ _ _ _ _ _ _ _ _ _ _ _
theorem yBb {α : Type} {p : α → Bool} {l : List α} {k : Nat} {x : α} (h : l[k]? = some x) : (l.take (k + 1)).any p = ((l.take k).any p || p x) := by
 rw [List.take_add_one, h]; simp
theorem yo0 {w : World} {b1 : Nat} {s : Sl} {ll : List CV} (h : w.heap[b1]? = some (.cells #[.func (.func 89) #[] #[]] 78)) (hs : ybW w 16 CV.cs s.a s.n ll) (hl : ll.length ≤ 1000000) :
  Calls pP 117 #[.slice s.a s.n s.c, .func (.func 91) #[] #[.pointer (some ⟨b1, 0, none⟩)]] w fun e w' => ∃ v, e = .returned v ∧ ∃ x : Int, v = .int .i64 x ∧ (decide (x ≥ 0) = ll.any fun q => ymM q.x) ∧ Mod [] w w' := by
 have hn := hs.1
 refine yGt ?_
 refine yyC (fun mm x w' => ∃ k : Nat, x = k ∧ k ≤ ll.length ∧ Mod [] w w' ∧ ((ll.take k).any fun q => ymM q.x) = false ∧ mm = ll.length - k) ll.length ⟨0, rfl, by omega, Mod.refl _, by simp, rfl⟩ ?_
 rintro mm x w' ⟨k, rfl, hk, M, ha, rfl⟩
 refine yaC (fun hlt => ?_) fun hge => ?_
 ·obtain ⟨q, hq⟩ : ∃ q, ll[k]? = some q := ⟨_, List.getElem?_eq_getElem (by omega)⟩
  refine (hs.keep0 M).ix hq fun ad had => yjA had ?_
  refine (yDr (M.keep0 h) q).mono ?_
  rintro _ w2 ⟨rfl, M2⟩
  have e1 := yBb (p := fun q : CV => ymM q.x) hq
  rw [ha, Bool.false_or] at e1
  refine ⟨_, rfl, yaB (fun g => ?_) fun g => ?_⟩
  ·refine ⟨k, rfl, ?_, M.go0 M2 (by simp)⟩
   have h1 : (ll.any fun q => ymM q.x) = true := List.any_eq_true.2 ⟨q, List.mem_of_getElem? hq, g⟩
   rw [h1]; simp
  ·exact yyB (ll.length - (k + 1)) (by omega) ⟨k + 1, by rw [yaG (by omega) (by omega)]; omega, by omega, M.go0 M2 (by simp), by rw [e1]; exact g, rfl⟩
 ·have hk : k = ll.length := by omega
  subst hk
  rw [List.take_length] at ha
  exact ⟨-1, rfl, by rw [ha]; rfl, M⟩
theorem yjB {w : World} {b1 : Nat} {s : Sl} {ll : List CV} (h : w.heap[b1]? = some (.cells #[.func (.func 89) #[] #[]] 78)) (hs : ybW w 16 CV.cs s.a s.n ll) (hl : ll.length ≤ 1000000) :
  Calls pP 90 #[.slice s.a s.n s.c, .func (.func 91) #[] #[.pointer (some ⟨b1, 0, none⟩)]] w fun e w' => e = .returned (.bool (ll.any fun q => ymM q.x)) ∧ Mod [] w w' := by
 refine yaQ (yGq ?_)
 refine (yo0 h hs hl).mono ?_
 rintro _ w1 ⟨_, rfl, x, rfl, hx, M⟩
 exact ⟨_, rfl, by rw [← hx], M⟩
theorem yy6 {l : List CV} {k : Nat} (h : ∀ q ∈ l.take k, opE q.x.op = 0) {q : CV} (hq : l[k]? = some q) (he : opE q.x.op ≠ 0) : (l.map (·.x)).find? (fun x => opE x.op ≠ 0) = some q.x := by
 have hk := (List.getElem?_eq_some_iff.1 hq).1
 have e : l = l.take k ++ q :: l.drop (k + 1) := by
  rw [← (List.getElem?_eq_some_iff.1 hq).2, ← List.drop_eq_getElem_cons hk, List.take_append_drop]
 rw [e, List.map_append, List.find?_append]
 have h0 : ((l.take k).map (·.x)).find? (fun x => opE x.op ≠ 0) = none := by
  rw [List.find?_eq_none]
  intro x hx
  obtain ⟨q', hq', rfl⟩ := List.mem_map.1 hx
  simpa using h q' hq'
 rw [h0]
 simp [he]
theorem yuC {w : World} {s : Sl} {ll : List CV} (h : CsAt w s ll) (hl : ll.length ≤ 1000000) :
  Calls pP 55 #[.slice s.a s.n s.c] w fun e w' => e = .returned (.int .i64 (yfH (ll.map (·.x)))) ∧ Mod [] w w' := by
 have hn := h.sl.1
 refine yaQ (yGo ?_)
 intro b1 f1 w2 A2 h2
 refine (yjB h2 (h.sl.keep0 A2.mod) hl).mono ?_
 rintro _ w3 ⟨rfl, M3⟩
 have N3 := A2.mod.go0 M3 (by simp)
 have ea : ((ll.map (·.x)).any ymM) = ll.any fun q => ymM q.x := by rw [List.any_map]; rfl
 refine ⟨_, rfl, _, M3.keep0 h2, yaB (fun g => ?_) fun g => ?_⟩
 ·refine ⟨?_, N3⟩
  rw [yfH, ea, g]; rfl
 have hE : yfH (ll.map (·.x)) = match (ll.map (·.x)).find? fun x => opE x.op ≠ 0 with
   | none => 0
   | some x => opE x.op := by rw [yfH, ea, g]; rfl
 refine yyA (fun mm x v w' => ∃ k : Nat, x = k ∧ k ≤ ll.length ∧ Mod [] w w' ∧ b1 < w'.heap.size ∧ (∀ q ∈ ll.take k, opE q.x.op = 0) ∧ mm = ll.length - k) ll.length ⟨0, rfl, by omega, N3, yaV (M3.keep0 h2), by simp, rfl⟩ ?_
 rintro mm x v w4 ⟨k, rfl, hk, M4, lb, hz, rfl⟩ h4
 refine yaC (fun hlt => ?_) fun hge => ?_
 ·obtain ⟨q, hq⟩ : ∃ q, ll[k]? = some q := ⟨_, List.getElem?_eq_getElem (by omega)⟩
  refine (h.sl.keep0 M4).ix hq fun ad had => yjA had ?_
  intro b5 f5 w5 A5 h5
  have l5 := A5.lt b5 (by simp)
  have s5 := A5.mod.size
  have N5 := M4.go0 A5.mod (by simp)
  refine (ysE ((h.op q (List.mem_of_getElem? hq)).keep0 N5)).mono ?_
  rintro _ w6 ⟨rfl, M6⟩
  have N6 := N5.go0 M6 (by simp)
  have s6 := M6.size
  refine ⟨_, rfl, yaI.of0 M6, _, M6.keep0 h5, yaB (fun g2 => ?_) fun g2 => ?_⟩
  ·have g2 : opE q.x.op ≠ 0 := by simpa using g2
   refine ⟨?_, N6⟩
   rw [hE, yy6 hz hq g2]
  ·have g2 : opE q.x.op = 0 := by simpa using g2
   refine yx9 (ll.length - (k + 1)) (by omega) ⟨k + 1, by rw [yaG (by omega) (by omega)]; omega, by omega, N6, by omega, ?_, rfl⟩
   intro q' hq'
   rw [List.take_add_one, hq] at hq'
   simp at hq'
   rcases hq' with hq' | rfl
   ·exact hz q' hq'
   ·exact g2
 ·have hk : k = ll.length := by omega
  subst hk
  rw [List.take_length] at hz
  refine ⟨?_, M4⟩
  rw [hE]
  have : (ll.map (·.x)).find? (fun x => opE x.op ≠ 0) = none := by
   rw [List.find?_eq_none]
   intro x hx
   obtain ⟨q', hq', rfl⟩ := List.mem_map.1 hx
   simpa using hz q' hq'
  rw [this]
theorem yo1 {xs : List PCall} : yfH xs = 0 ↔ ∀ x ∈ xs, ymM x = false ∧ opE x.op = 0 := by
 unfold yfH
 constructor
 ·intro h
  split at h
  ·omega
  ·rename_i ha
   split at h
   ·rename_i hf
    intro x hx
    refine ⟨?_, ?_⟩
    ·cases ho : ymM x with
     | false => rfl
     | true => exact absurd (List.any_eq_true.2 ⟨x, hx, ho⟩) ha
    ·have := List.find?_eq_none.1 hf x hx
     simpa using this
   ·rename_i x hf
    have := List.find?_some hf
    simp [h] at this
 ·intro h
  rw [if_neg]
  ·have : xs.find? (fun x => opE x.op ≠ 0) = none := by
    rw [List.find?_eq_none]
    intro x hx
    simpa using (h x hx).2
   rw [this]
  ·intro ha
   obtain ⟨x, hx, ho⟩ := List.any_eq_true.1 ha
   rw [(h x hx).1] at ho; cases ho
end Go.Proofs.YtkbcmppbjfpjmaaGreat
namespace Go.Proofs.YtkbcmppbjfpjmaaGreat
open Go Go.RowKit
set_option linter.all false
theorem yq6 {o : POp} (G : OpGood o) : (opB o).length ≤ 30000 := by
 obtain ⟨hk, ⟨n1, n2, n3, n4⟩, hT, hG, hMm, hL, hb, ho⟩ := G
 have hT := fun h => (ycW (hT h)).1
 have hG := fun h => (ycW (hG h)).1
 have hMm := fun h => (ycW (hMm h)).1
 have nl : ∀ {x : Int}, num x = true → (yaK x.toNat).length ≤ 10 := fun {x} h => by
  have := yeV h
  exact (yaN x.toNat (by omega)).2
 have tl : ∀ {s : ByteArray}, s.size ≤ 16 → (ya7 s).length ≤ 26 := fun {s} h => by have := (yaZ s (by omega)).2; omega
 obtain ⟨kd, pt, n, off, b, g, m, gen, robin, topics⟩ := o
 simp only at hk hT hG hMm hL hb n1 n2 n3 n4
 have hkn := nl (x := kd) (by simp [num]; omega)
 have l1 := nl n1
 have l2 := nl n2
 have l3 := nl n3
 have l4 := nl n4
 have hk : kd = 0 ∨ kd = 1 ∨ kd = 2 ∨ kd = 3 ∨ kd = 4 ∨ kd = 5 ∨ kd = 6 ∨ kd = 7 ∨ kd = 8 ∨ kd = 9 ∨ kd = 10 ∨ kd = 11 ∨ kd = 12 := by omega
 unfold opB
 rw [List.length_append]
 rcases hk with rfl | rfl | rfl | rfl | rfl | rfl | rfl | rfl | rfl | rfl | rfl | rfl | rfl
 ·have := tl (hT rfl); simp [ya8] at *; omega
 ·simp [ya8] at *; omega
 ·have := tl (hT rfl); have := (BatGood.of (hb rfl)).len; simp [ya8, ycM] at *; omega
 ·have := tl (hT rfl); simp [ya8, ycM] at *; omega
 ·have := tl (hT rfl); simp [ya8, ycM] at *; omega
 ·have := tl (hT rfl); simp [ya8, ycM] at *; omega
 ·have h1 := tl (hG rfl)
  have h2 := tl (hMm rfl)
  have hL := hL rfl
  simp only [ydZ, Bool.and_eq_true, decide_eq_true_eq] at hL
  obtain ⟨⟨⟨l1', l2'⟩, l3'⟩, _⟩ := hL
  have h3 : (yhH topics).length ≤ 10 + 8 * 26 := by
   have e1 := ydC (f := ya7) (c := 26) (l := topics) fun s hs => tl (ycW (List.all_eq_true.1 l3' s hs)).1
   have e2 := (yaN topics.length (by omega)).2
   have e3 : topics.length * 26 ≤ 8 * 26 := Nat.mul_le_mul_right _ l2'
   unfold yhH; rw [List.length_append]; omega
  have h4 : (yaK (yi4 robin)).length ≤ 10 := (yaN _ (by cases robin <;> decide)).2
  simp only [ya8, List.length_append, if_neg (show ¬ (6 : Int) = 0 by decide), if_neg (show ¬ (6 : Int) = 1 by decide), if_neg (show ¬ (6 : Int) = 2 by decide), if_neg (show ¬ (6 : Int) = 3 by decide), if_neg (show ¬ (6 : Int) = 4 by decide), if_neg (show ¬ (6 : Int) = 5 by decide), if_pos]
  omega
 iterate 3
  ·have h1 := tl (hG rfl)
   have h2 := tl (hMm rfl)
   simp [ya8] at *; omega
 ·have h1 := tl (hG rfl)
  have h2 := tl (hMm rfl)
  have := tl (hT rfl)
  simp [ya8, ycM] at *; omega
 ·have h1 := tl (hG rfl)
  have := tl (hT rfl)
  simp [ya8, ycM] at *; omega
 ·simp [ya8] at *; omega
def ygE (x : PCall) : List UInt8 := yaK x.c.toNat ++ yaK x.n.toNat ++ ya7 (bs (opB x.op))
def yfB (x : PCall) : List UInt8 := ya5 (bs (ygE x))
def ybI (xs : List PCall) : List UInt8 := yaK xs.length ++ xs.flatMap yfB
def ycQ (xs : List PCall) : Int := if xs.length > 4096 then 2 else yfH xs
theorem ysZ {n : Int} (h : yAq n = false) : 1 ≤ n ∧ n ≤ 1099511627776 := by
 simp [yAq] at h; omega
theorem ymN {x : PCall} (h : ymM x = false) : (1 ≤ x.c ∧ x.c ≤ 1099511627776) ∧ 1 ≤ x.n ∧ x.n ≤ 1099511627776 := by
 simp [ymM] at h
 exact ⟨ysZ h.1, ysZ h.2⟩
theorem yjC {x : PCall} (h : ymM x = false) (ho : opE x.op = 0) : (ygE x).length ≤ 30040 := by
 have h1 := ymN h
 have h2 := yq6 (OpGood.of ho)
 have e1 := (yaN x.c.toNat (by omega)).2
 have e2 := (yaN x.n.toNat (by omega)).2
 have e3 := (yaZ (bs (opB x.op)) (by rw [yaD]; omega)).2
 rw [yaD] at e3
 unfold ygE
 rw [List.length_append, List.length_append]
 omega
theorem ygF {x : PCall} (h : ymM x = false) (ho : opE x.op = 0) : (yfB x).length ≤ 40000 ∧ 1 ≤ (yfB x).length := by
 have h1 := yjC h ho
 have e3 := yaZ (bs (ygE x)) (by rw [yaD]; omega)
 rw [yaD] at e3
 unfold yfB
 rw [yc2]
 omega
set_option maxHeartbeats 1000000 in
theorem yq7 {w : World} {s : Sl} {ll : List CV} (h : CsAt w s ll) (hl : ll.length ≤ 1000000) :
  Calls pP 25 #[.slice s.a s.n s.c] w fun e w' => e = .returned (.tuple #[.string (if ycQ (ll.map (·.x)) = 0 then bs (ybI (ll.map (·.x))) else bs []), .int .i64 (ycQ (ll.map (·.x)))]) ∧ Mod [] w w' := by
 have hn := h.sl.1
 have el : (ll.map (·.x)).length = ll.length := by simp
 refine yaQ (yGl ?_)
 refine yaC (fun g => ?_) fun g => ?_
 ·have e : ycQ (ll.map (·.x)) = 2 := by rw [ycQ, if_pos (by rw [el]; omega)]
  rw [e]; exact ⟨rfl, Mod.refl _⟩
 have e : ycQ (ll.map (·.x)) = yfH (ll.map (·.x)) := by rw [ycQ, if_neg (by rw [el]; omega)]
 refine (yuC h hl).mono ?_
 rintro _ w1 ⟨rfl, M1⟩
 have s1 := M1.size
 refine ⟨_, rfl, yaB (fun g2 => ?_) fun g2 => ?_⟩
 ·have g2 : yfH (ll.map (·.x)) ≠ 0 := by simpa using g2
  rw [e, if_neg g2]; exact ⟨rfl, M1⟩
 have g2 : yfH (ll.map (·.x)) = 0 := by simpa using g2
 have good : ∀ q ∈ ll, ymM q.x = false ∧ opE q.x.op = 0 := fun q hq => yo1.1 g2 q.x (List.mem_map.2 ⟨q, hq, rfl⟩)
 rw [e, if_pos g2, g2]
 intro b3 f3 w4 A4
 have l4 := A4.lt b3 (by simp)
 have s4 := A4.mod.size
 rw [ygC (by omega)]
 refine (yiR s.n (by omega) w4).mono ?_
 rintro _ w5 ⟨rfl, M5⟩
 refine ⟨_, rfl, yaI.of0 M5, ?_⟩
 intro w7 A7 h7
 have s5 := M5.size
 have s7 := A7.mod.size
 have N7 : Mod [] w w7 := ((M1.go0 A4.mod (by simp)).go0 M5 (by simp)).go0 A7.mod (by simp)
 have v0 := yaN s.n (by omega)
 refine (yyJ (B := w1.heap.size) (Sb.fresh f3 h7) (l2 := yaK s.n) (by rw [List.length_nil]; omega) (by omega)).mono ?_
 rintro _ w8 ⟨rfl, hB8, W8⟩
 obtain ⟨p8, a8, n8, c8, hc8⟩ := Sb.cells hB8
 refine ⟨_, _, rfl, p8, a8, n8, c8, hc8, ?_⟩
 have modW : ∀ {w'}, Wr w1.heap.size b3 w7 w' → Mod [] w w' := fun W => W.mod N7 s1
 refine yx8 (fun mm x p0 a0 n0 c0 w' => ∃ k : Nat, x = k ∧ k ≤ ll.length ∧ Sb w1.heap.size b3 (yaK s.n ++ (ll.take k).flatMap fun q => yfB q.x) w' ∧ Wr w1.heap.size b3 w7 w' ∧ mm = ll.length - k) ll.length ⟨0, rfl, by omega, by simpa using hB8, W8, rfl⟩ ?_
 rintro mm x p0 a0 n0 c0 w9 ⟨k, rfl, hk, hB9, W9, rfl⟩ h9
 have s9 := W9.bel.size
 have N9 := modW W9
 refine yaC (fun hlt => ?_) fun hge => ?_
 ·obtain ⟨q, hq⟩ : ∃ q, ll[k]? = some q := ⟨_, List.getElem?_eq_getElem (by omega)⟩
  obtain ⟨gq1, gq2⟩ := good q (List.mem_of_getElem? hq)
  have hodd := ymN gq1
  refine (h.sl.keep0 N9).ix hq fun ad had => yjA had ?_
  intro b10 f10 w10 A10 h10
  have l10 := A10.lt b10 (by simp)
  have s10 := A10.mod.size
  have N10 := N9.go0 A10.mod (by simp)
  refine (yyY (o := q.x.op) ((h.op q (List.mem_of_getElem? hq)).keep0 N10)).mono ?_
  rintro _ w11 ⟨rfl, M11, hlen⟩
  rw [if_pos gq2]
  have s11 := M11.size
  refine ⟨_, _, rfl, yaI.of0 M11, _, _, _, _, M11.keep0 h10, ?_⟩
  intro w12 A12 h12
  have s12 := A12.mod.size
  obtain ⟨cN, hcN⟩ := Int.eq_ofNat_of_zero_le (show 0 ≤ q.x.c by omega)
  obtain ⟨nN, hnN⟩ := Int.eq_ofNat_of_zero_le (show 0 ≤ q.x.n by omega)
  rw [hcN, hnN, ygC (by omega), ygC (by omega)]
  refine (yiR cN (by omega) w12).mono ?_
  rintro _ w13 ⟨rfl, M13⟩
  have s13 := M13.size
  refine ⟨_, rfl, yaI.of0 M13, _, _, _, _, M13.keep0 h12, rfl, ?_⟩
  refine (yiR nN (by omega) w13).mono ?_
  rintro _ w14 ⟨rfl, M14⟩
  have s14 := M14.size
  refine ⟨_, rfl, yaI.of0 M14, _, _, _, _, M14.keep0 (M13.keep0 h12), ?_⟩
  have lc := yaN cN (by omega)
  have ln := yaN nN (by omega)
  have lo := yq6 (OpGood.of gq2)
  refine ⟨by show (bs (yaK cN)).size + (bs (yaK nN)).size ≤ _; rw [yaD, yaD]; omega, ?_⟩
  have e1 : yAE cN ++ yAE nN = bs (yaK cN ++ yaK nN) := ybB _ _
  rw [e1]
  refine (yb9 (bs (opB q.x.op)) (by rw [yaD]; omega) w14).mono ?_
  rintro _ w15 ⟨rfl, M15⟩
  have s15 := M15.size
  refine ⟨_, rfl, yaI.of0 M15, _, _, _, _, M15.keep0 (M14.keep0 (M13.keep0 h12)), ?_⟩
  have lp := (yaZ (bs (opB q.x.op)) (by rw [yaD]; omega)).2
  rw [yaD] at lp
  refine ⟨by rw [yaD, yaD, List.length_append]; omega, ?_⟩
  have e2 : bs (yaK cN ++ yaK nN) ++ bs (ya7 (bs (opB q.x.op))) = bs (ygE q.x) := by
   rw [ybB]; unfold ygE; rw [hcN, hnN]; rfl
  rw [e2]
  have lr := yjC gq1 gq2
  refine (yr3 (bs (ygE q.x)) (by rw [yaD]; omega) w15).mono ?_
  rintro _ w16 ⟨rfl, M16⟩
  have s16 := M16.size
  have K : Mod [] w9 w16 := ((((A10.mod.go0 M11 (by simp)).go0 A12.mod (by simp)).go0 M13 (by simp)).go0 M14 (by simp)).go0 (M15.go0 M16 (by simp)) (by simp)
  have hB16 := hB9.keep0 K
  obtain ⟨p16, a16, n16, c16, hc16⟩ := Sb.cells hB16
  refine ⟨_, rfl, yaI.of0 M16, p16, a16, n16, c16, hc16, ?_⟩
  have hlt2 : (yaK s.n ++ (ll.take k).flatMap fun q => yfB q.x).length ≤ 10 + 4096 * 40000 := by
   have e1 := ydC (f := fun q : CV => yfB q.x) (c := 40000) (l := ll.take k) fun q hq => (ygF (good q (List.mem_of_mem_take hq)).1 (good q (List.mem_of_mem_take hq)).2).1
   have e3 : (ll.take k).length * 40000 ≤ 4096 * 40000 := Nat.mul_le_mul_right _ (by rw [List.length_take]; omega)
   rw [List.length_append]; omega
  have lcb := ygF gq1 gq2
  refine (yyJ (l2 := yfB q.x) hB16 (by omega) (by omega)).mono ?_
  rintro _ w17 ⟨rfl, hB17, W17⟩
  obtain ⟨p17, a17, n17, c17, hc17⟩ := Sb.cells hB17
  refine ⟨_, _, rfl, W17.keepE fun k hk he => ?_, p17, a17, n17, c17, hc17, ?_⟩
  ·simp at hk he
   subst hk
   exact ⟨he, .inr ⟨_, by simp; rfl, by decide⟩⟩
  refine yx7 (ll.length - (k + 1)) (by omega) ⟨k + 1, by rw [yaG (by omega) (by omega)]; omega, by omega, ?_, (W9.trans (Wr.of0 K (by omega))).trans W17, rfl⟩
  rw [ybF hq, ← List.append_assoc]
  exact hB17
 ·have hk : k = ll.length := by omega
  subst hk
  rw [List.take_length] at hB9
  have et : (yaK s.n ++ ll.flatMap fun q => yfB q.x) = ybI (ll.map (·.x)) := by
   unfold ybI; rw [el, hn, List.flatMap_map]
  rw [et] at hB9
  refine (yDd hB9 (by intro h0; have := congrArg List.length h0; rw [← et, List.length_append] at this; simp only [List.length_nil] at this; omega)).mono ?_
  rintro _ w10 ⟨rfl, hB10, W10⟩
  obtain ⟨p10, a10, n10, c10, hc10⟩ := Sb.cells hB10
  exact ⟨_, rfl, p10, a10, n10, c10, hc10, rfl, modW (W9.trans W10)⟩
def yBc : PCall := ⟨0, 0, op0⟩
def yjZ (l : List UInt8) (b : Nat) : ByteArray := match yk5 65536 l b with
 | some p => p.1
 | none => ⟨#[]⟩
def yfC (s : ByteArray) : PCall := match yeO s.data.toList 0 with
 | none => yBc
 | some p => match yeO s.data.toList p.2 with
  | none => yBc
  | some q => ⟨IntKind.wrap .i64 (p.1 : Nat), IntKind.wrap .i64 (q.1 : Nat), (yy0 (yjZ s.data.toList q.2)).getD op0⟩
theorem yy7 {x : PCall} (h : ymM x = false) (ho : opE x.op = 0) : yfC (bs (ygE x)) = x := by
 have h1 := ymN h
 have h2 := yq6 (OpGood.of ho)
 have e0 : (bs (ygE x)).data.toList = yaK x.c.toNat ++ (yaK x.n.toNat ++ (ya7 (bs (opB x.op)) ++ [])) := by rw [ycE]; simp [ygE]
 have t1 := ye4 (l := (bs (ygE x)).data.toList) (a := 0) (n := x.c.toNat) (by omega) (by rw [List.drop_zero]; exact e0)
 have d1 := yaU (l := (bs (ygE x)).data.toList) (a := 0) (x := yaK x.c.toNat) (by rw [List.drop_zero]; exact e0)
 have t2 := ye4 (n := x.n.toNat) (by omega) d1
 have t3 := yeK (lim := 65536) (s := bs (opB x.op)) (by rw [yaD]; omega) (by rw [yaD]; omega) (yaU d1)
 unfold yfC yjZ
 rw [t1]
 dsimp only
 rw [t2]
 dsimp only
 rw [t3]
 dsimp only
 rw [yA9 ho]
 have e1 : IntKind.wrap .i64 ((x.c.toNat : Nat) : Int) = x.c := by rw [yaG (by omega) (by omega)]; omega
 have e2 : IntKind.wrap .i64 ((x.n.toNat : Nat) : Int) = x.n := by rw [yaG (by omega) (by omega)]; omega
 rw [e1, e2]; rfl
theorem yBd {s : ByteArray} (hs : s.size ≤ 1000000) (w : World) :
  Calls pP 111 #[.string s] w fun e w' => ∃ v, e = .returned v ∧ ∃ rs ts : Sl, v = (⟨yfC s, rs, ts⟩ : CV).v ∧ OpOwn w' w.heap.size (yfC s).op rs ts ∧ Mod [] w w' := by
 refine yHb ?_
 intro b1 f1 w2 A2
 have l1 := A2.lt b1 (by simp)
 have s2 := A2.mod.size
 have bad : ∀ {w3}, yfC s = yBc → Mod [] w w3 → ∃ rs ts : Sl, (⟨yBc, ybM, ybM⟩ : CV).v = (⟨yfC s, rs, ts⟩ : CV).v ∧ OpOwn w3 w.heap.size (yfC s).op rs ts ∧ Mod [] w w3 := fun {w3} e M => by
  rw [e]
  exact ⟨ybM, ybM, rfl, yp9 .., M⟩
 refine (yfR s 0 (by omega) (by omega) w2).mono ?_
 rintro _ w3 ⟨v, rfl, hv, rfl⟩
 rw [List.drop_zero] at hv
 cases hg : vg 0 s.data.toList with
 | none =>
  rw [hg] at hv
  obtain ⟨e, he, rfl⟩ := hv
  refine ⟨_, _, _, rfl, yaI.of0 (Mod.refl _), ?_⟩
  rw [show (e != 0) = true by simpa using he]
  intro w4 A4
  exact bad (by simp [yfC, yeO, hg]) (A2.mod.go0 A4.mod (by simpa using f1))
 | some p =>
  rw [hg] at hv
  have hv : v = .tuple #[.int .u64 (p.1 : Nat), .int .i64 ((0 + p.2 : Nat) : Int), .int .i64 0] := hv
  subst hv
  have n1 : yeO s.data.toList 0 = some (p.1, 0 + p.2) := by simp [yeO, hg]
  have h8 := yfS n1
  have el : s.data.toList.length = s.size := by simp
  refine ⟨_, _, _, rfl, yaI.of0 (Mod.refl _), ?_⟩
  rw [show ((0 : Int) != 0) = false from rfl, yc4]
  refine (yfR s (0 + p.2) (by omega) (by omega) w3).mono ?_
  rintro _ w4 ⟨v, rfl, hv, rfl⟩
  cases hg2 : vg 0 (s.data.toList.drop (0 + p.2)) with
  | none =>
   rw [hg2] at hv
   obtain ⟨e, he, rfl⟩ := hv
   have n2 : yeO s.data.toList (0 + p.2) = none := by unfold yeO; rw [hg2]; rfl
   refine ⟨_, _, _, rfl, yaI.of0 (Mod.refl _), ?_⟩
   rw [show (e != 0) = true by simpa using he]
   intro w5 A5
   exact bad (by unfold yfC; rw [n1]; dsimp only; rw [n2]) (A2.mod.go0 A5.mod (by simpa using f1))
  | some q =>
   rw [hg2] at hv
   have hv : v = .tuple #[.int .u64 (q.1 : Nat), .int .i64 ((0 + p.2 + q.2 : Nat) : Int), .int .i64 0] := hv
   subst hv
   have n2 : yeO s.data.toList (0 + p.2) = some (q.1, 0 + p.2 + q.2) := by unfold yeO; rw [hg2]; rfl
   have h9 := yfS n2
   have eG : yfC s = ⟨IntKind.wrap .i64 (p.1 : Nat), IntKind.wrap .i64 (q.1 : Nat), (yy0 (yjZ s.data.toList (0 + p.2 + q.2))).getD op0⟩ := by
    unfold yfC; rw [n1]; dsimp only; rw [n2]
   refine ⟨_, _, _, rfl, yaI.of0 (Mod.refl _), ?_⟩
   rw [show ((0 : Int) != 0) = false from rfl, yc4]
   refine (yc1 s (0 + p.2 + q.2) 65536 (by omega) (by omega) (by omega) w4).mono ?_
   rintro _ w5 ⟨v, rfl, hv, rfl⟩
   have ht : ∃ (x y : Int), v = .tuple #[.string (yjZ s.data.toList (0 + p.2 + q.2)), .int .i64 x, .int .i64 y] ∧ (yjZ s.data.toList (0 + p.2 + q.2)).size ≤ 65536 := by
    unfold yjZ yk5
    cases hg3 : tg 65536 (s.data.toList.drop (0 + p.2 + q.2)) with
    | none =>
     rw [hg3] at hv
     obtain ⟨e, he, rfl⟩ := hv
     exact ⟨_, _, rfl, by show (⟨#[]⟩ : ByteArray).size ≤ 65536; decide⟩
    | some t =>
     rw [hg3] at hv
     have := ykK (t := t.1) (m := t.2) hg3
     exact ⟨_, _, hv, this.2.2.1⟩
   obtain ⟨x, y, rfl, hts⟩ := ht
   refine ⟨_, _, _, rfl, yaI.of0 (Mod.refl _), ?_⟩
   refine (yDq (s := yjZ s.data.toList (0 + p.2 + q.2)) (by omega) w5).mono ?_
   rintro _ w6 ⟨v, rfl, hv, M6⟩
   have s6 := M6.size
   have hv2 : ∃ (rs ts : Sl) (e : Int), v = .tuple #[((yy0 (yjZ s.data.toList (0 + p.2 + q.2))).getD op0).v rs ts, .int .i64 e] ∧ OpOwn w6 w5.heap.size ((yy0 (yjZ s.data.toList (0 + p.2 + q.2))).getD op0) rs ts := by
    cases hO : yy0 (yjZ s.data.toList (0 + p.2 + q.2)) with
    | none =>
     rw [hO] at hv
     exact ⟨ybM, ybM, 40, hv, yp9 ..⟩
    | some o =>
     rw [hO] at hv
     obtain ⟨rs, ts, rfl, hO⟩ := hv
     exact ⟨rs, ts, 0, rfl, hO⟩
   obtain ⟨rs, ts, e, rfl, hO⟩ := hv2
   refine ⟨_, _, _, _, _, _, _, _, _, _, _, _, _, _, _, _, _, _, _, rfl, yaI.of0 M6, ?_⟩
   intro b7 f7 w7 A7
   rw [eG]
   exact ⟨rs, ts, rfl, (hO.keepB A7.mod (by simp; omega)).rebase s2, (A2.mod.go0 M6 (by simp)).go0 A7.mod (by simpa using f1)⟩
def yAr (lim : Nat) (l : List UInt8) (a : Nat) : Option (ByteArray × Nat) := (cg lim (l.drop a)).map fun p => (p.1, a + p.2)
theorem yDs {l : List UInt8} {a b lim : Nat} {t : ByteArray} (h : yAr lim l a = some (t, b)) : a < b ∧ b ≤ l.length ∧ t.size ≤ lim := by
 unfold yAr at h
 cases hv : cg lim (l.drop a) with
 | none => rw [hv] at h; cases h
 | some p =>
  have h1 := yBY (t := p.1) (m := p.2) hv
  rw [hv] at h
  rw [List.length_drop] at h1
  simp at h
  obtain ⟨rfl, rfl⟩ := h
  omega
theorem yBe {l r : List UInt8} {a lim : Nat} {s : ByteArray} (hn : s.size ≤ lim) (hs : s.size < 18446744073709551616) (h : l.drop a = ya5 s ++ r) : yAr lim l a = some (s, a + (ya5 s).length) := by
 unfold yAr; rw [h, ykL s r hn hs]; rfl
def rdC (l : List UInt8) : Nat → Option Nat → List PCall → Option Nat × List PCall
 | 0, st, xs => (st, xs)
 | _ + 1, none, xs => (none, xs)
 | k + 1, some a, xs => match yAr 65536 l a with
  | some p => rdC l k (some p.2) (xs ++ [yfC p.1])
  | none => (none, xs ++ [yfC ⟨#[]⟩])
theorem ys0 (l : List UInt8) (k : Nat) (xs : List PCall) : rdC l k none xs = (none, xs) := by cases k <;> rfl
def yeW (l : List UInt8) : Option Nat × List PCall := match yeO l 0 with
 | some p => rdC l p.1 (some p.2) []
 | none => (none, [])
def ydO (s : ByteArray) : Option (List PCall) :=
 if (yeW s.data.toList).1.isSome ∧ ycQ (yeW s.data.toList).2 = 0 ∧ bs (ybI (yeW s.data.toList).2) = s then some (yeW s.data.toList).2 else none
theorem ygG {xs : List PCall} (h : ycQ xs = 0) : xs.length ≤ 4096 ∧ ∀ x ∈ xs, ymM x = false ∧ opE x.op = 0 := by
 unfold ycQ at h
 split at h
 ·omega
 ·exact ⟨by omega, yo1.1 h⟩
theorem yy8 {l : List UInt8} : ∀ (xs : List PCall) (hx : ∀ x ∈ xs, ymM x = false ∧ opE x.op = 0) (a : Nat) (r : List UInt8) (acc : List PCall), l.drop a = xs.flatMap yfB ++ r → rdC l xs.length (some a) acc = (some (a + (xs.flatMap yfB).length), acc ++ xs)
 | [], _, a, r, acc, h => by simp [rdC]
 | x :: xs, hx, a, r, acc, h => by
  rw [List.flatMap_cons, List.append_assoc] at h
  obtain ⟨h1, h2⟩ := hx x (by simp)
  have hl := yjC h1 h2
  have t1 : yAr 65536 l a = some (bs (ygE x), a + (yfB x).length) := yBe (lim := 65536) (s := bs (ygE x)) (by rw [yaD]; omega) (by rw [yaD]; omega) h
  simp only [List.length_cons, rdC, t1]
  rw [yy7 h1 h2, yy8 xs (fun y hy => hx y (by simp [hy])) _ r _ (yaU h)]
  simp [List.flatMap_cons, Nat.add_assoc]
theorem yd1 {xs : List PCall} (h : ycQ xs = 0) : ydO (bs (ybI xs)) = some xs := by
 obtain ⟨hl, hx⟩ := ygG h
 have e0 : (bs (ybI xs)).data.toList = yaK xs.length ++ (xs.flatMap yfB ++ []) := by rw [ycE]; simp [ybI]
 have t1 := ye4 (l := (bs (ybI xs)).data.toList) (a := 0) (n := xs.length) (by omega) (by rw [List.drop_zero]; exact e0)
 have d1 := yaU (l := (bs (ybI xs)).data.toList) (a := 0) (x := yaK xs.length) (by rw [List.drop_zero]; exact e0)
 have t2 := yy8 xs hx _ _ [] d1
 have e : yeW (bs (ybI xs)).data.toList = (some (0 + (yaK xs.length).length + (xs.flatMap yfB).length), xs) := by
  unfold yeW; rw [t1]; dsimp only; rw [t2]; rfl
 unfold ydO
 rw [e]
 dsimp only
 rw [if_pos ⟨rfl, h, rfl⟩]
theorem yuD {s : ByteArray} {xs : List PCall} : ydO s = some xs ↔ ycQ xs = 0 ∧ s = bs (ybI xs) := by
 constructor
 ·intro h
  unfold ydO at h
  split at h
  ·rename_i hc
   simp only [Option.some.injEq] at h
   rw [h] at hc
   exact ⟨hc.2.1, hc.2.2.symm⟩
  ·cases h
 ·rintro ⟨h, rfl⟩
  exact yd1 h
def ygV (w0 w : World) : Option (List PCall) → Value → Prop
 | some xs, v => ∃ s : Sl, v = .tuple #[.slice s.a s.n s.c, .int .i64 0] ∧ ybA w w0.heap.size s xs
 | none, v => v = .tuple #[.slice none 0 0, .int .i64 162]
set_option maxHeartbeats 1000000 in
set_option maxRecDepth 20000 in
theorem yy9 {s : ByteArray} (hs : s.size ≤ 900000) (w : World) :
  Calls pP 80 #[.string s] w fun e w' => ∃ v, e = .returned v ∧ ygV w w' (ydO s) v ∧ Mod [] w w' := by
 have el : s.data.toList.length = s.size := by simp
 refine yHe ?_
 refine (yfR s 0 (by omega) (by omega) w).mono ?_
 rintro _ w1 ⟨v, rfl, hv, rfl⟩
 rw [List.drop_zero] at hv
 have hst : ∃ (n a0 : Nat) (e : Int), v = .tuple #[.int .u64 (n : Nat), .int .i64 (a0 : Nat), .int .i64 e] ∧ n < 18446744073709551616 ∧ a0 ≤ s.size ∧ yeW s.data.toList = rdC s.data.toList n (if e = 0 then some a0 else none) [] := by
  cases hg : vg 0 s.data.toList with
  | none =>
   rw [hg] at hv
   obtain ⟨e, he, rfl⟩ := hv
   refine ⟨0, 0, e, rfl, by omega, by omega, ?_⟩
   rw [if_neg he]
   unfold yeW yeO; rw [List.drop_zero, hg]; rfl
  | some p =>
   rw [hg] at hv
   have hv : v = .tuple #[.int .u64 (p.1 : Nat), .int .i64 ((0 + p.2 : Nat) : Int), .int .i64 0] := hv
   have n1 : yeO s.data.toList 0 = some (p.1, 0 + p.2) := by simp [yeO, hg]
   have h8 := yfS n1
   refine ⟨p.1, 0 + p.2, 0, hv, h8.2.2, by omega, ?_⟩
   rw [if_pos rfl]
   unfold yeW; rw [n1]
 obtain ⟨n, a0, e0, rfl, hn, ha0, hp⟩ := hst
 refine ⟨_, _, _, rfl, ?_⟩
 refine yy2 (fun mm x5 x6 aa nn cc x8 w' => ∃ (k a : Nat) (st : Option Nat) (l : List CV), x8 = k ∧ k ≤ n ∧ x5 = a ∧ a ≤ s.size ∧ (st = if x6 = 0 then some a else none) ∧ (st.isSome → l.length ≤ a) ∧ l.length ≤ s.size + 1 ∧ Row w' w1.heap.size 51 16 CV.cs aa nn cc l ∧ (∀ q ∈ l, OpOwn w' w1.heap.size q.x.op q.rs q.ts) ∧ Mod [] w1 w' ∧
  yeW s.data.toList = rdC s.data.toList (n - k) st (l.map (·.x)) ∧ mm = n - k) n
  ⟨0, a0, _, [], rfl, by omega, rfl, ha0, rfl, by simp, by simp, Row.nil .., by simp, Mod.refl _, by simpa using hp, rfl⟩ ?_
 clear hp
 rintro mm x5 x6 aa nn cc x8 w2 ⟨k, a, st, l, rfl, hk, rfl, ha, hst, hla, hls, hRow, hOw, M2, hp, rfl⟩
 have s2 := M2.size
 have fin : (n - k = 0 ∨ st = none) → Calls pP 25 #[.slice aa nn cc] w2 fun e w39 => ∃ (s40 : ByteArray) (x41 : Int), e = .returned (.tuple #[.string s40, .int .i64 x41]) ∧
  brB (x6 != 0) (
   ygV w1 w39 (ydO s) (.tuple #[.slice none 0 0, .int .i64 162]) ∧ Mod [] w1 w39)
  (
   brB (x41 != 0) (
    ygV w1 w39 (ydO s) (.tuple #[.slice none 0 0, .int .i64 162]) ∧ Mod [] w1 w39)
   (
    brB (!(s40.toList == s.toList)) (
     ygV w1 w39 (ydO s) (.tuple #[.slice none 0 0, .int .i64 162]) ∧ Mod [] w1 w39)
    (
     ygV w1 w39 (ydO s) (.tuple #[.slice aa nn cc, .int .i64 0]) ∧ Mod [] w1 w39))) := fun hh => by
  have hpe : yeW s.data.toList = (st, l.map (·.x)) := by
   rw [hp]
   rcases hh with hh | hh
   ·rw [hh]; rfl
   ·rw [hh, ys0]
  have hC : CsAt w2 ⟨aa, nn, cc⟩ l := ⟨hRow.sl CV.cs_len, fun q hq => (hOw q hq).at⟩
  refine (yq7 hC (by omega)).mono ?_
  rintro _ w3 ⟨rfl, M3⟩
  have N3 := M2.go0 M3 (by simp)
  have no : ydO s = none → ygV w1 w3 (ydO s) (.tuple #[.slice none 0 0, .int .i64 162]) ∧ Mod [] w1 w3 := fun h => by rw [h]; exact ⟨rfl, N3⟩
  have eO : ydO s = if st.isSome ∧ ycQ (l.map (·.x)) = 0 ∧ bs (ybI (l.map (·.x))) = s then some (l.map (·.x)) else none := by unfold ydO; rw [hpe]
  refine ⟨_, _, rfl, ?_⟩
  refine yaB (fun g => ?_) fun g => ?_
  ·have g : x6 ≠ 0 := by simpa using g
   rw [if_neg g] at hst
   exact no (by rw [eO, hst]; rfl)
  have g : x6 = 0 := by simpa using g
  rw [if_pos g] at hst
  refine yaB (fun g2 => ?_) fun g2 => ?_
  ·have g2 : ycQ (l.map (·.x)) ≠ 0 := by simpa using g2
   exact no (by rw [eO, if_neg (fun h => g2 h.2.1)])
  have g2 : ycQ (l.map (·.x)) = 0 := by simpa using g2
  rw [if_pos g2, yf6]
  refine yaB (fun g3 => ?_) fun g3 => ?_
  ·have g3 : ¬ bs (ybI (l.map (·.x))) = s := by simpa using g3
   exact no (by rw [eO, if_neg (fun h => g3 h.2.2)])
  ·have g3 : bs (ybI (l.map (·.x))) = s := by simpa using g3
   rw [eO, if_pos ⟨by rw [hst]; rfl, g2, g3⟩]
   exact ⟨⟨⟨aa, nn, cc⟩, rfl, l, hRow.keep0 M3, fun q hq => (hOw q hq).keep0 M3, rfl⟩, N3⟩
 refine yaC (fun hlt => ?_) fun hge => fin (.inl (by omega))
 refine yaB (fun g => ?_) fun g => fin (.inr (by rw [hst, if_neg (show ¬ x6 = 0 by simpa using g)]))
 have g : x6 = 0 := by simpa using g
 subst g
 rw [if_pos rfl] at hst
 subst hst
 have hla : l.length ≤ a := hla rfl
 refine (yoM s a 65536 (by omega) ha (by omega) w2).mono ?_
 rintro _ w3 ⟨v, rfl, hv, M3⟩
 have s3 := M3.size
 have hcut : ∃ (t : ByteArray) (b : Nat) (e : Int), v = .tuple #[.string t, .int .i64 (b : Nat), .int .i64 e] ∧ t.size ≤ 65536 ∧ b ≤ s.size ∧ (e = 0 → a < b) ∧
   rdC s.data.toList (n - k) (some a) (l.map (·.x)) = rdC s.data.toList (n - (k + 1)) (if e = 0 then some b else none) (l.map (·.x) ++ [yfC t]) := by
  have ek : n - k = (n - (k + 1)) + 1 := by omega
  cases hg : cg 65536 (s.data.toList.drop a) with
  | none =>
   rw [hg] at hv
   obtain ⟨e, he, rfl⟩ := hv
   refine ⟨_, 0, e, rfl, by show (⟨#[]⟩ : ByteArray).size ≤ 65536; decide, by omega, fun h => absurd h he, ?_⟩
   have e1 : yAr 65536 s.data.toList a = none := by unfold yAr; rw [hg]; rfl
   rw [if_neg he, ys0, ek]
   simp only [rdC, e1]
  | some p =>
   rw [hg] at hv
   have hv : v = .tuple #[.string p.1, .int .i64 ((a + p.2 : Nat) : Int), .int .i64 0] := hv
   have e1 : yAr 65536 s.data.toList a = some (p.1, a + p.2) := by unfold yAr; rw [hg]; rfl
   have h8 := yDs e1
   refine ⟨p.1, a + p.2, 0, hv, h8.2.2, by omega, fun _ => h8.1, ?_⟩
   rw [if_pos rfl, ek]
   simp only [rdC, e1]
 obtain ⟨t, b, e, rfl, hts, hb, hab, hr⟩ := hcut
 refine ⟨_, _, _, rfl, ?_⟩
 refine (yBd (s := t) (by omega) w3).mono ?_
 rintro _ w4 ⟨_, rfl, rs, ts, rfl, hO, M4⟩
 have s4 := M4.size
 refine ⟨_, _, _, _, _, _, _, _, _, _, _, _, _, _, _, _, _, _, _, _, rfl, ?_⟩
 refine ycT fun b5 w5 c5 M5 f5 => ?_
 have s5 := M5.size
 have K5 : Mod [] w2 w5 := (M3.go0 M4 (by simp)).go0 M5 (by simp)
 obtain ⟨i0, hi, hz0, hz1, hz2⟩ := info_parts ymG
 refine ybR (x := (⟨yfC t, rs, ts⟩ : CV)) (hRow.keep0 K5) Tryz.underlying22 hi hz0 hz1 hz2 rfl (by decide) c5 rfl (CV.cs_one _) (by omega) (by unfold maxLen; omega) (by omega) fun a' c' w6 hR6 hM6 => ?_
 have M6 := hM6 _ (ycU aa)
 have hrow := ybD hRow
 have kp : ∀ {o rs ts}, OpOwn w5 w1.heap.size o rs ts → OpOwn w6 w1.heap.size o rs ts := fun hh => hh.keep M6 fun k hk cs T hc => by
  obtain ⟨_, _, cur, hcur⟩ := hrow k hk
  rw [K5.keep0 hcur] at hc; cases hc; decide
 refine yy1 (n - (k + 1)) (by omega) ⟨k + 1, b, if e = 0 then some b else none, l ++ [⟨yfC t, rs, ts⟩], ?_, by omega, rfl, hb, rfl, ?_, by simp; omega, hR6, fun y hy => ?_, (M2.go0 K5 (by simp)).go0 M6 fun i hi => (hrow i hi).1, ?_, rfl⟩
 ·have e1 : ((k : Int) + 1) = ((k + 1 : Nat) : Int) := by omega
  rw [e1, ygC (by omega)]
 ·intro h
  have he : e = 0 := by
   by_cases he : e = 0
   ·exact he
   ·rw [if_neg he] at h; cases h
  have := hab he
  simp; omega
 ·rcases List.mem_append.1 hy with hy | hy
  ·exact kp ((hOw y hy).keep0 K5)
  ·simp at hy; subst hy; exact kp ((hO.keep0 M5).rebase (by omega))
 ·rw [hp, hr, List.map_append]; rfl
theorem yzA {w : World} {p q : CV} (hp : OpAt w p.x.op p.rs p.ts) (hq : OpAt w q.x.op q.rs q.ts) :
  Calls pP 71 #[p.v, q.v] w fun e w' => e = .returned (.bool (decide (p.x = q.x))) ∧ Mod [] w w' := by
 obtain ⟨⟨c1, n1, o1⟩, rs1, ts1⟩ := p
 obtain ⟨⟨c2, n2, o2⟩, rs2, ts2⟩ := q
 refine yaQ (yHf ?_)
 intro b1 f1 b2 f2
 refine yaB (fun g1 => ?_) fun g1 => ?_
 ·have g1 : c1 = c2 := by simpa using g1
  refine yaB (fun g2 => ?_) fun g2 => ?_
  ·have g2 : n1 = n2 := by simpa using g2
   intro w3 A3
   refine (yoO (hp.keep0 A3.mod) (hq.keep0 A3.mod)).mono ?_
   rintro _ w4 ⟨rfl, M4⟩
   refine ⟨_, rfl, yaI.of0 M4, by simp [g1, g2], A3.mod.go0 M4 (by simp)⟩
  ·have g2 : ¬ n1 = n2 := by simpa using g2
   intro w3 A3
   exact ⟨by simp [g2], A3.mod⟩
 ·have g1 : ¬ c1 = c2 := by simpa using g1
  intro w3 A3
  exact ⟨by simp [g1], A3.mod⟩
theorem yBf {w : World} {s t : Sl} {la lb : List CV} (hA : CsAt w s la) (hB : CsAt w t lb) (hl : la.length ≤ 1000000) :
  Calls pP 37 #[.slice s.a s.n s.c, .slice t.a t.n t.c] w fun e w' => e = .returned (.bool (decide (la.map (·.x) = lb.map (·.x)))) ∧ Mod [] w w' := by
 have e1 := hA.sl.1
 have e2 := hB.sl.1
 have main : Calls pP 70 #[.slice s.a s.n s.c, .slice t.a t.n t.c, .func (.func 71) #[] #[]] w fun e w' => e = .returned (.bool (decide (la.map (·.x) = lb.map (·.x)))) ∧ Mod [] w w' := by
  refine yaQ (yHj ?_)
  refine yaB (fun g => ⟨congrArg Value.bool (decide_eq_false fun e => ?_).symm, Mod.refl _⟩) fun g => ?_
  ·have := congrArg List.length e
   simp at this g
   omega
  have g : la.length = lb.length := by simp at g; omega
  refine yy4 (fun mm x w' => ∃ k : Nat, x = k ∧ k ≤ la.length ∧ (la.take k).map (·.x) = (lb.take k).map (·.x) ∧ Mod [] w w' ∧ mm = la.length - k) la.length ⟨0, rfl, by omega, by simp, Mod.refl _, rfl⟩ ?_
  rintro mm x w1 ⟨k, rfl, hk, ht, M1, rfl⟩
  refine yaC (fun hlt => ?_) fun hge => ?_
  ·have g1 : k < la.length := by omega
   have g2 : k < lb.length := by omega
   obtain ⟨x, hx⟩ : ∃ x, la[k]? = some x := ⟨_, List.getElem?_eq_getElem g1⟩
   obtain ⟨y, hy⟩ : ∃ y, lb[k]? = some y := ⟨_, List.getElem?_eq_getElem g2⟩
   refine (hA.sl.keep0 M1).ix hx fun ad had => yjA had ?_
   intro b2 f2
   refine (hB.sl.keep0 M1).ixW hy fun ad had => ?_
   intro w3 A3
   have l2 := A3.lt b2 (by simp)
   refine yjA (had w3 A3.mod) ?_
   intro b4 f4 w5 A5
   have N5 := (M1.go0 A3.mod (by simp)).go0 A5.mod (by simp)
   refine (yzA (p := x) (q := y) ((hA.op x (List.mem_of_getElem? hx)).keep0 N5) ((hB.op y (List.mem_of_getElem? hy)).keep0 N5)).mono ?_
   rintro _ w6 ⟨rfl, M6⟩
   have N6 := N5.go0 M6 (by simp)
   refine ⟨_, rfl, yaI.of0 M6, yaB (fun g3 => ?_) fun g3 => ?_⟩
   ·have g3 : x.x ≠ y.x := by simpa using g3
    refine ⟨congrArg Value.bool (decide_eq_false fun e => g3 ?_).symm, N6⟩
    have := congrArg (fun l : List PCall => l[k]?) e
    simpa [hx, hy] using this
   ·have g3 : x.x = y.x := by simpa using g3
    refine yy3 (la.length - (k + 1)) (by omega) ⟨k + 1, by rw [yaG (by omega) (by omega)]; omega, by omega, ?_, N6, rfl⟩
    rw [List.take_add_one, List.take_add_one, hx, hy, List.map_append, List.map_append, ht]
    simp [g3]
  ·have hk' : k = la.length := by omega
   subst hk'
   refine ⟨congrArg Value.bool (decide_eq_true ?_).symm, M1⟩
   rw [List.take_length, List.take_of_length_le (by omega)] at ht
   exact ht
 refine yaQ (yHg ?_)
 refine main.mono ?_
 rintro _ w1 ⟨rfl, M⟩
 exact ⟨_, rfl, rfl, M⟩
section
set_option maxRecDepth 100000
variable {R : VWP} {w w0 : World} {m : Nat} {i0 i1 i2 i3 i4 i5 i6 i7 i8 i9 j0 j1 j2 j3 j4 j5 j6 j7 j8 j9 k0 k1 k2 k3 k4 k5 k6 k7 k8 k9 l0 l1 l2 l3 l4 l5 l6 l7 l8 l9 : Int} {s0 s1 s2 s3 s4 s5 s6 s7 s8 s9 t0 t1 t2 t3 t4 t5 t6 t7 t8 t9 : BA} {n0 n1 n2 n3 n4 n5 n6 n7 n8 n9 o0 o1 o2 o3 o4 o5 o6 o7 o8 o9 p0 p1 p2 p3 p4 p5 p6 p7 p8 p9 : Nat} {q0 q1 q2 q3 q4 q5 q6 q7 q8 q9 r0 r1 r2 r3 r4 r5 r6 r7 r8 r9 : OA} {B0 B1 B2 B3 B4 B5 B6 B7 B8 B9 : Bool} {M0 M1 M2 M3 : Option Nat} {V0 V1 V2 V3 V4 V5 : Value} {A0 A1 A2 : Addr}
def ys1 : LA := ⟨[0, 1, 1], [], [], 0, []⟩
def ymO : List LA := [ys1]
abbrev yIo := dnF pP ymO (code Tryz.f31)
abbrev yIp := yaP pP ymO (code Tryz.f31)
abbrev yHk (p : List Nat) (K : List Kh) (R : VWP) := yaP pP ymO (code Tryz.f31) p K (ya4 pP Tryz.f31 [] R)
def yDt : Unit → List Value × List TB := fun _ => ([], [])
theorem yDu (h :
 brB (decide (i0 < 128)) (
 al w (.cells #[(.int .u8 (IntKind.wrap .u8 i0))] 5) fun b1 w2 =>
 ∃ s3 w4, Sem.run pP (Go.convert 40 9 (.slice (some ⟨b1, 0, none⟩) 1 1)) w2 = .ok (.string s3) w4 ∧
 R (.string s3) w4)
 (
 wpS pP (yrN (code Tryz.f31) [0, 1, 1]) ys1 (yHk [1, 1, 0] [] R) (yDt ()) w)) :
 CR pP 31 #[.int .u64 i0] w R :=
 yaA Tryz.wide_mixed (an := ymO) Tryz.func31 rfl rfl (by kernel_rfl) rfl (Eq.mpr (by kernel_rfl) h)
theorem yDv {a0 : BA} (h :
 Calls pP 31 #[(.int .u64 (IntKind.wrap .u64 (a0.size : Int)))] w fun e w1 => ∃ s2, e = .returned (.string s2) ∧
 yeZ s2 a0 fun s3 =>
 R (.string s3) w1) :
 CR pP 34 #[.string a0] w R :=
 yaA Tryz.wide_mixed (an := []) Tryz.func34 rfl rfl (by kernel_rfl) rfl (Eq.mpr (by kernel_rfl) h)
def ymP : LA := ⟨[0, 0, 1, 0, 1, 1], [0, 1, 5, 6, 7], [], 0, []⟩
def ymQ : List LA := [ymP]
abbrev yCl := dnF pP ymQ (code Tryz.f128)
abbrev yIq := yaP pP ymQ (code Tryz.f128)
abbrev yCm (p : List Nat) (K : List Kh) (R : VWP) := yaP pP ymQ (code Tryz.f128) p K (ya4 pP Tryz.f128 [] R)
def yfT : Int × Int × Int × Int × Int → List Value × List TB := fun (a0, a1, a2, a3, a4) => ([.int .u32 a0, .int .u32 a1, .int .u32 a2, .int .u32 a3, .int .i64 a4], [])
abbrev yq8 (I : Nat → Int → Int → Int → Int → Int → World → Prop) (m : Nat) : Kh := KG (yfT) (U5 I) m
theorem ylC {I : Nat → Int → Int → Int → Int → Int → World → Prop} (m' : Nat) (h1 : m' < m) (h2 : I m' i0 i1 i2 i3 i4 w) : KS (yq8 I m) (yfT (i0, i1, i2, i3, i4)) w := ⟨m', h1, _, rfl, rfl, h2⟩
theorem yuE (I : Nat → Int → Int → Int → Int → Int → World → Prop) (m0 : Nat) (h0 : I m0 i0 i1 i2 i3 i4 w0)
 (hr : ∀ m a0 a1 a2 a3 a4 w, I m a0 a1 a2 a3 a4 w →
 brB (decide (a4 < 32)) (nz 2 (nz 2 (
 brB ((Int.tmod a0 2) != (Int.tmod a1 2)) (nz 2 (nz 2 (
 KS (yq8 I m) (yfT ((IntKind.wrap .u32 (Int.tdiv a0 2)), (IntKind.wrap .u32 (Int.tdiv a1 2)), (IntKind.wrap .u32 (a2 + a3)), (IntKind.wrap .u32 (a3 * 2)), (IntKind.wrap .i64 (a4 + 1)))) w)))
 (nz 2 (nz 2 (
 KS (yq8 I m) (yfT ((IntKind.wrap .u32 (Int.tdiv a0 2)), (IntKind.wrap .u32 (Int.tdiv a1 2)), a2, (IntKind.wrap .u32 (a3 * 2)), (IntKind.wrap .i64 (a4 + 1)))) w))))))
 (
 R (.int .u32 a2) w)) :
 yaL ymP (yCl 396 [0, 0, 1, 0, 1, 1]) (yCm [1, 1, 0, 1, 0] [] R) (yfT (i0, i1, i2, i3, i4)) w0 :=
 lrule (yfT) (U5 I) h0 (by rintro m ⟨a0, a1, a2, a3, a4⟩ w h; exact ⟨by kernel_rfl, by kernel_rfl, fun js => Eq.mpr (by kernel_rfl) (hr m a0 a1 a2 a3 a4 w h)⟩)
theorem yDw (h :
 yaL ymP (yCl 396 [0, 0, 1, 0, 1, 1]) (yCm [1, 1, 0, 1, 0] [] R) (yfT (i0, i1, 0, 1, 0)) w) :
 CR pP 128 #[.int .u32 i0, .int .u32 i1] w R :=
 yaA Tryz.wide_mixed (an := ymQ) Tryz.func128 rfl rfl (by kernel_rfl) rfl (Eq.mpr (by kernel_rfl) h)
def ymR : LA := ⟨[0, 0, 1, 0, 1, 1], [1, 5, 6], [], 0, []⟩
def ymS : LA := ⟨[0, 0, 1, 1, 0, 0, 1, 0, 0, 1, 0, 1, 1], [1, 5, 6, 7], [], 0, []⟩
def ymT : List LA := [ymR, ymS]
abbrev ys2 := dnF pP ymT (code Tryz.f105)
abbrev yIr := yaP pP ymT (code Tryz.f105)
abbrev ys3 (p : List Nat) (K : List Kh) (R : VWP) := yaP pP ymT (code Tryz.f105) p K (ya4 pP Tryz.f105 [] R)
def ygW (a0 : BA) : Int × Int → List Value × List TB := fun (a1, a2) => ([.string a0, .int .u32 a1, .int .i64 a2], [])
def yfU (a0 : BA) (a2 : Int) : Int × Int → List Value × List TB := fun (a1, a3) => ([.string a0, .int .u32 a1, .int .i64 a2, .int .i64 a3], [])
abbrev yzB (a0 : BA) (I : Nat → Int → Int → World → Prop) (m : Nat) : Kh := KG (ygW a0) (U2 I) m
theorem yuF {I : Nat → Int → Int → World → Prop} (m' : Nat) (h1 : m' < m) (h2 : I m' i0 i1 w) : KS (yzB s0 I m) (ygW s0 (i0, i1)) w := ⟨m', h1, _, rfl, rfl, h2⟩
theorem yuG (I : Nat → Int → Int → World → Prop) (m0 : Nat) (h0 : I m0 i0 i1 w0)
 (hr : ∀ m a2 a1 w, I m a2 a1 w →
 brB (decide (a1 < (s0.size : Int))) (
 ixS s0 a1 fun x1 =>
 Calls pP 128 #[.int .u32 a2, (.int .u32 (IntKind.wrap .u32 x1))] w fun e w2 => ∃ x3, e = .returned (.int .u32 x3) ∧
 yaL ymS (ys2 392 [0, 0, 1, 1, 0, 0, 1, 0, 0, 1, 0, 1, 1]) (ys3 [1, 1, 0, 1, 0, 0, 1, 0, 0, 1, 1, 0] [(yzB s0 I m)] R) (yfU s0 a1 (x3, 0)) w2)
 (
 R (.int .u32 (IntKind.wrap .u32 (4294967295 - a2))) w)) :
 yaL ymR (ys2 396 [0, 0, 1, 0, 1, 1]) (ys3 [1, 1, 0, 1, 0] [] R) (ygW s0 (i0, i1)) w0 :=
 lrule (ygW s0) (U2 I) h0 (by rintro m ⟨a2, a1⟩ w h; exact ⟨by kernel_rfl, by kernel_rfl, fun js => Eq.mpr (by kernel_rfl) (hr m a2 a1 w h)⟩)
abbrev yq9 (a0 : BA) (a1 : Int) (I : Nat → Int → Int → World → Prop) (m : Nat) : Kh := KG (yfU a0 a1) (U2 I) m
theorem ylD {I : Nat → Int → Int → World → Prop} (m' : Nat) (h1 : m' < m) (h2 : I m' i1 i2 w) : KS (yq9 s0 i0 I m) (yfU s0 i0 (i1, i2)) w := ⟨m', h1, _, rfl, rfl, h2⟩
theorem yuH {K1 : Kh} (I : Nat → Int → Int → World → Prop) (m0 : Nat) (h0 : I m0 i1 i2 w0)
 (hr : ∀ m a1 a3 w, I m a1 a3 w →
 brB (decide (a3 < 8)) (nz 2 (nz 2 (
 brB ((Int.tmod a1 2) == 1) (
 Calls pP 128 #[(.int .u32 (IntKind.wrap .u32 (Int.tdiv a1 2))), .int .u32 3988292384] w fun e w4 => ∃ x5, e = .returned (.int .u32 x5) ∧
 KS (yq9 s0 i0 I m) (yfU s0 i0 (x5, (IntKind.wrap .i64 (a3 + 1)))) w4)
 (
 KS (yq9 s0 i0 I m) (yfU s0 i0 ((IntKind.wrap .u32 (Int.tdiv a1 2)), (IntKind.wrap .i64 (a3 + 1)))) w))))
 (
 KS K1 (ygW s0 (a1, (IntKind.wrap .i64 (i0 + 1)))) w)) :
 yaL ymS (ys2 392 [0, 0, 1, 1, 0, 0, 1, 0, 0, 1, 0, 1, 1]) (ys3 [1, 1, 0, 1, 0, 0, 1, 0, 0, 1, 1, 0] [K1] R) (yfU s0 i0 (i1, i2)) w0 :=
 lrule (yfU s0 i0) (U2 I) h0 (by rintro m ⟨a1, a3⟩ w h; exact ⟨by kernel_rfl, by kernel_rfl, fun js => Eq.mpr (by kernel_rfl) (hr m a1 a3 w h)⟩)
theorem yDx (h :
 yaL ymR (ys2 396 [0, 0, 1, 0, 1, 1]) (ys3 [1, 1, 0, 1, 0] [] R) (ygW s0 ((IntKind.wrap .u32 (4294967295 - i0)), 0)) w) :
 CR pP 105 #[.int .u32 i0, .string s0] w R :=
 yaA Tryz.wide_mixed (an := ymT) Tryz.func105 rfl rfl (by kernel_rfl) rfl (Eq.mpr (by kernel_rfl) h)
theorem yDy (h :
 Calls pP 105 #[.int .u32 0, .string s0] w fun e w1 => ∃ x2, e = .returned (.int .u32 x2) ∧
 R (.int .u32 x2) w1) :
 CR pP 69 #[.string s0] w R :=
 yaA Tryz.wide_mixed (an := []) Tryz.func69 rfl rfl (by kernel_rfl) rfl (Eq.mpr (by kernel_rfl) h)
theorem yDz (h :
 nz 256 (nz 256 (nz 256 (nz 65536 (nz 256 (nz 16777216 (
 al w (.cells #[(.int .u8 (IntKind.wrap .u8 (Int.tmod i0 256))), (.int .u8 (IntKind.wrap .u8 (Int.tmod (IntKind.wrap .u32 (Int.tdiv i0 256)) 256))), (.int .u8 (IntKind.wrap .u8 (Int.tmod (IntKind.wrap .u32 (Int.tdiv i0 65536)) 256))), (.int .u8 (IntKind.wrap .u8 (IntKind.wrap .u32 (Int.tdiv i0 16777216))))] 5) fun b1 w2 =>
 ∃ s3 w4, Sem.run pP (Go.convert 40 9 (.slice (some ⟨b1, 0, none⟩) 4 4)) w2 = .ok (.string s3) w4 ∧
 R (.string s3) w4))))))) :
 CR pP 68 #[.int .u32 i0] w R :=
 yaA Tryz.wide_mixed (an := []) Tryz.func68 rfl rfl (by kernel_rfl) rfl (Eq.mpr (by kernel_rfl) h)
theorem yDA {a0 : BA} (h :
 Calls pP 34 #[.string a0] w fun e w1 => ∃ s2, e = .returned (.string s2) ∧
 Calls pP 69 #[.string a0] w1 fun e w3 => ∃ x4, e = .returned (.int .u32 x4) ∧
 Calls pP 68 #[.int .u32 x4] w3 fun e w5 => ∃ s6, e = .returned (.string s6) ∧
 yeZ s2 s6 fun s7 =>
 R (.string s7) w5) :
 CR pP 35 #[.string a0] w R :=
 yaA Tryz.wide_mixed (an := []) Tryz.func35 rfl rfl (by kernel_rfl) rfl (Eq.mpr (by kernel_rfl) h)
theorem yDB {a1 : BA} {a0 : BA} (h :
 ∀ b1, w.heap.size ≤ b1 →
 brB B1 (
 ∀ w2, Adv [] [b1] w w2 →
 Calls pP 34 #[.string a1] w2 fun e w3 => ∃ s4, e = .returned (.string s4) ∧ yaI [b1] w2 w3 ∧
 yeZ (⟨#[3]⟩ : BA) s4 fun s5 =>
 R (.string s5) w3)
 (
 brB B0 (
 ∀ w6, Adv [] [b1] w w6 →
 Calls pP 34 #[.string a1] w6 fun e w7 => ∃ s8, e = .returned (.string s8) ∧ yaI [b1] w6 w7 ∧ (((.string a0) : Value) = (.string a0)) ∧
 yeZ (⟨#[1]⟩ : BA) s8 fun s9 =>
 Calls pP 34 #[.string a0] w7 fun e a7 => ∃ a5, e = .returned (.string a5) ∧ yaI [b1] w7 a7 ∧
 yeZ s9 a5 fun a9 =>
 R (.string a9) a7)
 (
 ∀ a4, Adv [] [b1] w a4 →
 Calls pP 34 #[.string a0] a4 fun e a8 => ∃ a6, e = .returned (.string a6) ∧ yaI [b1] a4 a8 ∧
 yeZ (⟨#[0]⟩ : BA) a6 fun b0 =>
 R (.string b0) a8))) :
 CR pP 67 #[(.agg (Z7 B0 a1 B1 a0))] w R :=
 yaA Tryz.wide_mixed (an := []) Tryz.func67 rfl rfl (by kernel_rfl) rfl (Eq.mpr (by kernel_rfl) h)
theorem yDC (h :
 Calls pP 31 #[(.int .u64 (IntKind.wrap .u64 i0))] w fun e w1 => ∃ s2, e = .returned (.string s2) ∧
 R (.string s2) w1) :
 CR pP 66 #[.int .i64 i0] w R :=
 yaA Tryz.wide_mixed (an := []) Tryz.func66 rfl rfl (by kernel_rfl) rfl (Eq.mpr (by kernel_rfl) h)
end
end Go.Proofs.YtkbcmppbjfpjmaaGreat
namespace Go.Proofs.YtkbcmppbjfpjmaaGreat
open Go Go.RowKit Go.Shelf
set_option linter.unusedVariables false
set_option linter.unusedSimpArgs false
theorem yd2 (k : UInt8) (W : World) (a : Nat) (h : W.heap[a]? = some (.cells #[.int .u8 (k.toNat : Nat)] 5)) :
  Sem.run pP (Go.convert 40 9 (.slice (some ⟨a, 0, none⟩) 1 1)) W = .ok (.string (bs [k])) W := by
 refine run_convert_bytes_back W _ _ 5 ⟨a, 0, none⟩ 1 [k] Tryz.underlying40 Tryz.underlying5 Tryz.underlying9 fun j hj => ?_
 rw [ya1, Nat.zero_add, yaY h]
 have hj : j = 0 := by simpa using hj
 subst hj
 rfl
def hb7 (n : Nat) : UInt8 := UInt8.ofNat (n % 128 + 128)
theorem yHl (n : Nat) : IntKind.wrap .u8 (IntKind.wrap .u64 (Int.tmod (n : Int) 128 + 128)) = (((hb7 n).toNat : Nat) : Int) := by
 rw [Int.tmod_eq_emod_of_nonneg (by omega), IntKind.wrap_u64, IntKind.wrap_u8]; simp [hb7]
theorem yzC (n : Nat) (W : World) : (W.alloc (.cells #[.int .u8 (IntKind.wrap .u8 (IntKind.wrap .u64 (Int.tmod (n : Int) 128 + 128)))] 5)).heap[W.heap.size]? = some (.cells #[.int .u8 (((hb7 n).toNat : Nat) : Int)] 5) := by
 rw [yHl]; exact World.alloc_heap_new W _
theorem yzD (n : Nat) (W : World) : (W.alloc (.cells #[.int .u8 (IntKind.wrap .u8 (IntKind.wrap .u64 (Int.tmod (n : Int) 128 + 128)))] 5)).drew.heap[W.heap.size]? = some (.cells #[.int .u8 (((hb7 n).toNat : Nat) : Int)] 5) := yzC n W
theorem yDD (n : Nat) (W : World) : Mod [] W (W.alloc (.cells #[.int .u8 (IntKind.wrap .u8 (IntKind.wrap .u64 (Int.tmod (n : Int) 128 + 128)))] 5)) := Mod.of_below ((Below.refl _ _).alloc (Nat.le_refl _) _)
theorem yH7 (n : Nat) (hn : n < 18446744073709551616) : IntKind.wrap .u64 ((n : Int) / 128) = ((n / 128 : Nat) : Int) := by rw [IntKind.wrap_u64]; omega
set_option maxRecDepth 100000 in
set_option maxHeartbeats 4000000 in
theorem yzE (n : Nat) (hn : n < 18446744073709551616) (hb : 128 ≤ n) (ih : ∀ w, Calls pP 31 #[.int .u64 (n / 128 : Nat)] w fun e w' => e = .returned (.string (bs (yaK (n / 128)))) ∧ Mod [] w w') (w : World) :
  Calls pP 31 #[.int .u64 (n : Nat)] w fun e w' => e = .returned (.string (bs ([hb7 n] ++ yaK (n / 128)))) ∧ Mod [] w w' := by
 have mixed := Tryz.wide_mixed
 have hd : decide ((n : Int) < 128) = false := by simp; omega
 go_enter Tryz.func31, Tryz.ntmps31
 go_wp2
 have hcat : ¬ (bs [hb7 n]).size + (bs (yaK (n / 128))).size > 9223372036854775807 := by
  rw [yaD, yaD]; have := (yaN (n / 128) (by omega)).2; simp; omega
 go_region_with (first
  | (go_at_call 31; rw [yH7 n hn]; refine (ih _).mono ?_; rintro e w' ⟨rfl, M⟩)
  | (rw [yd2 _ _ _ (yzD n _)]; simp only [Result.andThen]; rw [Oper.upon_value])
  | (rw [yd2 _ _ _ (yzC n _)]; simp only [Result.andThen]; rw [Oper.upon_value])
  | (rw [yd2 _ _ _ (M.keep0 (yzD n _))]; simp only [Result.andThen]; rw [Oper.upon_value])
  | (rw [yd2 _ _ _ (M.keep0 (yzC n _))]; simp only [Result.andThen]; rw [Oper.upon_value]))
 all_goals go_wp2
 all_goals go_ret
 ·exact ⟨by rw [ybB]; rfl, (yDD n w).trans ((Mod.drewN _ 1).trans M)⟩
 ·exact ⟨by rw [ybB]; rfl, (yDD n w).trans ((Mod.drewN _ 1).trans M)⟩
 ·exact ⟨by rw [ybB]; rfl, (Mod.drewN _ 1).trans (M.trans (yDD n _))⟩
theorem ys4 : ∀ (k n : Nat), n < 128 ^ (k + 1) → n < 18446744073709551616 → ∀ w, Calls pP 31 #[.int .u64 (n : Nat)] w fun e w' => e = .returned (.string (bs (yaK n))) ∧ Mod [] w w'
 | k, n, hk, hn, w => by
  by_cases hb : n < 128
  ·refine yaQ (yDu ?_)
   rw [decide_eq_true (by omega), yrJ]
   refine ycT fun b1 w1 c1 M1 f1 => ?_
   have e8 : IntKind.wrap .u8 (n : Int) = ((UInt8.ofNat n).toNat : Nat) := by rw [IntKind.wrap_u8]; simp
   rw [e8] at c1
   refine ⟨_, _, yd2 _ _ _ c1, ?_, M1⟩
   unfold yaK
   rw [yc0 hb]; rfl
  ·cases k with
   | zero => omega
   | succ k =>
    have e : yaK n = [hb7 n] ++ yaK (n / 128) := by
     unfold yaK; rw [yf7 hb]; rfl
    rw [e]
    exact yzE n hn (by omega) (ys4 k (n / 128) (by rw [Nat.pow_succ] at hk; omega) (by omega)) w
theorem ygH {n : Nat} (hn : n < 18446744073709551616) (w : World) : Calls pP 31 #[.int .u64 (n : Nat)] w fun e w' => e = .returned (.string (bs (yaK n))) ∧ Mod [] w w' :=
 ys4 9 n (by omega) hn w
theorem ycR (s : ByteArray) (hs : s.size ≤ 1000000000000) (w : World) : Calls pP 34 #[.string s] w fun e w' => e = .returned (.string (bs (ya7 s))) ∧ Mod [] w w' := by
 refine yaQ (yDv ?_)
 rw [ygC (by omega)]
 refine (ygH (by omega) w).mono ?_
 rintro e w1 ⟨rfl, M1⟩
 refine ⟨_, rfl, by have := (yaN s.size (by omega)).2; rw [yaD]; omega, by rw [yiV]; rfl, M1⟩
end Go.Proofs.YtkbcmppbjfpjmaaGreat
namespace Go.Proofs.YtkbcmppbjfpjmaaGreat
open Go Go.RowKit
set_option linter.all false
theorem ys5 (a b k : Nat) : (a ^^^ b) / 2 ^ k = (a / 2 ^ k) ^^^ (b / 2 ^ k) := by
 rw [← Nat.shiftRight_eq_div_pow, ← Nat.shiftRight_eq_div_pow, ← Nat.shiftRight_eq_div_pow, Nat.shiftRight_xor_distrib]
theorem yBg (a b : Nat) : (a ^^^ b) / 2 = (a / 2) ^^^ (b / 2) := ys5 a b 1
theorem ys6 (a b : Nat) : (a ^^^ b) % 2 = (a + b) % 2 := by
 have h := @Nat.xor_mod_two_eq_one a b
 omega
theorem yhP {a b : Nat} (ha : a < 4294967296) (hb : b < 4294967296) : a ^^^ b < 4294967296 := Nat.xor_lt_two_pow (n := 32) ha hb
theorem yo2 {a b : Nat} (ha : a < 4294967296) (hb : b < 4294967296) : ydH .u32 a b = ((a ^^^ b : Nat) : Int) := by
 have h := yhP ha hb
 unfold ydH
 rw [IntKind.wrap_u32]
 simp only [BitVec.toNat_xor, BitVec.toNat_ofInt]
 have e1 : ((a : Int) % ((2 ^ IntKind.bits .u32 : Nat) : Int)).toNat = a := by
  show ((a : Int) % ((2 ^ 32 : Nat) : Int)).toNat = a
  omega
 have e2 : ((b : Int) % ((2 ^ IntKind.bits .u32 : Nat) : Int)).toNat = b := by
  show ((b : Int) % ((2 ^ 32 : Nat) : Int)).toNat = b
  omega
 rw [e1, e2]
 omega
theorem yHm {a b : Nat} (ha : a < 4294967296) (hb : b < 4294967296) : ye8 .u32 a b = ((a &&& b : Nat) : Int) := by
 have h : a &&& b < 4294967296 := Nat.lt_of_le_of_lt Nat.and_le_left ha
 unfold ye8
 rw [IntKind.wrap_u32]
 simp only [BitVec.toNat_and, BitVec.toNat_ofInt]
 have e1 : ((a : Int) % ((2 ^ IntKind.bits .u32 : Nat) : Int)).toNat = a := by
  show ((a : Int) % ((2 ^ 32 : Nat) : Int)).toNat = a
  omega
 have e2 : ((b : Int) % ((2 ^ IntKind.bits .u32 : Nat) : Int)).toNat = b := by
  show ((b : Int) % ((2 ^ 32 : Nat) : Int)).toNat = b
  omega
 rw [e1, e2]
 omega
theorem yzF {a b : Nat} (ha : a < 4294967296) (hb : b < 4294967296) (w : World) :
  Calls pP 128 #[.int .u32 (a : Nat), .int .u32 (b : Nat)] w fun e w' => e = .returned (.int .u32 ((a ^^^ b : Nat) : Int)) ∧ w' = w := by
 refine yaQ (yDw ?_)
 refine yuE (fun mm x0 x1 x5 x6 x7 w' => ∃ k : Nat, k ≤ 32 ∧ x7 = k ∧ x0 = (a / 2 ^ k : Nat) ∧ x1 = (b / 2 ^ k : Nat) ∧ x5 = ((a ^^^ b) % 2 ^ k : Nat) ∧ x6 = (if k = 32 then 0 else 2 ^ k : Nat) ∧ w' = w ∧ mm = 32 - k) 32
  ⟨0, by omega, rfl, by simp, by simp, by simp [Nat.mod_one], by simp, rfl, rfl⟩ ?_
 rintro mm x0 x1 x5 x6 x7 w' ⟨k, hk, rfl, rfl, rfl, rfl, rfl, rfl, rfl⟩
 refine yaC (fun hlt => ?_) fun hge => ?_
 ·have hk' : k < 32 := by omega
  rw [if_neg (by omega)]
  have hp : 2 ^ k ≤ 2 ^ 31 := Nat.pow_le_pow_right (by omega) (by omega)
  have hx := yhP ha hb
  have a1 : a / 2 ^ k ≤ a := Nat.div_le_self _ _
  have b1 : b / 2 ^ k ≤ b := Nat.div_le_self _ _
  have dx := ys5 a b k
  have dm := ys6 (a / 2 ^ k) (b / 2 ^ k)
  rw [← dx] at dm
  have ms : (a ^^^ b) % 2 ^ (k + 1) = (a ^^^ b) % 2 ^ k + 2 ^ k * ((a ^^^ b) / 2 ^ k % 2) := Nat.mod_pow_succ
  have lt1 : (a ^^^ b) % 2 ^ k < 2 ^ k := Nat.mod_lt _ (Nat.pow_pos (by omega))
  have da : a / 2 ^ (k + 1) = a / 2 ^ k / 2 := by rw [Nat.pow_succ, Nat.div_div_eq_div_mul]
  have db : b / 2 ^ (k + 1) = b / 2 ^ k / 2 := by rw [Nat.pow_succ, Nat.div_div_eq_div_mul]
  have p31 : k = 31 → 2 ^ k = 2147483648 := fun h => by subst h; rfl
  have ps : 2 ^ (k + 1) = 2 * 2 ^ k := by rw [Nat.pow_succ]; omega
  have p30 : k ≠ 31 → 2 ^ k ≤ 1073741824 := fun h => Nat.pow_le_pow_right (n := 2) (by omega) (show k ≤ 30 by omega)
  generalize hP : 2 ^ k = P at *
  generalize a / P = A at *
  generalize b / P = B at *
  generalize (a ^^^ b) / P = X at *
  generalize (a ^^^ b) % P = Y at *
  have ek : IntKind.wrap .i64 ((k : Int) + 1) = ((k + 1 : Nat) : Int) := by rw [yaG (by omega) (by omega)]; omega
  have eA : IntKind.wrap .u32 (Int.tdiv (A : Int) 2) = ((A / 2 : Nat) : Int) := by rw [Int.tdiv_eq_ediv_of_nonneg (by omega), IntKind.wrap_u32]; omega
  have eB : IntKind.wrap .u32 (Int.tdiv (B : Int) 2) = ((B / 2 : Nat) : Int) := by rw [Int.tdiv_eq_ediv_of_nonneg (by omega), IntKind.wrap_u32]; omega
  have eP : IntKind.wrap .u32 ((P : Int) * 2) = ((if k + 1 = 32 then 0 else 2 ^ (k + 1) : Nat) : Int) := by
   rw [IntKind.wrap_u32]
   by_cases h : k = 31
   ·rw [if_pos (by omega)]; have := p31 h; omega
   ·rw [if_neg (by omega)]; have := p30 h; omega
  have eT : ((Int.tmod (A : Int) 2) != (Int.tmod (B : Int) 2)) = decide (X % 2 = 1) := by
   rw [Int.tmod_eq_emod_of_nonneg (by omega), Int.tmod_eq_emod_of_nonneg (by omega), Bool.eq_iff_iff]
   simp
   omega
  refine ⟨by omega, by omega, ?_⟩
  rw [eT, eA, eB, eP, ek]
  refine yaC (fun hX => ⟨by omega, by omega, ?_⟩) fun hX => ⟨by omega, by omega, ?_⟩
  ·have e5 : IntKind.wrap .u32 ((Y : Int) + (P : Int)) = (((a ^^^ b) % 2 ^ (k + 1) : Nat) : Int) := by
    rw [ms, hX, IntKind.wrap_u32]; omega
   rw [e5]
   exact ylC (32 - (k + 1)) (by omega) ⟨k + 1, by omega, rfl, by rw [da], by rw [db], rfl, rfl, rfl, rfl⟩
  ·have e5 : (Y : Int) = (((a ^^^ b) % 2 ^ (k + 1) : Nat) : Int) := by
    have : X % 2 = 0 := by omega
    rw [ms, this]; omega
   rw [e5]
   exact ylC (32 - (k + 1)) (by omega) ⟨k + 1, by omega, rfl, by rw [da], by rw [db], rfl, rfl, rfl, rfl⟩
 ·have hk : k = 32 := by omega
  subst hk
  refine ⟨?_, rfl⟩
  rw [Nat.mod_eq_of_lt (by have := yhP ha hb; omega)]
def stN (x : Nat) : Nat := if x % 2 = 1 then (x / 2) ^^^ 3988292384 else x / 2
def itN (x : Nat) : Nat → Nat
 | 0 => x
 | k + 1 => stN (itN x k)
theorem yHn {x : Nat} (h : x < 4294967296) : stN x < 4294967296 := by
 unfold stN
 split
 ·exact yhP (by omega) (by omega)
 ·omega
theorem yhI {x : Nat} (h : x < 4294967296) : ∀ k, itN x k < 4294967296
 | 0 => h
 | k + 1 => yHn (yhI h k)
theorem yzG (x y : Nat) : stN (x ^^^ y) = stN x ^^^ stN y := by
 have hp := ys6 x y
 have hh := yBg x y
 unfold stN
 by_cases h1 : x % 2 = 1 <;> by_cases h2 : y % 2 = 1
 ·rw [if_neg (by omega), if_pos h1, if_pos h2, hh, Nat.xor_assoc, Nat.xor_comm 3988292384, Nat.xor_assoc, Nat.xor_self, Nat.xor_zero]
 ·rw [if_pos (by omega), if_pos h1, if_neg h2, hh, Nat.xor_assoc, Nat.xor_assoc, Nat.xor_comm 3988292384]
 ·rw [if_pos (by omega), if_neg h1, if_pos h2, hh, Nat.xor_assoc]
 ·rw [if_neg (by omega), if_neg h1, if_neg h2, hh]
theorem yzH (x y : Nat) : ∀ k, itN (x ^^^ y) k = itN x k ^^^ itN y k
 | 0 => rfl
 | k + 1 => by show stN _ = stN _ ^^^ stN _; rw [yzH x y k, yzG]
theorem yzI (x j : Nat) : ∀ k, itN x (j + k) = itN (itN x j) k
 | 0 => rfl
 | k + 1 => congrArg stN (yzI x j k)
theorem ymU (y : Nat) : stN (2 * y) = y := by unfold stN; rw [if_neg (by omega)]; omega
theorem yHo (h : Nat) : itN (16 * h) 4 = h := by
 show stN (stN (stN (stN (16 * h)))) = h
 rw [show 16 * h = 2 * (8 * h) by omega, ymU, show 8 * h = 2 * (4 * h) by omega, ymU, show 4 * h = 2 * (2 * h) by omega, ymU, ymU]
theorem nib (x : Nat) : x = (16 * (x / 16)) ^^^ (x % 16) := by
 apply Nat.eq_of_testBit_eq
 intro i
 rw [Nat.testBit_xor, show 16 * (x / 16) = 2 ^ 4 * (x / 2 ^ 4) by omega, show x % 16 = x % 2 ^ 4 by omega, Nat.testBit_two_pow_mul, Nat.testBit_mod_two_pow, Nat.testBit_div_two_pow]
 by_cases h : i < 4
 ·simp [h, show ¬ 4 ≤ i by omega]
 ·simp [h, show 4 ≤ i by omega]
theorem yDE (x : Nat) : itN x 4 = (x / 16) ^^^ itN (x % 16) 4 := by
 have h := yzH (16 * (x / 16)) (x % 16) 4
 rw [← nib, yHo] at h
 exact h
theorem yzJ {x : Nat} (h : x < 4294967296) : ymC (x : Nat) = ((stN x : Nat) : Int) := by
 have e1 : Int.fdiv (x : Int) (2 ^ (min (Int.toNat 1) 32)) = ((x / 2 : Nat) : Int) := by
  rw [Int.fdiv_eq_ediv_of_nonneg _ (by decide)]; show (x : Int) / 2 = _; omega
 have e2 : ye8 .u32 (x : Nat) 1 = ((x % 2 : Nat) : Int) := by
  have := yHm h (b := 1) (by omega)
  rw [Nat.and_one_is_mod] at this; exact this
 unfold ymC stN
 rw [e1, e2]
 by_cases hx : x % 2 = 1
 ·rw [if_pos hx, hx]
  have e3 : ye8 .u32 3988292384 (IntKind.wrap .u32 (0 - ((1 : Nat) : Int))) = ((3988292384 : Nat) : Int) := by decide +kernel
  rw [e3, yo2 (by omega) (by omega)]
 ·rw [if_neg hx, show x % 2 = 0 by omega]
  have e3 : ye8 .u32 3988292384 (IntKind.wrap .u32 (0 - ((0 : Nat) : Int))) = ((0 : Nat) : Int) := by decide +kernel
  rw [e3, yo2 (by omega) (by omega), Nat.xor_zero]
theorem yzK {x : Nat} (h : x < 4294967296) : ∀ k, yt1 (x : Nat) k = ((itN x k : Nat) : Int)
 | 0 => rfl
 | k + 1 => by show ymC (yt1 _ k) = _; rw [yzK h k, yzJ (yhI h k)]; rfl
theorem yHp {j : Nat} (h : j < 4294967296) : ydY j = ((itN j 4 : Nat) : Int) := by
 unfold ydY
 rw [show IntKind.wrap .u32 (j : Int) = (j : Nat) by rw [IntKind.wrap_u32]; omega]
 exact yzK h 4
def byN (c : Nat) (b : UInt8) : Nat := itN (c ^^^ b.toNat) 8
theorem yEm (b : UInt8) : b.toNat < 256 := b.toNat_lt
theorem yjD {c : Nat} (h : c < 4294967296) (b : UInt8) : byN c b < 4294967296 := yhI (yhP h (by have := yEm b; omega)) 8
theorem yzL {c : Nat} (h : c < 4294967296) (b : UInt8) : ydA (c : Nat) b = ((byN c b : Nat) : Int) := by
 have hb := yEm b
 have ew : IntKind.wrap .u32 ((b.toNat : Nat) : Int) = ((b.toNat : Nat) : Int) := by rw [IntKind.wrap_u32]; omega
 have half : ∀ {x : Nat}, x < 4294967296 → ydH .u32 (Int.fdiv (x : Nat) (2 ^ (min (Int.toNat 4) 32))) (ydY (Int.tmod ((x : Nat) : Int) 16).toNat) = ((itN x 4 : Nat) : Int) := fun {x} hx => by
  have e1 : Int.fdiv (x : Int) (2 ^ (min (Int.toNat 4) 32)) = ((x / 16 : Nat) : Int) := by
   rw [Int.fdiv_eq_ediv_of_nonneg _ (by decide)]; show (x : Int) / 16 = _; omega
  have e2 : (Int.tmod ((x : Nat) : Int) 16).toNat = x % 16 := by rw [Int.tmod_eq_emod_of_nonneg (by omega)]; omega
  rw [e1, e2, yHp (by omega), yo2 (by omega) (yhI (by omega) 4), yDE x]
 have hx := yhP h (b := b.toNat) (by omega)
 unfold ydA byN
 rw [ew, yo2 h (by omega), half hx, half (yhI hx 4), ← yzI]
def yo3 (c : Nat) (l : List UInt8) : Nat := l.foldl byN c
theorem ygX : ∀ (l : List UInt8) {c : Nat}, c < 4294967296 → yo3 c l < 4294967296
 | [], c, h => h
 | b :: l, c, h => ygX l (yjD h b)
theorem yCn : ∀ (l : List UInt8) {c : Nat}, c < 4294967296 → l.foldl ydA (c : Nat) = ((yo3 c l : Nat) : Int)
 | [], c, h => rfl
 | b :: l, c, h => by
  show l.foldl ydA (ydA (c : Nat) b) = _
  rw [yzL h, yCn l (yjD h b)]; rfl
theorem yH8 {c : Nat} (h : c < 4294967296) : 4294967295 ^^^ c = 4294967295 - c := by
 have e := congrArg BitVec.toNat (BitVec.xor_allOnes (x := BitVec.ofNat 32 c))
 rw [BitVec.toNat_not, BitVec.toNat_xor, BitVec.toNat_allOnes, BitVec.toNat_ofNat, Nat.mod_eq_of_lt (by omega), Nat.xor_comm] at e
 exact e
theorem yCo {c : Nat} (h : c < 4294967296) : ydH .u32 4294967295 (c : Nat) = ((4294967295 - c : Nat) : Int) := by
 have := yo2 (a := 4294967295) (b := c) (by omega) h
 rw [yH8 h] at this; exact this
theorem yCp {c : Nat} (h : c < 4294967296) (l : List UInt8) : yFt (c : Nat) l = ((4294967295 - yo3 (4294967295 - c) l : Nat) : Int) := by
 unfold yFt
 rw [yCo h, yCn l (by omega), yCo (ygX l (by omega))]
def yEn (l : List UInt8) : Nat := 4294967295 - yo3 4294967295 l
theorem ys7 (l : List UInt8) : yjW l = ((yEn l : Nat) : Int) := yCp (c := 0) (by omega) l
theorem yrA (l : List UInt8) : yEn l < 4294967296 := by unfold yEn; omega
theorem yBh {c : Nat} (hc : c < 4294967296) (s : ByteArray) (hs : s.size ≤ 1000000000000) (w : World) : Calls pP 105 #[.int .u32 (c : Nat), .string s] w fun e w' => e = .returned (.int .u32 (yFt (c : Nat) s.data.toList)) ∧ Mod [] w w' := by
 refine yaQ (yDx ?_)
 rw [yCp hc]
 have e0 : IntKind.wrap .u32 (4294967295 - (c : Int)) = ((4294967295 - c : Nat) : Int) := by rw [IntKind.wrap_u32]; omega
 rw [e0]
 refine yuG (fun mm x y w' => ∃ k : Nat, y = k ∧ k ≤ s.size ∧ x = (yo3 (4294967295 - c) (s.data.toList.take k) : Nat) ∧ w' = w ∧ mm = s.size - k) s.size ⟨0, rfl, by omega, rfl, rfl, rfl⟩ ?_
 rintro mm x y w3 ⟨k, rfl, hk, rfl, rfl, rfl⟩
 have hlt1 := ygX (s.data.toList.take k) (c := 4294967295 - c) (by omega)
 refine yaC (fun hlt => ?_) fun hge => ?_
 ·have hk' : k < s.size := by omega
  obtain ⟨b, hb, hv⟩ := ydX hk'
  have hb8 := yEm b
  refine ⟨by omega, by omega, ?_⟩
  rw [Int.toNat_natCast, hv]
  dsimp only
  rw [show IntKind.wrap .u32 ((b.toNat : Nat) : Int) = ((b.toNat : Nat) : Int) by rw [IntKind.wrap_u32]; omega]
  refine (yzF hlt1 (by omega) w3).mono ?_
  rintro e w4 ⟨rfl, rfl⟩
  refine ⟨_, rfl, ?_⟩
  have hx := yhP hlt1 (b := b.toNat) (by omega)
  refine yuH (fun mm x y w' => ∃ j : Nat, y = j ∧ j ≤ 8 ∧ x = (itN (yo3 (4294967295 - c) (s.data.toList.take k) ^^^ b.toNat) j : Nat) ∧ w' = w4 ∧ mm = 8 - j) 8 ⟨0, rfl, by omega, rfl, rfl, rfl⟩ ?_
  rintro mm x y w5 ⟨j, rfl, hj, rfl, rfl, rfl⟩
  have hi := yhI hx j
  have ej : IntKind.wrap .i64 ((j : Int) + 1) = ((j + 1 : Nat) : Int) := by rw [yaG (by omega) (by omega)]; omega
  refine yaC (fun hlt => ⟨by omega, by omega, ?_⟩) fun hge => ?_
  ·have est : itN (yo3 (4294967295 - c) (s.data.toList.take k) ^^^ b.toNat) (j + 1) = stN (itN (yo3 (4294967295 - c) (s.data.toList.take k) ^^^ b.toNat) j) := rfl
   generalize itN (yo3 (4294967295 - c) (s.data.toList.take k) ^^^ b.toNat) j = X at hi est
   have eT : ((Int.tmod (X : Int) 2) == 1) = decide (X % 2 = 1) := by
    rw [Int.tmod_eq_emod_of_nonneg (by omega), Bool.eq_iff_iff]; simp; omega
   have eH : IntKind.wrap .u32 (Int.tdiv (X : Int) 2) = ((X / 2 : Nat) : Int) := by rw [Int.tdiv_eq_ediv_of_nonneg (by omega), IntKind.wrap_u32]; omega
   rw [eT, eH, ej]
   refine yaC (fun hX => ?_) fun hX => ?_
   ·refine (yzF (a := X / 2) (b := 3988292384) (by omega) (by omega) w5).mono ?_
    rintro e w6 ⟨rfl, rfl⟩
    refine ⟨_, rfl, ylD (8 - (j + 1)) (by omega) ⟨j + 1, rfl, by omega, ?_, rfl, rfl⟩⟩
    rw [est, stN, if_pos hX]
   ·refine ylD (8 - (j + 1)) (by omega) ⟨j + 1, rfl, by omega, ?_, rfl, rfl⟩
    rw [est, stN, if_neg hX]
  ·have hj : j = 8 := by omega
   subst hj
   refine yuF (s.size - (k + 1)) (by omega) ⟨k + 1, by rw [yaG (by omega) (by omega)]; omega, by omega, ?_, rfl, rfl⟩
   rw [List.take_add_one, hb]
   show _ = (((List.foldl byN (4294967295 - c) (List.take k s.data.toList ++ [b])) : Nat) : Int)
   rw [List.foldl_append]
   rfl
 ·have hk : k = s.size := by omega
  subst hk
  have e1 : IntKind.wrap .u32 (4294967295 - ((yo3 (4294967295 - c) s.data.toList : Nat) : Int)) = ((4294967295 - yo3 (4294967295 - c) s.data.toList : Nat) : Int) := by
   have := ygX s.data.toList (c := 4294967295 - c) (by omega)
   rw [IntKind.wrap_u32]; omega
  rw [List.take_of_length_le (by simp), e1]
  exact ⟨rfl, Mod.refl _⟩
theorem yDF (s : ByteArray) (hs : s.size ≤ 1000000000000) (w : World) : Calls pP 69 #[.string s] w fun e w' => e = .returned (.int .u32 (yjW s.data.toList)) ∧ Mod [] w w' := by
 refine yaQ (yDy ?_)
 refine (yBh (c := 0) (by omega) s hs w).mono ?_
 rintro e w1 ⟨rfl, M1⟩
 exact ⟨_, rfl, rfl, M1⟩
theorem yDG {n : Nat} (hn : n < 4294967296) (w : World) : Calls pP 68 #[.int .u32 (n : Nat)] w fun e w' => e = .returned (.string (bs (ybQ (n : Nat)))) ∧ Mod [] w w' := by
 refine yaQ (yDz ?_)
 refine ⟨by omega, by omega, by omega, by omega, by omega, by omega, ?_⟩
 refine ycT fun b1 w1 c1 M1 f1 => ?_
 have k0 : lbI (n : Nat) 0 = ((n % 256 : Nat) : Int) := by
  unfold lbI; rw [Int.fdiv_eq_ediv_of_nonneg _ (by decide), IntKind.wrap_u8]; show ((n : Int) / 1) % 256 = _; omega
 have k1 : lbI (n : Nat) 1 = ((n / 256 % 256 : Nat) : Int) := by
  unfold lbI; rw [Int.fdiv_eq_ediv_of_nonneg _ (by decide), IntKind.wrap_u8]; show ((n : Int) / 256) % 256 = _; omega
 have k2 : lbI (n : Nat) 2 = ((n / 65536 % 256 : Nat) : Int) := by
  unfold lbI; rw [Int.fdiv_eq_ediv_of_nonneg _ (by decide), IntKind.wrap_u8]; show ((n : Int) / 65536) % 256 = _; omega
 have k3 : lbI (n : Nat) 3 = ((n / 16777216 : Nat) : Int) := by
  unfold lbI; rw [Int.fdiv_eq_ediv_of_nonneg _ (by decide), IntKind.wrap_u8]; show ((n : Int) / 16777216) % 256 = _; omega
 have v0 : IntKind.wrap .u8 (Int.tmod (n : Int) 256) = lbI (n : Nat) 0 := by
  rw [k0, Int.tmod_eq_emod_of_nonneg (a := (n : Int)) (by omega), IntKind.wrap_u8]; omega
 have v1 : IntKind.wrap .u8 (Int.tmod (IntKind.wrap .u32 (Int.tdiv (n : Int) 256)) 256) = lbI (n : Nat) 1 := by
  rw [k1, Int.tdiv_eq_ediv_of_nonneg (a := (n : Int)) (by omega), IntKind.wrap_u32, Int.tmod_eq_emod_of_nonneg (by omega), IntKind.wrap_u8]; omega
 have v2 : IntKind.wrap .u8 (Int.tmod (IntKind.wrap .u32 (Int.tdiv (n : Int) 65536)) 256) = lbI (n : Nat) 2 := by
  rw [k2, Int.tdiv_eq_ediv_of_nonneg (a := (n : Int)) (by omega), IntKind.wrap_u32, Int.tmod_eq_emod_of_nonneg (by omega), IntKind.wrap_u8]; omega
 have v3 : IntKind.wrap .u8 (IntKind.wrap .u32 (Int.tdiv (n : Int) 16777216)) = lbI (n : Nat) 3 := by
  rw [k3, Int.tdiv_eq_ediv_of_nonneg (a := (n : Int)) (by omega), IntKind.wrap_u32, IntKind.wrap_u8]; omega
 rw [v0, v1, v2, v3] at c1
 refine ⟨_, _, run_convert_bytes_back w1 _ _ 5 ⟨b1, 0, none⟩ 4 (ybQ (n : Nat)) Tryz.underlying40 Tryz.underlying5 Tryz.underlying9 fun j hj => ?_, rfl, M1⟩
 rw [ya1, Nat.zero_add, yaY c1]
 have hj : j < 4 := hj
 match j, hj with
 | 0, _ => simp [ybQ, yfF]
 | 1, _ => simp [ybQ, yfF]
 | 2, _ => simp [ybQ, yfF]
 | 3, _ => simp [ybQ, yfF]
theorem yzM (s : ByteArray) (hs : s.size ≤ 1000000000000) (w : World) : Calls pP 35 #[.string s] w fun e w' => e = .returned (.string (bs (ya5 s))) ∧ Mod [] w w' := by
 refine yaQ (yDA ?_)
 refine (ycR s hs w).mono ?_
 rintro e w1 ⟨rfl, M1⟩
 refine ⟨_, rfl, ?_⟩
 refine (yDF s hs w1).mono ?_
 rintro e w2 ⟨rfl, M2⟩
 rw [ys7]
 refine ⟨_, rfl, ?_⟩
 refine (yDG (yrA _) w2).mono ?_
 rintro e w3 ⟨rfl, M3⟩
 refine ⟨_, rfl, by have := (yaZ s (by omega)).2; rw [yaD, yaD]; simp only [ybQ, List.length_cons, List.length_nil]; omega, ?_, M1.trans (M2.trans M3)⟩
 rw [ybB, ya5, ys7]
theorem yzN {w : World} {a1 a2 : Option Addr} {n1 c1 n2 c2 : Nat} {l1 l2 : List ByteArray} (h1 : ybW w 1 yiX a1 n1 l1) (h2 : ybW w 1 yiX a2 n2 l2) (hl : l1.length ≤ 1000000) :
  Calls pP 109 #[.slice a1 n1 c1, .slice a2 n2 c2] w fun e w' => e = .returned (.bool (decide (l1 = l2))) ∧ Mod [] w w' := by
 refine yaQ (yFH ?_)
 have e1 := h1.1
 have e2 := h2.1
 refine yaB (fun h => ⟨congrArg Value.bool (decide_eq_false fun e => ?_).symm, Mod.refl _⟩) fun h => ?_
 ·subst e
  rw [e1, e2] at h
  simp at h
 have hlen : l1.length = l2.length := by
  simp at h
  omega
 refine yxT (fun mm x w' => ∃ k : Nat, x = k ∧ k ≤ l1.length ∧ l1.take k = l2.take k ∧ Mod [] w w' ∧ mm = l1.length - k) l1.length ⟨0, rfl, by omega, by simp, Mod.refl _, rfl⟩ ?_
 rintro mm x w1 ⟨k, rfl, hk, ht, M, rfl⟩
 refine yaC (fun hlt => ?_) fun hge => ?_
 ·have g1 : k < l1.length := by omega
  have g2 : k < l2.length := by omega
  obtain ⟨x, hx⟩ : ∃ x, l1[k]? = some x := ⟨_, List.getElem?_eq_getElem g1⟩
  obtain ⟨y, hy⟩ : ∃ y, l2[k]? = some y := ⟨_, List.getElem?_eq_getElem g2⟩
  refine (h1.keep0 M).ix hx fun q hq => yaH (by simpa [add_zero] using hq 0 _ rfl) ?_
  refine (h2.keep0 M).ix hy fun q hq => yaH (by simpa [add_zero] using hq 0 _ rfl) ?_
  rw [yf6 x y]
  refine yaB (fun hne => ?_) fun heq => ?_
  rotate_left
  rotate_right
  ·intro w2 A2
   refine ⟨congrArg Value.bool (decide_eq_false fun e => (show ¬ x = y by simpa using hne) ?_).symm, M.go0 A2.mod (by simp)⟩
   subst e
   rw [hx] at hy
   exact Option.some.inj hy
  ·intro w2 A2
   have he : x = y := by simpa using heq
   subst he
   exact yxS (l1.length - (k + 1)) (by omega) ⟨k + 1, by rw [yaG (by omega) (by omega)]; omega, by omega, yb5 ht hx hy, M.go0 A2.mod (by simp), rfl⟩
 ·have hk : k = l1.length := by omega
  subst hk
  rw [List.take_length, hlen, List.take_length] at ht
  exact ⟨congrArg Value.bool (decide_eq_true ht).symm, M⟩
theorem yrB {w : World} {a1 a2 : Option Addr} {n1 c1 n2 c2 : Nat} {l1 l2 : List PRec} (h1 : ybW w 4 yeT a1 n1 l1) (h2 : ybW w 4 yeT a2 n2 l2) (hl : l1.length ≤ 1000000) :
  Calls pP 130 #[.slice a1 n1 c1, .slice a2 n2 c2] w fun e w' => e = .returned (.bool (decide (l1 = l2))) ∧ Mod [] w w' := by
 refine yaQ (yFD ?_)
 have e1 := h1.1
 have e2 := h2.1
 refine yaB (fun h => ⟨congrArg Value.bool (decide_eq_false fun e => ?_).symm, Mod.refl _⟩) fun h => ?_
 ·subst e
  rw [e1, e2] at h
  simp at h
 have hlen : l1.length = l2.length := by
  simp at h
  omega
 refine yxR (fun mm x w' => ∃ k : Nat, x = k ∧ k ≤ l1.length ∧ l1.take k = l2.take k ∧ Mod [] w w' ∧ mm = l1.length - k) l1.length ⟨0, rfl, by omega, by simp, Mod.refl _, rfl⟩ ?_
 rintro mm x w1 ⟨k, rfl, hk, ht, M, rfl⟩
 refine yaC (fun hlt => ?_) fun hge => ?_
 ·have g1 : k < l1.length := by omega
  have g2 : k < l2.length := by omega
  obtain ⟨x, hx⟩ : ∃ x, l1[k]? = some x := ⟨_, List.getElem?_eq_getElem g1⟩
  obtain ⟨y, hy⟩ : ∃ y, l2[k]? = some y := ⟨_, List.getElem?_eq_getElem g2⟩
  refine (h1.keep0 M).ix hx fun q hq => yaM (by simpa [add_zero] using hq 0 _ rfl) (yaH (hq 1 _ rfl) (yaM (hq 2 _ rfl) (yaH (hq 3 _ rfl) ?_)))
  refine (h2.keep0 M).ix hy fun q hq => yaM (by simpa [add_zero] using hq 0 _ rfl) (yaH (hq 1 _ rfl) (yaM (hq 2 _ rfl) (yaH (hq 3 _ rfl) ?_)))
  refine ⟨_, fun w' _ => neR x y _ _ w', ?_⟩
  refine yaC (fun hne => ?_) fun heq => ?_
  ·intro w2 A2
   refine ⟨congrArg Value.bool (decide_eq_false fun e => hne ?_).symm, M.go0 A2.mod (by simp)⟩
   subst e
   rw [hx] at hy
   exact Option.some.inj hy
  ·intro w2 A2
   have he : x = y := Decidable.not_not.1 heq
   subst he
   exact yxQ (l1.length - (k + 1)) (by omega) ⟨k + 1, by rw [yaG (by omega) (by omega)]; omega, by omega, yb5 ht hx hy, M.go0 A2.mod (by simp), rfl⟩
 ·have hk : k = l1.length := by omega
  subst hk
  rw [List.take_length, hlen, List.take_length] at ht
  exact ⟨congrArg Value.bool (decide_eq_true ht).symm, M⟩
theorem yzO {w : World} {x y : PBatch} {s t : Sl} (h1 : ybW w 4 yeT s.a s.n x.recs) (h2 : ybW w 4 yeT t.a t.n y.recs) (hl : x.recs.length ≤ 1000000) :
  Calls pP 108 #[x.v s, y.v t] w fun e w' => e = .returned (.bool (decide (x = y))) ∧ Mod [] w w' := by
 obtain ⟨a1, a2, a3, a4⟩ := x
 obtain ⟨b1, b2, b3, b4⟩ := y
 refine yaQ (yFE ?_)
 intro c1 f1 c2 f2
 simp only [PBatch.mk.injEq]
 refine yaB (fun g1 => ?_) fun g1 => ?_
 ·have g1 : a1 = b1 := by simpa using g1
  refine yaB (fun g2 => ?_) fun g2 => ?_
  ·have g2 : a2 = b2 := by simpa using g2
   refine yaB (fun g3 => ?_) fun g3 => ?_
   ·have g3 : a3 = b3 := by simpa using g3
    intro w1 A1
    refine (yrB (h1.keep0 A1.mod) (h2.keep0 A1.mod) hl).mono ?_
    rintro e w2 ⟨rfl, M2⟩
    exact ⟨_, rfl, yaI.of0 M2, by simp [g1, g2, g3], A1.mod.go0 M2 (by simp)⟩
   ·intro w1 A1
    exact ⟨congrArg Value.bool (decide_eq_false (by simp at g3; rintro ⟨_, _, h, _⟩; exact g3 h)).symm, A1.mod⟩
  ·intro w1 A1
   exact ⟨congrArg Value.bool (decide_eq_false (by simp at g2; rintro ⟨_, h, _⟩; exact g2 h)).symm, A1.mod⟩
 ·intro w1 A1
  exact ⟨congrArg Value.bool (decide_eq_false (by simp at g1; rintro ⟨h, _⟩; exact g1 h)).symm, A1.mod⟩
theorem yrC {w : World} {a : Addr} {o : POp} {rs ts : Sl} {F : Int → ByteArray → Int → Int → Int → Int → Int → Int → Option Addr → Nat → Nat → ByteArray → ByteArray → Int → Bool → Option Addr → Nat → Nat → Prop} (h : ∀ j v, (o.cs rs ts)[j]? = some v → w.cell? (a.add j) = some v) (hF : F o.kind o.part.t o.part.n o.n o.off o.b.prod o.b.epoch o.b.seq rs.a rs.n rs.c o.g o.m o.gen o.robin ts.a ts.n ts.c) :
  yaF .i64 w a fun x0 => yaO w (a.add 1) fun x1 => yaF .i64 w (a.add 2) fun x2 => yaF .i64 w (a.add 3) fun x3 => yaF .i64 w (a.add 4) fun x4 => yaF .i64 w (a.add 5) fun x5 => yaF .i64 w (a.add 6) fun x6 => yaF .i64 w (a.add 7) fun x7 => yaS w (a.add 8) fun a8 n8 c8 => yaO w (a.add 9) fun x9 => yaO w (a.add 10) fun x10 => yaF .i64 w (a.add 11) fun x11 => yaT w (a.add 12) fun x12 => yaS w (a.add 13) fun a13 n13 c13 => F x0 x1 x2 x3 x4 x5 x6 x7 a8 n8 c8 x9 x10 x11 x12 a13 n13 c13 :=
 yaE (x := o.kind) (by simpa [add_zero] using h 0 _ rfl) (yaH (h 1 _ rfl) (yaE (h 2 _ rfl) (yaE (h 3 _ rfl) (yaE (h 4 _ rfl) (yaE (h 5 _ rfl) (yaE (h 6 _ rfl) (yaE (h 7 _ rfl) (ybK (h 8 _ rfl) (yaH (h 9 _ rfl) (yaH (h 10 _ rfl) (yaE (h 11 _ rfl) (yaM (h 12 _ rfl) (ybK (h 13 _ rfl) hF)))))))))))))
theorem yHq {w : World} {x y : POp} {rs ts rs' ts' : Sl} (h1 : OpAt w x rs ts) (h2 : OpAt w y rs' ts') :
  Calls pP 75 #[x.v rs ts, y.v rs' ts'] w fun e w' => e = .returned (.bool (decide (x = y))) ∧ Mod [] w w' := by
 obtain ⟨k1, p1, n1, o1, b1, g1, m1, e1, r1, t1⟩ := x
 obtain ⟨k2, p2, n2, o2, b2, g2, m2, e2, r2, t2⟩ := y
 refine yaQ (yFI ?_)
 intro c1 f1 c2 f2
 simp only [POp.mk.injEq]
 have no : ∀ {P : Prop} [Decidable P] {w' : World}, ¬ P → Mod [] w w' → (Value.bool false = Value.bool (decide P) ∧ Mod [] w w') := fun hn M => ⟨congrArg Value.bool (decide_eq_false hn).symm, M⟩
 refine yaB (fun q1 => ?_) fun q1 => ?_
 rotate_left
 ·intro w1 A1
  exact no (by simp at q1; rintro ⟨h, _⟩; exact q1 h) A1.mod
 have q1 : k1 = k2 := by simpa using q1
 intro w1 A1
 have M1 := A1.mod
 refine ⟨_, fun w' _ => yIn p1 p2 _ _ w', yaB (fun q2 => ?_) fun q2 => no (by simp at q2; rintro ⟨_, h, _⟩; exact q2 h) M1⟩
 have q2 : p1 = p2 := by simpa using q2
 refine yaB (fun q3 => ?_) fun q3 => no (by simp at q3; rintro ⟨_, _, h, _⟩; exact q3 h) M1
 have q3 : n1 = n2 := by simpa using q3
 refine yaB (fun q4 => ?_) fun q4 => no (by simp at q4; rintro ⟨_, _, _, h, _⟩; exact q4 h) M1
 have q4 : o1 = o2 := by simpa using q4
 refine (yzO (x := b1) (y := b2) (s := rs) (t := rs') (h1.recs.keep0 M1) (h2.recs.keep0 M1) h1.lr).mono ?_
 rintro e w2 ⟨rfl, M2⟩
 have N2 := M1.go0 M2 (by simp)
 refine ⟨_, rfl, yaI.of0 M2, yaB (fun q9 => ?_) fun q9 => no (by simp at q9; rintro ⟨_, _, _, _, h, _⟩; exact q9 h) N2⟩
 have q9 : b1 = b2 := by simpa using q9
 rw [yf6, yf6]
 refine yaB (fun q5 => ?_) fun q5 => no (by simp at q5; rintro ⟨_, _, _, _, _, h, _⟩; exact q5 h) N2
 have q5 : g1 = g2 := by simpa using q5
 refine yaB (fun q6 => ?_) fun q6 => no (by simp at q6; rintro ⟨_, _, _, _, _, _, h, _⟩; exact q6 h) N2
 have q6 : m1 = m2 := by simpa using q6
 refine yaB (fun q7 => ?_) fun q7 => no (by simp at q7; rintro ⟨_, _, _, _, _, _, _, h, _⟩; exact q7 h) N2
 have q7 : e1 = e2 := by simpa using q7
 refine yaB (fun q8 => ?_) fun q8 => no (by simp at q8; rintro ⟨_, _, _, _, _, _, _, _, h, _⟩; exact q8 h) N2
 have q8 : r1 = r2 := by simpa using q8
 refine (yzN (h1.topics.keep0 N2) (h2.topics.keep0 N2) h1.lt).mono ?_
 rintro e w3 ⟨rfl, M3⟩
 exact ⟨_, rfl, yaI.of0 M3, by simp [q1, q2, q3, q4, q5, q6, q7, q8, q9], N2.go0 M3 (by simp)⟩
theorem ymV {w : World} {q : CV} {a : Addr} (h : ∀ j v, q.cs[j]? = some v → w.cell? (a.add j) = some v) : ∀ j v, (q.x.op.cs q.rs q.ts)[j]? = some v → w.cell? ((a.add 2).add j) = some v := fun j v hv => by
 rw [yeS, Nat.add_comm 2 j]
 exact h (j + 2) v hv
theorem yzP {w : World} {s t : Sl} {xs ys : List PCall} (h : yeJ w s xs) (h' : yeJ w t ys) (hl : xs.length ≤ 1000000) :
  Calls pP 39 #[.slice s.a s.n s.c, .slice t.a t.n t.c] w fun e w' => e = .returned (.bool (decide (xs = ys))) ∧ Mod [] w w' := by
 obtain ⟨la, hA, gA, rfl⟩ := h
 obtain ⟨lb, hB, gB, rfl⟩ := h'
 have hl : la.length ≤ 1000000 := by simpa using hl
 have e1 := hA.1
 have e2 := hB.1
 refine yaQ (yGA ?_)
 refine yaB (fun g => ⟨congrArg Value.bool (decide_eq_false fun e => ?_).symm, Mod.refl _⟩) fun g => ?_
 ·have := congrArg List.length e
  simp at this g
  omega
 have g : la.length = lb.length := by simp at g; omega
 refine yyG (fun mm x w' => ∃ k : Nat, x = k ∧ k ≤ la.length ∧ (la.take k).map (·.x) = (lb.take k).map (·.x) ∧ Mod [] w w' ∧ mm = la.length - k) la.length ⟨0, rfl, by omega, by simp, Mod.refl _, rfl⟩ ?_
 rintro mm x w1 ⟨k, rfl, hk, ht, M1, rfl⟩
 refine yaC (fun hlt => ?_) fun hge => ?_
 ·have g1 : k < la.length := by omega
  have g2 : k < lb.length := by omega
  obtain ⟨x, hx⟩ : ∃ x, la[k]? = some x := ⟨_, List.getElem?_eq_getElem g1⟩
  obtain ⟨y, hy⟩ : ∃ y, lb[k]? = some y := ⟨_, List.getElem?_eq_getElem g2⟩
  have bad : ∀ {w'}, x.x ≠ y.x → Mod [] w w' → (Value.bool false = Value.bool (decide (la.map (·.x) = lb.map (·.x))) ∧ Mod [] w w') := fun {w'} hne M => by
   refine ⟨congrArg Value.bool (decide_eq_false fun e => hne ?_).symm, M⟩
   have := congrArg (fun l : List PCall => l[k]?) e
   simpa [hx, hy] using this
  refine (hA.keep0 M1).ixW hx fun q hq => ?_
  intro w2 A2
  have hq := hq w2 A2.mod
  have N2 := M1.go0 A2.mod (by simp)
  refine yaE (x := x.x.c) (by simpa [add_zero] using hq 0 _ rfl) ?_
  refine (hB.keep0 N2).ix hy fun q' hq' => yaE (x := y.x.c) (by simpa [add_zero] using hq' 0 _ rfl) ?_
  refine yaB (fun h1 => bad (fun e => by simp [e] at h1) N2) fun h1 => ?_
  have h1 : x.x.c = y.x.c := by simpa using h1
  refine (hA.keep0 N2).ix hx fun q hq => yaE (x := x.x.n) (hq 1 _ rfl) ?_
  refine (hB.keep0 N2).ix hy fun q' hq' => yaE (x := y.x.n) (hq' 1 _ rfl) ?_
  refine yaB (fun h2 => bad (fun e => by simp [e] at h2) N2) fun h2 => ?_
  have h2 : x.x.n = y.x.n := by simpa using h2
  refine (hA.keep0 N2).ix hx fun q hq => yrC (ymV hq) ?_
  refine (hB.keep0 N2).ix hy fun q' hq' => yrC (ymV hq') ?_
  refine (yHq ((gA x (List.mem_of_getElem? hx)).keep0 N2) ((gB y (List.mem_of_getElem? hy)).keep0 N2)).mono ?_
  rintro e w3 ⟨rfl, M3⟩
  have N3 := N2.go0 M3 (by simp)
  refine ⟨_, rfl, yaB (fun h3 => bad (fun e => by simp [e] at h3) N3) fun h3 => ?_⟩
  have h3 : x.x.op = y.x.op := by simpa using h3
  have he : x.x = y.x := by
   obtain ⟨⟨a, b, c⟩, _, _⟩ := x
   obtain ⟨⟨a', b', c'⟩, _, _⟩ := y
   simp at h1 h2 h3 ⊢; exact ⟨h1, h2, h3⟩
  exact yyF (la.length - (k + 1)) (by omega) ⟨k + 1, by rw [yaG (by omega) (by omega)]; omega, by omega, by rw [List.take_add_one, List.take_add_one, hx, hy, List.map_append, List.map_append, ht]; simp [he], N3, rfl⟩
 ·have hk : k = la.length := by omega
  subst hk
  rw [List.take_length, g, List.take_length] at ht
  exact ⟨congrArg Value.bool (decide_eq_true ht).symm, M1⟩
theorem ymW {w : World} (m : PMail) (s f p : Sl) : Calls pP 30 #[m.v s f p] w fun e w' => ∃ v, e = .returned v ∧ ∃ b, v = .slice (some ⟨b, 0, none⟩) 10 10 ∧ ybW w' 1 (fun x : Int => [.int .i64 x]) (some ⟨b, 0, none⟩) 10 (yaR m) ∧ Mod [] w w' := by
 refine yGu ?_
 intro b1 f1 w2 A2
 refine ycT fun b w1 c1 M1 f1 => ?_
 refine ⟨b, rfl, ⟨rfl, fun i x hx => ⟨_, rfl, fun j v hv => ?_⟩⟩, A2.mod.go0 M1 (by simp)⟩
 have hj : j = 0 := by have := (List.getElem?_eq_some_iff.1 hv).1; simp at this; omega
 subst hj
 simp at hv; subst hv
 rw [ya1, ya1, yaY c1]
 have hi := (List.getElem?_eq_some_iff.1 hx).1
 simp [yaR] at hi
 match i, hi, hx with
 | 0, _, hx | 1, _, hx | 2, _, hx | 3, _, hx | 4, _, hx | 5, _, hx | 6, _, hx | 7, _, hx | 8, _, hx | 9, _, hx => simp [yaR] at hx; subst hx; rfl
theorem ymX {w : World} {m m' : PMail} {s f p s' f' p' : Sl} (h : MailAt w m s f p) (h' : MailAt w m' s' f' p') (hl : m.calls.length ≤ 1000000) :
  Calls pP 15 #[m.v s f p, m'.v s' f' p'] w fun e w' => e = .returned (.bool (decide (m = m'))) ∧ Mod [] w w' := by
 refine yaQ (yGx ?_)
 intro b1 f1 b2 f2 w3 A3
 refine (ymW m s f p).mono ?_
 rintro e w4 ⟨_, rfl, c4, rfl, h4, M4⟩
 refine ⟨_, _, _, rfl, yaI.of0 M4, rfl, ?_⟩
 refine (ymW m' s' f' p').mono ?_
 rintro e w5 ⟨_, rfl, c5, rfl, h5, M5⟩
 refine ⟨_, _, _, rfl, yaI.of0 M5, ?_⟩
 have N5 := (A3.mod.go0 M4 (by simp)).go0 M5 (by simp)
 have h4 := h4.keep0 M5
 have hm : m = m' ↔ yaR m = yaR m' ∧ m.calls = m'.calls ∧ m.r = m'.r := by
  obtain ⟨a1, a2, a3, a4, a5, a6, a7, a8, a9, a10, a11, a12⟩ := m
  obtain ⟨b1, b2, b3, b4, b5, b6, b7, b8, b9, b10, b11, b12⟩ := m'
  simp [yaR, and_assoc]
 have no : ∀ {w'}, m ≠ m' → Mod [] w w' → (Value.bool false = Value.bool (decide (m = m')) ∧ Mod [] w w') := fun hn M => ⟨congrArg Value.bool (decide_eq_false hn).symm, M⟩
 refine yyE (fun mm x w' => ∃ k : Nat, x = k ∧ k ≤ 10 ∧ (yaR m).take k = (yaR m').take k ∧ Mod [] w5 w' ∧ mm = 10 - k) 10 ⟨0, rfl, by omega, by simp, Mod.refl _, rfl⟩ ?_
 rintro mm x w6 ⟨k, rfl, hk, ht, M6, rfl⟩
 have N6 := N5.go0 M6 (by simp)
 refine yaC (fun hlt => ?_) fun hge => ?_
 ·have hk : k < 10 := by omega
  obtain ⟨x, hx⟩ : ∃ x, (yaR m)[k]? = some x := ⟨_, List.getElem?_eq_getElem (by simpa [yaR] using hk)⟩
  obtain ⟨y, hy⟩ : ∃ y, (yaR m')[k]? = some y := ⟨_, List.getElem?_eq_getElem (by simpa [yaR] using hk)⟩
  refine (h4.keep0 M6).ix hx fun q hq => yaE (x := x) (by simpa [add_zero] using hq 0 _ rfl) ?_
  refine (h5.keep0 M6).ix hy fun q hq => yaE (x := y) (by simpa [add_zero] using hq 0 _ rfl) ?_
  refine yaB (fun g => fun w7 A7 => no (fun e => ?_) (N6.go0 A7.mod (by simp))) fun g => fun w7 A7 => ?_
  ·subst e
   rw [hx] at hy
   have := Option.some.inj hy
   simp [this] at g
  ·have g : x = y := by simpa using g
   subst g
   exact yyD (10 - (k + 1)) (by omega) ⟨k + 1, by rw [yaG (by omega) (by omega)]; omega, by omega, yb5 ht hx hy, M6.go0 A7.mod (by simp), rfl⟩
 ·have hk : k = 10 := by omega
  subst hk
  rw [List.take_of_length_le (by simp [yaR]), List.take_of_length_le (by simp [yaR])] at ht
  refine (yzP (s := s) (t := s') (h.calls.keep0 N6) (h'.calls.keep0 N6) hl).mono ?_
  rintro e w7 ⟨rfl, M7⟩
  have N7 := N6.go0 M7 (by simp)
  refine ⟨_, rfl, yaI.of0 M7, yaB (fun g => ?_) fun g => no (fun e => by simp [e] at g) N7⟩
  have g : m.calls = m'.calls := by simpa using g
  refine (yw0 (h.rep.keep0 N7) (h'.rep.keep0 N7)).mono ?_
  rintro e w8 ⟨rfl, M8⟩
  refine ⟨_, rfl, yaI.of0 M8, ?_, N7.go0 M8 (by simp)⟩
  congr 1
  apply Bool.eq_iff_iff.2
  simp [hm, ht, g]
end Go.Proofs.YtkbcmppbjfpjmaaGreat
namespace Go.Proofs.YtkbcmppbjfpjmaaGreat
open Go Go.RowKit Go.ChangeShapes Go.WideShapes Go.ChangeAt
set_option linter.unusedVariables false
set_option linter.unusedSimpArgs false
def ylE : Option TypeDesc → Bool
 | some (.int _) | some .bool | some .string | some (.slice _) | some (.struct _) => true
 | _ => false
inductive OkT (P : Program) (w : World) : TypeId → List Value → Prop
 | int {t : TypeId} {k : IntKind} {x : Int} (h : P.underlying t = some (.int k)) (hw : (Lit.int k x).wf = true) : OkT P w t [.int k x]
 | bool {t : TypeId} {b : Bool} (h : P.underlying t = some .bool) : OkT P w t [.bool b]
 | string {t : TypeId} {s : ByteArray} (h : P.underlying t = some .string) (hs : s.size ≤ maxLen) : OkT P w t [.string s]
 | nilSlice {t e : TypeId} (h : P.underlying t = some (.slice e)) : OkT P w t [.slice none 0 0]
 | slice {t e : TypeId} {ad : Addr} {len cap : Nat} (rows : Nat → List Value) (h : P.underlying t = some (.slice e)) (hl : len ≤ cap) (hc : cap ≤ maxLen) (h1 : ∀ i, i < len → (rows i).length = P.cellsOf e)
  (h2 : ∀ i, i < len → ∀ j v, (rows i)[j]? = some v → w.cell? ((ad.add (i * P.cellsOf e)).add j) = some v) (h3 : ∀ i, i < len → OkT P w e (rows i)) : OkT P w t [.slice (some ad) len cap]
 | struct {t : TypeId} {fs : Array Field} {cs : List Value} (h : P.underlying t = some (.struct fs)) (hn : cs.length = P.cellsOf t) (hf : ∀ f ∈ fs.toList, OkT P w f.type ((cs.drop f.offset).take (P.cellsOf f.type))) : OkT P w t cs
 | other {t : TypeId} {cs : List Value} (h : ylE (P.underlying t) = false) : OkT P w t cs
theorem yjE {α β : Type} {f : α → Option β} : ∀ {l : List α} {r : List β}, l.mapM f = some r → ∀ a ∈ l, ∃ b, f a = some b
 | [], _, _, a, ha => by cases ha
 | x :: l, r, h, a, ha => by
  rw [List.mapM_cons] at h
  simp only [Option.pure_def, Option.bind_eq_bind, Option.bind_eq_some_iff] at h
  obtain ⟨b, hb, r', hr, _⟩ := h
  rcases List.mem_cons.1 ha with rfl | ha
  ·exact ⟨b, hb⟩
  ·exact yjE hr a ha
theorem ys8 {α β : Type} {f : α → Option β} : ∀ {l : List α} {r : List β}, l.mapM f = some r → ∀ (j : Nat) (b : β), r[j]? = some b → ∃ a, l[j]? = some a ∧ f a = some b
 | [], r, h, j, b, hb => by simp at h; subst h; simp at hb
 | x :: l, r, h, j, b, hb => by
  rw [List.mapM_cons] at h
  simp only [Option.pure_def, Option.bind_eq_bind, Option.bind_eq_some_iff, Option.some.injEq] at h
  obtain ⟨b', hb', r', hr, rfl⟩ := h
  cases j with
  | zero => simp at hb; subst hb; exact ⟨x, rfl, hb'⟩
  | succ j => obtain ⟨a, h1, h2⟩ := ys8 hr j b (by simpa using hb); exact ⟨a, by simpa using h1, h2⟩
theorem ys9 {α β : Type} {f : α → Option β} : ∀ {l : List α} {r : List β}, l.mapM f = some r → r.length = l.length
 | [], r, h => by simp at h; subst h; rfl
 | x :: l, r, h => by
  rw [List.mapM_cons] at h
  simp only [Option.pure_def, Option.bind_eq_bind, Option.bind_eq_some_iff, Option.some.injEq] at h
  obtain ⟨b', hb', r', hr, rfl⟩ := h
  simp [ys9 hr]
theorem yzQ {w : World} {base n : Nat} {a : Addr} {row : List Value} (h : w.cells? base a n = some row) : row.length = n := by
 unfold World.cells? at h
 split at h
 ·simpa using ys9 h
 ·cases h
theorem yzR {w : World} {base n : Nat} {a : Addr} {row : List Value} (h : w.cells? base a n = some row) : ∀ j v, row[j]? = some v → w.cell? (a.add j) = some v := by
 intro j v hv
 unfold World.cells? at h
 split at h
 ·obtain ⟨j', h1, h2⟩ := ys8 h j v hv
  obtain ⟨hj, rfl⟩ : j < n ∧ j = j' := by
   obtain ⟨x, y⟩ := List.getElem?_eq_some_iff.1 h1
   simp at x y; exact ⟨x, y⟩
  exact h2
 ·cases h
theorem yDH {H : Type} {enc : TypeId × Value → H} {P : Program} {w : World} {base : Nat} {sp : Nat → Bool} {held : Bool} : ∀ {fuel : Nat} {t : TypeId} {cs : List Value} {x : DataW H × List MemPlace}, DataW.trod enc P w base sp held fuel t cs = some x → OkT P w t cs := by
 intro fuel
 induction fuel with
 | zero => intro t cs x h; cases h
 | succ n ih =>
  intro t cs x h
  cases hu : P.underlying t with
  | none => exact .other (by rw [hu]; rfl)
  | some d =>
   cases d with
   | bool =>
     unfold DataW.trod at h
     rw [hu] at h
     split at h <;> simp_all
     exact .bool hu
   | int k =>
     unfold DataW.trod at h
     rw [hu] at h
     split at h <;> simp_all
     obtain ⟨⟨rfl, hw⟩, _⟩ := h
     exact .int hu hw
   | string =>
     unfold DataW.trod at h
     rw [hu] at h
     split at h <;> simp_all
     exact .string hu h.1
   | slice e =>
     rcases Go.Deep.open_slice hu h with ⟨rfl, _⟩ | ⟨a, len, cap, m, n', D, Pl, rfl, hb, hl, hc, hm, _, hel⟩
     ·exact .nilSlice hu
     ·unfold DataW.trod at h
      rw [hu] at h
      simp only at h
      split at h
      case isFalse => cases h
      rename_i hcond
      simp only [Option.bind_eq_some_iff] at h
      obtain ⟨elems, h1, _⟩ := h
      have key : ∀ i, i < len → ∃ row y, w.cells? base (a.add (i * P.cellsOf e)) (P.cellsOf e) = some row ∧ DataW.trod enc P w base sp held n e row = some y := fun i hi => by
       obtain ⟨y, hy⟩ := yjE h1 i (by simpa using hi)
       simp only [Option.bind_eq_some_iff] at hy
       obtain ⟨row, hr1, hr2⟩ := hy
       exact ⟨row, y, hr1, hr2⟩
      classical
      refine .slice (fun i => if hi : i < len then (key i hi).choose else []) hu hl hc (fun i hi => ?_) (fun i hi j v hv => ?_) (fun i hi => ?_)
      ·simp only [dif_pos hi]
       obtain ⟨y, hr1, hr2⟩ := (key i hi).choose_spec
       exact yzQ hr1
      ·simp only [dif_pos hi] at hv
       obtain ⟨y, hr1, hr2⟩ := (key i hi).choose_spec
       exact yzR hr1 j v hv
      ·simp only [dif_pos hi]
       obtain ⟨y, hr1, hr2⟩ := (key i hi).choose_spec
       exact ih hr2
   | struct fs =>
    unfold DataW.trod at h
    rw [hu] at h
    simp only at h
    split at h
    ·rename_i hn
     simp only [Option.map_eq_some_iff] at h
     obtain ⟨xs, h1, _⟩ := h
     refine .struct hu hn fun f hf => ?_
     obtain ⟨y, hy⟩ := yjE h1 f hf
     exact ih hy
    ·cases h
   | _ => exact .other (by rw [hu]; rfl)
theorem OkT.int_inv {P : Program} {w : World} {t : TypeId} {k : IntKind} {cs : List Value} (h : OkT P w t cs) (hu : P.underlying t = some (.int k)) : ∃ x, cs = [.int k x] ∧ (Lit.int k x).wf = true := by
 cases h <;> simp_all [ylE]
theorem OkT.bool_inv {P : Program} {w : World} {t : TypeId} {cs : List Value} (h : OkT P w t cs) (hu : P.underlying t = some .bool) : ∃ b, cs = [.bool b] := by
 cases h <;> simp_all [ylE]
theorem OkT.string_inv {P : Program} {w : World} {t : TypeId} {cs : List Value} (h : OkT P w t cs) (hu : P.underlying t = some .string) : ∃ s, cs = [.string s] ∧ s.size ≤ maxLen := by
 cases h <;> simp_all [ylE]
theorem OkT.struct_inv {P : Program} {w : World} {t : TypeId} {fs : Array Field} {cs : List Value} (h : OkT P w t cs) (hu : P.underlying t = some (.struct fs)) : cs.length = P.cellsOf t ∧ ∀ f ∈ fs.toList, OkT P w f.type ((cs.drop f.offset).take (P.cellsOf f.type)) := by
 cases h with
 | struct h hn hf => rw [hu] at h; cases h; exact ⟨hn, hf⟩
 | _ => simp_all [ylE]
theorem OkT.slice_inv {P : Program} {w : World} {t e : TypeId} {cs : List Value} {α : Type} {enc : α → List Value} {good : α → Prop} (h : OkT P w t cs) (hu : P.underlying t = some (.slice e))
  (he : ∀ row, OkT P w e row → row.length = P.cellsOf e → ∃ x, row = enc x ∧ good x) : ∃ a len cap l, cs = [.slice a len cap] ∧ ybW w (P.cellsOf e) enc a len l ∧ (∀ x ∈ l, good x) ∧ len ≤ cap ∧ cap ≤ maxLen := by
 cases h with
 | nilSlice h => exact ⟨none, 0, 0, [], rfl, ⟨rfl, by simp⟩, by simp, Nat.le_refl _, by decide⟩
 | @slice _ _ ad len cap rows h hl hc h1 h2 h3 =>
  rw [hu] at h; cases h
  have key : ∀ i, i < len → ∃ x, rows i = enc x ∧ good x := fun i hi => he _ (h3 i hi) (h1 i hi)
  classical
  by_cases h0 : len = 0
  ·subst h0
   exact ⟨_, _, _, [], rfl, ⟨rfl, by simp⟩, by simp, hl, hc⟩
  have x0 : α := (key 0 (by omega)).choose
  refine ⟨some ad, len, cap, (List.range len).map (fun i => if hi : i < len then (key i hi).choose else x0), rfl, ⟨by simp, fun i x hx => ⟨ad, rfl, fun j v hv => ?_⟩⟩, fun x hx => ?_, hl, hc⟩
  ·rw [List.getElem?_map] at hx
   simp only [Option.map_eq_some_iff] at hx
   obtain ⟨i', hi', rfl⟩ := hx
   obtain ⟨hil, rfl⟩ : i < len ∧ i = i' := by
    obtain ⟨a, b⟩ := List.getElem?_eq_some_iff.1 hi'
    simp at a b; exact ⟨a, b⟩
   simp only [dif_pos hil] at hv
   rw [← (key i hil).choose_spec.1] at hv
   exact h2 i hil j v hv
  ·simp only [List.mem_map, List.mem_range] at hx
   obtain ⟨i, hi, rfl⟩ := hx
   simp only [dif_pos hi]
   exact (key i hi).choose_spec.2
 | _ => simp_all [ylE]
end Go.Proofs.YtkbcmppbjfpjmaaGreat
namespace Go.Proofs.YtkbcmppbjfpjmaaGreat
open Go Go.RowKit Go.Maps Go.MapKept
set_option linter.unusedVariables false
set_option linter.unusedSimpArgs false
structure RepRd (w : World) (r : PRep) (f p : Sl) : Prop where
 found : ybW w 5 yhL f.a f.n r.found
 parts : ybW w 2 yiS p.a p.n r.parts
 wf : f.n ≤ maxLen
 wp : p.n ≤ maxLen
 sf : ∀ x ∈ r.found, x.r.key.size ≤ maxLen ∧ x.r.val.size ≤ maxLen
 sp : ∀ x ∈ r.parts, x.t.size ≤ maxLen
theorem RepRd.keep0 {w w' : World} {r : PRep} {f p : Sl} (h : RepRd w r f p) (M : Mod [] w w') : RepRd w' r f p := ⟨h.found.keep0 M, h.parts.keep0 M, h.wf, h.wp, h.sf, h.sp⟩
theorem cI : Tryz.prog.cellsOf 3 = 1 := by kernel_rfl
theorem cB : Tryz.prog.cellsOf 4 = 1 := by kernel_rfl
theorem cS : Tryz.prog.cellsOf 9 = 1 := by kernel_rfl
theorem cE : Tryz.prog.cellsOf 23 = 1 := by kernel_rfl
theorem cSF : Tryz.prog.cellsOf 24 = 1 := by kernel_rfl
theorem cSP : Tryz.prog.cellsOf 25 = 1 := by kernel_rfl
theorem cSR : Tryz.prog.cellsOf 44 = 1 := by kernel_rfl
theorem cSS : Tryz.prog.cellsOf 47 = 1 := by kernel_rfl
theorem cSC : Tryz.prog.cellsOf 22 = 1 := by kernel_rfl
theorem cRc : Tryz.prog.cellsOf 53 = 4 := by kernel_rfl
theorem cFd : Tryz.prog.cellsOf 55 = 5 := by kernel_rfl
theorem cPt : Tryz.prog.cellsOf 43 = 2 := by kernel_rfl
theorem cRp : Tryz.prog.cellsOf 27 = 6 := by kernel_rfl
theorem cBt : Tryz.prog.cellsOf 46 = 4 := by kernel_rfl
theorem cOp : Tryz.prog.cellsOf 49 = 14 := by kernel_rfl
theorem cCl : Tryz.prog.cellsOf 51 = 16 := by kernel_rfl
theorem cMl : Tryz.prog.cellsOf 29 = 17 := by kernel_rfl
theorem yzS (w : World) (row : List Value) (h : OkT pP w 53 row) (hl : row.length = Tryz.prog.cellsOf 53) : ∃ r : PRec, row = [.bool r.hk, .string r.key, .bool r.tomb, .string r.val] ∧ r.key.size ≤ maxLen ∧ r.val.size ≤ maxLen := by
 rw [cRc] at hl
 match row, hl with
 | [a, b, c, d], _ =>
  obtain ⟨_, hf⟩ := h.struct_inv Tryz.underlying53
  simp [cI, cB, cS, cE] at hf
  obtain ⟨ha, hb, hc, hd⟩ := hf
  obtain ⟨x1, e1⟩ := ha.bool_inv Tryz.underlying4
  obtain ⟨x2, e2, g2⟩ := hb.string_inv Tryz.underlying9
  obtain ⟨x3, e3⟩ := hc.bool_inv Tryz.underlying4
  obtain ⟨x4, e4, g4⟩ := hd.string_inv Tryz.underlying9
  simp at e1 e2 e3 e4
  subst e1 e2 e3 e4
  exact ⟨⟨x1, x2, x3, x4⟩, rfl, g2, g4⟩
theorem yzT (w : World) (row : List Value) (h : OkT pP w 55 row) (hl : row.length = Tryz.prog.cellsOf 55) : ∃ x : PFound, row = yhL x ∧ (x.r.key.size ≤ maxLen ∧ x.r.val.size ≤ maxLen) := by
 have hl' := hl
 rw [cFd] at hl
 match row, hl with
 | [a, b, c, d, e], _ =>
  obtain ⟨_, hf⟩ := h.struct_inv Tryz.underlying55
  simp [cI, cB, cS, cE, cSF, cSP, cSR, cSS, cSC, cPt, cRc, cFd, cRp] at hf
  obtain ⟨ha, hb⟩ := hf
  obtain ⟨x1, e1, _⟩ := ha.int_inv Tryz.underlying3
  obtain ⟨r, e2, g⟩ := yzS w _ hb cRc.symm
  simp at e1 e2
  obtain ⟨rfl, rfl, rfl, rfl⟩ := e2
  subst e1
  exact ⟨⟨x1, r⟩, rfl, g⟩
theorem ytA (w : World) (row : List Value) (h : OkT pP w 43 row) (hl : row.length = Tryz.prog.cellsOf 43) : ∃ x : PPart, row = yiS x ∧ x.t.size ≤ maxLen := by
 rw [cPt] at hl
 match row, hl with
 | [a, b], _ =>
  obtain ⟨_, hf⟩ := h.struct_inv Tryz.underlying43
  simp [cI, cB, cS, cE, cSF, cSP, cSR, cSS, cSC, cPt, cRc, cFd, cRp] at hf
  obtain ⟨ha, hb⟩ := hf
  obtain ⟨x1, e1, g1⟩ := ha.string_inv Tryz.underlying9
  obtain ⟨x2, e2, _⟩ := hb.int_inv Tryz.underlying3
  simp at e1 e2
  subst e1 e2
  exact ⟨⟨x1, x2⟩, rfl, g1⟩
theorem yDI (w : World) (row : List Value) (h : OkT pP w 27 row) (hl : row.length = Tryz.prog.cellsOf 27) : ∃ (r : PRep) (f p : Sl), row = PRep.cs r f p ∧ RepRd w r f p := by
 rw [cRp] at hl
 match row, hl with
 | [a, b, c, d, e, f], _ =>
  obtain ⟨_, hf⟩ := h.struct_inv Tryz.underlying27
  simp [cI, cB, cS, cE, cSF, cSP, cSR, cSS, cSC, cPt, cRc, cFd, cRp] at hf
  obtain ⟨ha, hb, hc, hd, he, hg⟩ := hf
  obtain ⟨x1, e1, _⟩ := ha.int_inv Tryz.underlying23
  obtain ⟨x2, e2, _⟩ := hb.int_inv Tryz.underlying3
  obtain ⟨x3, e3, _⟩ := hc.int_inv Tryz.underlying3
  obtain ⟨x4, e4, _⟩ := hd.int_inv Tryz.underlying3
  obtain ⟨fa, fn, fc, fl, e5, s5, g5, u5, c5⟩ := he.slice_inv Tryz.underlying24 (yzT w)
  obtain ⟨pa, pn, pc, pl, e6, s6, g6, u6, c6⟩ := hg.slice_inv Tryz.underlying25 (ytA w)
  simp at e1 e2 e3 e4 e5 e6
  subst e1 e2 e3 e4 e5 e6
  rw [cFd] at s5
  rw [cPt] at s6
  exact ⟨⟨x1, x2, x3, x4, fl, pl⟩, ⟨fa, fn, fc⟩, ⟨pa, pn, pc⟩, rfl, ⟨s5, s6, by show fn ≤ _; omega, by show pn ≤ _; omega, g5, g6⟩⟩
theorem yDJ (w : World) (row : List Value) (h : OkT pP w 9 row) (hl : row.length = Tryz.prog.cellsOf 9) : ∃ s : ByteArray, row = yiX s ∧ s.size ≤ maxLen := by
 obtain ⟨s, rfl, g⟩ := h.string_inv Tryz.underlying9
 exact ⟨s, rfl, g⟩
structure OpRd (w : World) (o : POp) (rs ts : Sl) : Prop where
 recs : ybW w 4 yeT rs.a rs.n o.b.recs
 topics : ybW w 1 yiX ts.a ts.n o.topics
 wr : rs.n ≤ maxLen
 wt : ts.n ≤ maxLen
 sr : ∀ r ∈ o.b.recs, r.key.size ≤ maxLen ∧ r.val.size ≤ maxLen
 st : ∀ s ∈ o.topics, s.size ≤ maxLen
 sp : o.part.t.size ≤ maxLen
 sg : o.g.size ≤ maxLen
 sm : o.m.size ≤ maxLen
theorem OpRd.keep0 {w w' : World} {o : POp} {rs ts : Sl} (h : OpRd w o rs ts) (M : Mod [] w w') : OpRd w' o rs ts := ⟨h.recs.keep0 M, h.topics.keep0 M, h.wr, h.wt, h.sr, h.st, h.sp, h.sg, h.sm⟩
structure OV where
 o : POp
 rs : Sl
 ts : Sl
def OV.cs (q : OV) : List Value := q.o.cs q.rs q.ts
theorem yzU (w : World) (row : List Value) (h : OkT pP w 46 row) (hl : row.length = Tryz.prog.cellsOf 46) : ∃ (b : PBatch) (rs : Sl), row = [.int .i64 b.prod, .int .i64 b.epoch, .int .i64 b.seq, .slice rs.a rs.n rs.c] ∧ ybW w 4 yeT rs.a rs.n b.recs ∧ rs.n ≤ maxLen ∧ ∀ r ∈ b.recs, r.key.size ≤ maxLen ∧ r.val.size ≤ maxLen := by
 rw [cBt] at hl
 match row, hl with
 | [a, b, c, d], _ =>
  obtain ⟨_, hf⟩ := h.struct_inv Tryz.underlying46
  simp [cI, cB, cS, cE, cSF, cSP, cSR, cSS, cSC, cPt, cRc, cFd, cRp, cBt, cOp, cCl] at hf
  obtain ⟨ha, hb, hc, hd⟩ := hf
  obtain ⟨x1, e1, _⟩ := ha.int_inv Tryz.underlying3
  obtain ⟨x2, e2, _⟩ := hb.int_inv Tryz.underlying3
  obtain ⟨x3, e3, _⟩ := hc.int_inv Tryz.underlying3
  obtain ⟨ra, rn, rc, rl, e5, s5, g5, u5, c5⟩ := hd.slice_inv (enc := yeT) Tryz.underlying44 (yzS w)
  simp at e1 e2 e3 e5
  subst e1 e2 e3 e5
  rw [cRc] at s5
  exact ⟨⟨x1, x2, x3, rl⟩, ⟨ra, rn, rc⟩, rfl, s5, by show rn ≤ _; omega, g5⟩
theorem yHr (w : World) (row : List Value) (h : OkT pP w 49 row) (hl : row.length = Tryz.prog.cellsOf 49) : ∃ x : OV, row = OV.cs x ∧ OpRd w x.o x.rs x.ts := by
 rw [cOp] at hl
 match row, hl with
 | [a, b, c, d, e, f, g, i, j, k, l, m, n, o], _ =>
  obtain ⟨_, hf⟩ := h.struct_inv Tryz.underlying49
  simp [cI, cB, cS, cE, cSF, cSP, cSR, cSS, cSC, cPt, cRc, cFd, cRp, cBt, cOp, cCl] at hf
  obtain ⟨h1, h2, h3, h4, h5, h6, h7, h8, h9, h10⟩ := hf
  obtain ⟨x1, e1, _⟩ := h1.int_inv Tryz.underlying3
  obtain ⟨x2, e2, g2⟩ := ytA w _ h2 cPt.symm
  obtain ⟨x3, e3, _⟩ := h3.int_inv Tryz.underlying3
  obtain ⟨x4, e4, _⟩ := h4.int_inv Tryz.underlying3
  obtain ⟨x5, rs, e5, s5, w5, g5⟩ := yzU w _ h5 cBt.symm
  obtain ⟨x6, e6, g6⟩ := h6.string_inv Tryz.underlying9
  obtain ⟨x7, e7, g7⟩ := h7.string_inv Tryz.underlying9
  obtain ⟨x8, e8, _⟩ := h8.int_inv Tryz.underlying3
  obtain ⟨x9, e9⟩ := h9.bool_inv Tryz.underlying4
  obtain ⟨ta, tn, tc, tl, e10, s10, g10, u10, c10⟩ := h10.slice_inv (enc := yiX) Tryz.underlying47 (yDJ w)
  simp [yiS] at e1 e2 e3 e4 e5 e6 e7 e8 e9 e10
  subst e1 e3 e4 e6 e7 e8 e9 e10
  obtain ⟨rfl, rfl⟩ := e2
  obtain ⟨rfl, rfl, rfl, rfl⟩ := e5
  rw [cS] at s10
  exact ⟨⟨⟨x1, x2, x3, x4, x5, x6, x7, x8, x9, tl⟩, rs, ⟨ta, tn, tc⟩⟩, rfl, ⟨s5, s10, w5, by show tn ≤ _; omega, g5, g10, g2, g6, g7⟩⟩
theorem yBi (w : World) (row : List Value) (h : OkT pP w 51 row) (hl : row.length = Tryz.prog.cellsOf 51) : ∃ x : CV, row = CV.cs x ∧ OpRd w x.x.op x.rs x.ts := by
 rw [cCl] at hl
 match row, hl with
 | a :: b :: t, hl =>
  obtain ⟨_, hf⟩ := h.struct_inv Tryz.underlying51
  simp [cI, cB, cS, cE, cSF, cSP, cSR, cSS, cSC, cPt, cRc, cFd, cRp, cBt, cOp, cCl] at hf
  obtain ⟨h1, h2, h3⟩ := hf
  obtain ⟨x1, e1, _⟩ := h1.int_inv Tryz.underlying3
  obtain ⟨x2, e2, _⟩ := h2.int_inv Tryz.underlying3
  have ht : t.take 14 = t := List.take_of_length_le (by simp at hl; omega)
  rw [ht] at h3
  obtain ⟨x3, e3, g3⟩ := yHr w _ h3 (by rw [cOp]; simp at hl; omega)
  simp at e1 e2
  subst e1 e2 e3
  exact ⟨⟨⟨x1, x2, x3.o⟩, x3.rs, x3.ts⟩, rfl, g3⟩
structure MR where
 m : PMail
 s : Sl
 f : Sl
 p : Sl
def MR.cs (x : MR) : List Value := x.m.cs x.s x.f x.p
structure MailRd (w : World) (m : PMail) (s f p : Sl) : Prop where
 calls : ∃ ll : List CV, ybW w 16 CV.cs s.a s.n ll ∧ (∀ q ∈ ll, OpRd w q.x.op q.rs q.ts) ∧ ll.map (·.x) = m.calls
 ws : s.n ≤ maxLen
 rep : RepRd w m.r f p
theorem yBj (w : World) (row : List Value) (h : OkT pP w 29 row) (hl : row.length = Tryz.prog.cellsOf 29) : ∃ x : MR, row = MR.cs x ∧ MailRd w x.m x.s x.f x.p := by
 rw [cMl] at hl
 match row, hl with
 | [a, b, c, d, e, f, g, i, j, k, l, m, n, o, p, q, r], _ =>
  obtain ⟨_, hf⟩ := h.struct_inv Tryz.underlying29
  simp [cI, cB, cS, cE, cSF, cSP, cSR, cSS, cSC, cPt, cRc, cFd, cRp, cBt, cOp, cCl] at hf
  obtain ⟨h1, h2, h3, h4, h5, h6, h7, h8, h9, h10, h11, h12⟩ := hf
  obtain ⟨x1, e1, _⟩ := h1.int_inv Tryz.underlying3
  obtain ⟨x2, e2, _⟩ := h2.int_inv Tryz.underlying3
  obtain ⟨x3, e3, _⟩ := h3.int_inv Tryz.underlying3
  obtain ⟨x4, e4, _⟩ := h4.int_inv Tryz.underlying3
  obtain ⟨x5, e5, _⟩ := h5.int_inv Tryz.underlying3
  obtain ⟨x6, e6, _⟩ := h6.int_inv Tryz.underlying3
  obtain ⟨x7, e7, _⟩ := h7.int_inv Tryz.underlying3
  obtain ⟨x8, e8, _⟩ := h8.int_inv Tryz.underlying3
  obtain ⟨x9, e9, _⟩ := h9.int_inv Tryz.underlying3
  obtain ⟨x10, e10, _⟩ := h10.int_inv Tryz.underlying3
  obtain ⟨ca, cn, cc, cl, e11, s11, g11, u11, c11⟩ := h11.slice_inv Tryz.underlying22 (yBi w)
  obtain ⟨x12, fs, ps, e12, g12⟩ := yDI w _ h12 cRp.symm
  simp [PRep.cs] at e1 e2 e3 e4 e5 e6 e7 e8 e9 e10 e11 e12
  subst e1 e2 e3 e4 e5 e6 e7 e8 e9 e10 e11
  obtain ⟨rfl, rfl, rfl, rfl, rfl, rfl⟩ := e12
  rw [cCl] at s11
  exact ⟨⟨⟨x1, x2, x3, x4, x5, x6, x7, x8, x9, x10, cl.map (·.x), x12⟩, ⟨ca, cn, cc⟩, fs, ps⟩, rfl, ⟨⟨cl, s11, g11, rfl⟩, by show cn ≤ _; omega, g12⟩⟩
end Go.Proofs.YtkbcmppbjfpjmaaGreat
namespace Go.Proofs.YtkbcmppbjfpjmaaGreat
open Go Go.RowKit
set_option linter.all false
section
set_option maxRecDepth 100000
variable {R : VWP} {w w0 : World} {m : Nat} {i0 i1 i2 i3 i4 i5 i6 i7 i8 i9 j0 j1 j2 j3 j4 j5 j6 j7 j8 j9 k0 k1 k2 k3 k4 k5 k6 k7 k8 k9 l0 l1 l2 l3 l4 l5 l6 l7 l8 l9 : Int} {s0 s1 s2 s3 s4 s5 s6 s7 s8 s9 t0 t1 t2 t3 t4 t5 t6 t7 t8 t9 : BA} {n0 n1 n2 n3 n4 n5 n6 n7 n8 n9 o0 o1 o2 o3 o4 o5 o6 o7 o8 o9 p0 p1 p2 p3 p4 p5 p6 p7 p8 p9 : Nat} {q0 q1 q2 q3 q4 q5 q6 q7 q8 q9 r0 r1 r2 r3 r4 r5 r6 r7 r8 r9 : OA} {B0 B1 B2 B3 B4 B5 B6 B7 B8 B9 : Bool} {M0 M1 M2 M3 : Option Nat} {V0 V1 V2 V3 V4 V5 : Value} {A0 A1 A2 : Addr}
theorem yDK {a0 : BA} {a1 : BA} (h :
 ∀ b1, w.heap.size ≤ b1 →
 ∀ b2, w.heap.size ≤ b2 →
 slS a0 0 (if 80 < (a0.size : Int) then 80 else (a0.size : Int)) fun s3 =>
 slS a1 0 (if 600 < (a1.size : Int) then 600 else (a1.size : Int)) fun s4 =>
 ∀ w5, Adv [] [b2, b1] w w5 →
 R (.agg (Z7 B0 s3 B1 s4)) w5) :
 CR pP 116 #[(.agg (Z7 B0 a0 B1 a1))] w R :=
 yaA Tryz.wide_mixed (an := []) Tryz.func116 rfl rfl (by kernel_rfl) rfl (Eq.mpr (by kernel_rfl) h)
def ymY : LA := ⟨[0, 0, 1, 0, 1, 1], [1, 2, 3, 4], [(1, 0, 0), (2, 1, 0), (3, 2, 0)], 3, []⟩
def ymZ : List LA := [ymY]
abbrev yCq := dnF pP ymZ (code Tryz.f86)
abbrev yIs := yaP pP ymZ (code Tryz.f86)
abbrev yCr (p : List Nat) (K : List Kh) (R : VWP) := yaP pP ymZ (code Tryz.f86) p K (ya4 pP Tryz.f86 [] R)
def ygY (bm0 : Nat) (a6 a7 a8 : Int) (a0 : OA) (a4 a2 bm1 bm2 : Nat) (a9 b0 b1 : Int) : Int × (Option Addr) × Nat × Nat → List Value × List TB := fun (b2, a1, a5, a3) => ([(.pointer (some ⟨bm0, 0, none⟩)), (.pointer (some ⟨bm1, 0, none⟩)), (.pointer (some ⟨bm2, 0, none⟩)), .int .i64 b2], [⟨bm0, 46, [.int .i64 a6, .int .i64 a7, .int .i64 a8, .slice a0 a4 a2], false⟩, ⟨bm1, 46, [.int .i64 0, .int .i64 0, .int .i64 0, .slice none 0 0], false⟩, ⟨bm2, 46, [.int .i64 a9, .int .i64 b0, .int .i64 b1, .slice a1 a5 a3], false⟩])
abbrev yzV (bm0 : Nat) (a3 a4 a5 : Int) (a0 : OA) (a2 a1 bm1 bm2 : Nat) (a6 a7 a8 : Int) (I : Nat → Int → Option Addr → Nat → Nat → World → Prop) (m : Nat) : Kh := KG (ygY bm0 a3 a4 a5 a0 a2 a1 bm1 bm2 a6 a7 a8) (U4 I) m
theorem yuI {I : Nat → Int → Option Addr → Nat → Nat → World → Prop} (m' : Nat) (h1 : m' < m) (h2 : I m' i6 q1 n5 n6 w) : KS (yzV n0 i0 i1 i2 q0 n1 n2 n3 n4 i3 i4 i5 I m) (ygY n0 i0 i1 i2 q0 n1 n2 n3 n4 i3 i4 i5 (i6, q1, n5, n6)) w := ⟨m', h1, _, rfl, rfl, h2⟩
theorem yuJ {a7 : OA} {b3 : OA} (I : Nat → Int → Option Addr → Nat → Nat → World → Prop) (m0 : Nat) (h0 : I m0 i6 b3 n5 n6 w0)
 (hr : ∀ m b2 a0 a2 a1 w, I m b2 a0 a2 a1 w →
 brB (decide (b2 < (n1 : Int))) (
 brB (decide (b2 < 20)) (
 ixA a7 n1 b2 4 fun q4 =>
 ∀ w5, Adv [] [] w w5 →
 yaT w5 q4 fun t6 => yaO w5 (Addr.add q4 1) fun s7 => yaT w5 (Addr.add q4 2) fun t8 => yaO w5 (Addr.add q4 3) fun s9 =>
 Calls pP 116 #[(.agg (Z7 t6 s7 t8 s9))] w5 fun e c1 => ∃ b9 b7 c0 b8, e = .returned (.agg (Z7 b9 b7 c0 b8)) ∧ yaI [n0, n3, n4] w5 c1 ∧ (((.slice a0 a2 a1) : Value) = (.slice a0 a2 a1)) ∧
 al c1 (.cells (Z7 b9 b7 c0 b8) 53) fun c8 c2 =>
 ycP pP (Builtin.append_ #[44, 44] 44 #[.slice a0 a2 a1, (.slice (some ⟨c8, 0, none⟩) 1 1)]) c2 fun c7 d0 c9 c3 => yaI [n0, n3, n4] c2 c3 ∧
 ∀ c4, Adv [n4] [] c3 c4 →
 KS (yzV n0 i0 i1 i2 a7 n1 n2 n3 n4 i3 i4 i5 I m) (ygY n0 i0 i1 i2 a7 n1 n2 n3 n4 i3 i4 i5 ((IntKind.wrap .i64 (b2 + 1)), c7, d0, c9)) c4)
 (
 ∀ c5, Adv [n3] [] w c5 →
 R (.agg (Z8 i3 i4 i5 a0 a2 a1)) c5))
 (
 ∀ c6, Adv [n3] [] w c6 →
 R (.agg (Z8 i3 i4 i5 a0 a2 a1)) c6)) :
 yaL ymY (yCq 396 [0, 0, 1, 0, 1, 1]) (yCr [1, 1, 0, 1, 0] [] R) (ygY n0 i0 i1 i2 a7 n1 n2 n3 n4 i3 i4 i5 (i6, b3, n5, n6)) w0 :=
 lrule (ygY n0 i0 i1 i2 a7 n1 n2 n3 n4 i3 i4 i5) (U4 I) h0 (by rintro m ⟨b2, a0, a2, a1⟩ w h; exact ⟨by kernel_rfl, by kernel_rfl, fun js => Eq.mpr (by kernel_rfl) (hr m b2 a0 a2 a1 w h)⟩)
theorem yDL (h :
 ∀ b1, w.heap.size ≤ b1 →
 ∀ b2, w.heap.size ≤ b2 →
 ∀ b3, w.heap.size ≤ b3 →
 ∀ a6, Adv [] [b3, b2, b1] w a6 →
 yaL ymY (yCq 396 [0, 0, 1, 0, 1, 1]) (yCr [1, 1, 0, 1, 0] [] R) (ygY b1 i0 i1 i2 q0 n0 n1 b2 b3 i0 i1 i2 (0, none, 0, 0)) a6) :
 CR pP 86 #[(.agg (Z8 i0 i1 i2 q0 n0 n1))] w R :=
 yaA Tryz.wide_mixed (an := ymZ) Tryz.func86 rfl rfl (by kernel_rfl) rfl (Eq.mpr (by kernel_rfl) h)
def ym0 : LA := ⟨[0, 0, 1, 0, 1, 1, 1, 1, 1, 1, 1], [1, 2, 3, 4], [(1, 0, 0), (2, 1, 0), (3, 2, 0)], 3, []⟩
def ym1 : List LA := [ym0]
abbrev yCs := dnF pP ym1 (code Tryz.f52)
abbrev yIt := yaP pP ym1 (code Tryz.f52)
abbrev yCt (p : List Nat) (K : List Kh) (R : VWP) := yaP pP ym1 (code Tryz.f52) p K (ya4 pP Tryz.f52 [] R)
def ygZ (bm0 : Nat) (c2 : Int) (b8 : BA) (c3 c4 c5 c6 c7 c8 : Int) (b2 : OA) (b6 b4 : Nat) (b9 a6 : BA) (b0 : Int) (a8 : Bool) (a0 : OA) (a4 a2 bm1 bm2 : Nat) (c9 : Int) (c0 : BA) (d0 d1 d2 d3 d4 d5 : Int) (b3 : OA) (b7 b5 : Nat) (c1 a7 : BA) (b1 : Int) (a9 : Bool) : Int × (Option Addr) × Nat × Nat → List Value × List TB := fun (d6, a1, a5, a3) => ([(.pointer (some ⟨bm0, 0, none⟩)), (.pointer (some ⟨bm1, 0, none⟩)), (.pointer (some ⟨bm2, 0, none⟩)), .int .i64 d6], [⟨bm0, 49, [.int .i64 c2, .string b8, .int .i64 c3, .int .i64 c4, .int .i64 c5, .int .i64 c6, .int .i64 c7, .int .i64 c8, .slice b2 b6 b4, .string b9, .string a6, .int .i64 b0, .bool a8, .slice a0 a4 a2], false⟩, ⟨bm1, 49, [.int .i64 0, .string ByteArray.empty, .int .i64 0, .int .i64 0, .int .i64 0, .int .i64 0, .int .i64 0, .int .i64 0, .slice none 0 0, .string ByteArray.empty, .string ByteArray.empty, .int .i64 0, .bool false, .slice none 0 0], false⟩, ⟨bm2, 49, [.int .i64 c9, .string c0, .int .i64 d0, .int .i64 d1, .int .i64 d2, .int .i64 d3, .int .i64 d4, .int .i64 d5, .slice b3 b7 b5, .string c1, .string a7, .int .i64 b1, .bool a9, .slice a1 a5 a3], false⟩])
abbrev yzW (bm0 : Nat) (b9 : Int) (b5 : BA) (c0 c1 c2 c3 c4 c5 : Int) (a9 : OA) (b3 b1 : Nat) (b6 a3 : BA) (a7 : Int) (a5 : Bool) (a0 : OA) (a2 a1 bm1 bm2 : Nat) (c6 : Int) (b7 : BA) (c7 c8 c9 d0 d1 d2 : Int) (b0 : OA) (b4 b2 : Nat) (b8 a4 : BA) (a8 : Int) (a6 : Bool) (I : Nat → Int → Option Addr → Nat → Nat → World → Prop) (m : Nat) : Kh := KG (ygZ bm0 b9 b5 c0 c1 c2 c3 c4 c5 a9 b3 b1 b6 a3 a7 a5 a0 a2 a1 bm1 bm2 c6 b7 c7 c8 c9 d0 d1 d2 b0 b4 b2 b8 a4 a8 a6) (U4 I) m
theorem yuK {I : Nat → Int → Option Addr → Nat → Nat → World → Prop} (m' : Nat) (h1 : m' < m) (h2 : I m' j6 q3 n9 o0 w) : KS (yzW n0 i0 s0 i1 i2 i3 i4 i5 i6 q0 n1 n2 s1 s2 i7 B0 q1 n3 n4 n5 n6 i8 s3 i9 j0 j1 j2 j3 j4 q2 n7 n8 s4 s5 j5 B1 I m) (ygZ n0 i0 s0 i1 i2 i3 i4 i5 i6 q0 n1 n2 s1 s2 i7 B0 q1 n3 n4 n5 n6 i8 s3 i9 j0 j1 j2 j3 j4 q2 n7 n8 s4 s5 j5 B1 (j6, q3, n9, o0)) w := ⟨m', h1, _, rfl, rfl, h2⟩
theorem yuL (I : Nat → Int → Option Addr → Nat → Nat → World → Prop) (m0 : Nat) (h0 : I m0 j6 q3 n9 o0 w0)
 (hr : ∀ m d6 a2 a4 a3 w, I m d6 a2 a4 a3 w →
 brB (decide (d6 < (n3 : Int))) (
 brB (decide (d6 < 12)) (
 ixA q1 n3 d6 1 fun f2 =>
 ∀ e0, Adv [] [] w e0 →
 yaO e0 f2 fun f4 =>
 ixA q1 n3 d6 1 fun f3 =>
 yaO e0 f3 fun e2 =>
 slS f4 0 (if 40 < (e2.size : Int) then 40 else (e2.size : Int)) fun f5 =>
 al e0 (.cells #[.string f5] 9) fun e9 e3 =>
 ycP pP (Builtin.append_ #[47, 47] 47 #[.slice a2 a4 a3, (.slice (some ⟨e9, 0, none⟩) 1 1)]) e3 fun e8 f1 f0 e4 => yaI [n0, n5, n6] e3 e4 ∧
 ∀ e5, Adv [n6] [] e4 e5 →
 KS (yzW n0 i0 s0 i1 i2 i3 i4 i5 i6 q0 n1 n2 s1 s2 i7 B0 q1 n3 n4 n5 n6 i8 s3 i9 j0 j1 j2 j3 j4 q2 n7 n8 s4 s5 j5 B1 I m) (ygZ n0 i0 s0 i1 i2 i3 i4 i5 i6 q0 n1 n2 s1 s2 i7 B0 q1 n3 n4 n5 n6 i8 s3 i9 j0 j1 j2 j3 j4 q2 n7 n8 s4 s5 j5 B1 ((IntKind.wrap .i64 (d6 + 1)), e8, f1, f0)) e5)
 (
 ∀ e6, Adv [n5] [] w e6 →
 R (.agg (Z1 i8 s3 i9 j0 j1 j2 j3 j4 q2 n7 n8 s4 s5 j5 B1 a2 a4 a3)) e6))
 (
 ∀ e7, Adv [n5] [] w e7 →
 R (.agg (Z1 i8 s3 i9 j0 j1 j2 j3 j4 q2 n7 n8 s4 s5 j5 B1 a2 a4 a3)) e7)) :
 yaL ym0 (yCs 391 [0, 0, 1, 0, 1, 1, 1, 1, 1, 1, 1]) (yCt [1, 1, 1, 1, 1, 1, 1, 0, 1, 0] [] R) (ygZ n0 i0 s0 i1 i2 i3 i4 i5 i6 q0 n1 n2 s1 s2 i7 B0 q1 n3 n4 n5 n6 i8 s3 i9 j0 j1 j2 j3 j4 q2 n7 n8 s4 s5 j5 B1 (j6, q3, n9, o0)) w0 :=
 lrule (ygZ n0 i0 s0 i1 i2 i3 i4 i5 i6 q0 n1 n2 s1 s2 i7 B0 q1 n3 n4 n5 n6 i8 s3 i9 j0 j1 j2 j3 j4 q2 n7 n8 s4 s5 j5 B1) (U4 I) h0 (by rintro m ⟨d6, a2, a4, a3⟩ w h; exact ⟨by kernel_rfl, by kernel_rfl, fun js => Eq.mpr (by kernel_rfl) (hr m d6 a2 a4 a3 w h)⟩)
theorem yDM {a1 : BA} {a2 a0 : BA} (h :
 ∀ b1, w.heap.size ≤ b1 →
 ∀ b2, w.heap.size ≤ b2 →
 ∀ b3, w.heap.size ≤ b3 →
 slS a1 0 (if 40 < (a1.size : Int) then 40 else (a1.size : Int)) fun s4 =>
 slS a2 0 (if 40 < (a2.size : Int) then 40 else (a2.size : Int)) fun s5 =>
 slS a0 0 (if 40 < (a0.size : Int) then 40 else (a0.size : Int)) fun s6 =>
 ∀ w7, Adv [] [b3, b2, b1] w w7 →
 Calls pP 86 #[(.agg (Z8 i4 i5 i6 q0 n0 n1))] w7 fun e w8 => ∃ x9 c5 c6 c1 c3 c2, e = .returned (.agg (Z8 x9 c5 c6 c1 c3 c2)) ∧ yaI [b1, b2, b3] w7 w8 ∧
 ∀ c4, Adv [b3] [] w8 c4 →
 yaL ym0 (yCs 391 [0, 0, 1, 0, 1, 1, 1, 1, 1, 1, 1]) (yCt [1, 1, 1, 1, 1, 1, 1, 0, 1, 0] [] R) (ygZ b1 i0 a1 i1 i2 i3 i4 i5 i6 q0 n0 n1 a2 a0 i7 B0 q1 n2 n3 b2 b3 i0 s4 i1 i2 i3 x9 c5 c6 c1 c3 c2 s5 s6 i7 B0 (0, none, 0, 0)) c4) :
 CR pP 52 #[(.agg (Z1 i0 a1 i1 i2 i3 i4 i5 i6 q0 n0 n1 a2 a0 i7 B0 q1 n2 n3))] w R :=
 yaA Tryz.wide_mixed (an := ym1) Tryz.func52 rfl rfl (by kernel_rfl) rfl (Eq.mpr (by kernel_rfl) h)
end
section
set_option maxRecDepth 100000
variable {R : VWP} {w w0 : World} {m : Nat} {i0 i1 i2 i3 i4 i5 i6 i7 i8 i9 j0 j1 j2 j3 j4 j5 j6 j7 j8 j9 k0 k1 k2 k3 k4 k5 k6 k7 k8 k9 l0 l1 l2 l3 l4 l5 l6 l7 l8 l9 : Int} {s0 s1 s2 s3 s4 s5 s6 s7 s8 s9 t0 t1 t2 t3 t4 t5 t6 t7 t8 t9 : BA} {n0 n1 n2 n3 n4 n5 n6 n7 n8 n9 o0 o1 o2 o3 o4 o5 o6 o7 o8 o9 p0 p1 p2 p3 p4 p5 p6 p7 p8 p9 : Nat} {q0 q1 q2 q3 q4 q5 q6 q7 q8 q9 r0 r1 r2 r3 r4 r5 r6 r7 r8 r9 : OA} {B0 B1 B2 B3 B4 B5 B6 B7 B8 B9 : Bool} {M0 M1 M2 M3 : Option Nat} {V0 V1 V2 V3 V4 V5 : Value} {A0 A1 A2 : Addr}
def ym2 : LA := ⟨[0, 0, 1, 0, 1, 1], [0, 3, 4], [], 0, []⟩
def ym3 : List LA := [ym2]
abbrev yCu := dnF pP ym3 (code Tryz.f20)
abbrev yIu := yaP pP ym3 (code Tryz.f20)
abbrev yCv (p : List Nat) (K : List Kh) (R : VWP) := yaP pP ym3 (code Tryz.f20) p K (ya4 pP Tryz.f20 [] R)
def yg0 (a0 : OA) (a4 a2 : Nat) : (Option Addr) × Nat × Nat × Int → List Value × List TB := fun (a1, a5, a3, a6) => ([.slice a0 a4 a2, .slice a1 a5 a3, .int .i64 a6], [])
abbrev yzX (a0 : OA) (a2 a1 : Nat) (I : Nat → Option Addr → Nat → Nat → Int → World → Prop) (m : Nat) : Kh := KG (yg0 a0 a2 a1) (U4 I) m
theorem yuM {I : Nat → Option Addr → Nat → Nat → Int → World → Prop} (m' : Nat) (h1 : m' < m) (h2 : I m' q1 n2 n3 i0 w) : KS (yzX q0 n0 n1 I m) (yg0 q0 n0 n1 (q1, n2, n3, i0)) w := ⟨m', h1, _, rfl, rfl, h2⟩
theorem yuN {a2 : OA} {a7 : OA} (I : Nat → Option Addr → Nat → Nat → Int → World → Prop) (m0 : Nat) (h0 : I m0 a7 n2 n3 i0 w0)
 (hr : ∀ m a3 a5 a4 a0 w, I m a3 a5 a4 a0 w →
 brB (decide (a0 < (n0 : Int))) (
 brB (decide (a0 < 12)) (
 ixA a2 n0 a0 16 fun q3 =>
 ∀ w4, Adv [] [] w w4 →
 yaF .i64 w4 q3 fun x5 =>
 ixA a2 n0 a0 16 fun q6 =>
 yaF .i64 w4 (Addr.add q6 1) fun x7 =>
 ixA a2 n0 a0 16 fun q8 =>
 yaF .i64 w4 (Addr.add q8 2) fun x9 => yaO w4 (Addr.add (Addr.add q8 2) 1) fun e0 => yaF .i64 w4 (Addr.add (Addr.add q8 2) 2) fun e6 => yaF .i64 w4 (Addr.add (Addr.add q8 2) 3) fun e7 => yaF .i64 w4 (Addr.add (Addr.add q8 2) 4) fun e8 => yaF .i64 w4 (Addr.add (Addr.add q8 2) 5) fun e9 => yaF .i64 w4 (Addr.add (Addr.add q8 2) 6) fun f0 => yaF .i64 w4 (Addr.add (Addr.add q8 2) 7) fun f1 => yaS w4 (Addr.add (Addr.add q8 2) 8) fun d0 d7 d4 => yaO w4 (Addr.add (Addr.add q8 2) 9) fun e1 => yaO w4 (Addr.add (Addr.add q8 2) 10) fun e2 => yaF .i64 w4 (Addr.add (Addr.add q8 2) 11) fun f2 => yaT w4 (Addr.add (Addr.add q8 2) 12) fun e3 => yaS w4 (Addr.add (Addr.add q8 2) 13) fun d1 d8 d5 =>
 Calls pP 52 #[(.agg (Z1 x9 e0 e6 e7 e8 e9 f0 f1 d0 d7 d4 e1 e2 f2 e3 d1 d8 d5))] w4 fun e b0 => ∃ c2 b8 c3 c4 c5 c6 c7 c8 b2 b6 b4 b9 c0 c9 c1 b3 b7 b5, e = .returned (.agg (Z1 c2 b8 c3 c4 c5 c6 c7 c8 b2 b6 b4 b9 c0 c9 c1 b3 b7 b5)) ∧ (yaF .i64 b0 (Addr.add q6 1) fun f3 => ((.int .i64 f3) : Value) = (.int .i64 x7)) ∧ (yaF .i64 b0 q3 fun f4 => ((.int .i64 f4) : Value) = (.int .i64 x5)) ∧
 al b0 (.cells (Z5 x5 x7 c2 b8 c3 c4 c5 c6 c7 c8 b2 b6 b4 b9 c0 c9 c1 b3 b7 b5) 51) fun d3 e4 =>
 ycP pP (Builtin.append_ #[22, 22] 22 #[.slice a3 a5 a4, (.slice (some ⟨d3, 0, none⟩) 1 1)]) e4 fun d2 d9 d6 e5 =>
 KS (yzX a2 n0 n1 I m) (yg0 a2 n0 n1 (d2, d9, d6, (IntKind.wrap .i64 (a0 + 1)))) e5)
 (
 R (.slice a3 a5 a4) w))
 (
 R (.slice a3 a5 a4) w)) :
 yaL ym2 (yCu 396 [0, 0, 1, 0, 1, 1]) (yCv [1, 1, 0, 1, 0] [] R) (yg0 a2 n0 n1 (a7, n2, n3, i0)) w0 :=
 lrule (yg0 a2 n0 n1) (U4 I) h0 (by rintro m ⟨a3, a5, a4, a0⟩ w h; exact ⟨by kernel_rfl, by kernel_rfl, fun js => Eq.mpr (by kernel_rfl) (hr m a3 a5 a4 a0 w h)⟩)
theorem yDN (h :
 al w (.cells #[] 51) fun b1 w2 =>
 yaL ym2 (yCu 396 [0, 0, 1, 0, 1, 1]) (yCv [1, 1, 0, 1, 0] [] R) (yg0 q0 n0 n1 ((some ⟨b1, 0, none⟩), 0, 0, 0)) w2) :
 CR pP 20 #[.slice q0 n0 n1] w R :=
 yaA Tryz.wide_mixed (an := ym3) Tryz.func20 rfl rfl (by kernel_rfl) rfl (Eq.mpr (by kernel_rfl) h)
end
theorem ylF {x m : Int} (h0 : 0 ≤ m) (h1 : m ≤ 9223372036854775807) : 0 ≤ ye8 .i64 x m ∧ ye8 .i64 x m ≤ m := by
 unfold ye8
 have e : (BitVec.ofInt IntKind.i64.bits m).toNat = m.toNat := by
  show (BitVec.ofInt 64 m).toNat = _
  rw [BitVec.toNat_ofInt]
  have : m % ((2 ^ 64 : Nat) : Int) = m := Int.emod_eq_of_lt h0 (by omega)
  rw [this]
 have h : (BitVec.ofInt IntKind.i64.bits x &&& BitVec.ofInt IntKind.i64.bits m).toNat ≤ m.toNat := by
  rw [BitVec.toNat_and, ← e]; exact Nat.and_le_right
 rw [yaG (by omega) (by omega)]
 omega
theorem yo4 {x : Int} (h0 : 0 ≤ x) (h1 : x ≤ 1099511627776) : num x = true := by simp [num]; omega
section
set_option maxRecDepth 100000
variable {R : VWP} {w w0 : World} {m : Nat} {i0 i1 i2 i3 i4 i5 i6 i7 i8 i9 j0 j1 j2 j3 j4 j5 j6 j7 j8 j9 k0 k1 k2 k3 k4 k5 k6 k7 k8 k9 l0 l1 l2 l3 l4 l5 l6 l7 l8 l9 : Int} {s0 s1 s2 s3 s4 s5 s6 s7 s8 s9 t0 t1 t2 t3 t4 t5 t6 t7 t8 t9 : BA} {n0 n1 n2 n3 n4 n5 n6 n7 n8 n9 o0 o1 o2 o3 o4 o5 o6 o7 o8 o9 p0 p1 p2 p3 p4 p5 p6 p7 p8 p9 : Nat} {q0 q1 q2 q3 q4 q5 q6 q7 q8 q9 r0 r1 r2 r3 r4 r5 r6 r7 r8 r9 : OA} {B0 B1 B2 B3 B4 B5 B6 B7 B8 B9 : Bool} {M0 M1 M2 M3 : Option Nat} {V0 V1 V2 V3 V4 V5 : Value} {A0 A1 A2 : Addr}
def ym4 : LA := ⟨[0, 0, 1, 0, 1], [0, 3], [], 0, []⟩
def ym5 : LA := ⟨[0, 0, 1, 0, 1, 1], [0, 4], [], 0, []⟩
def ym6 : List LA := [ym4, ym5]
abbrev ytB := dnF pP ym6 (code Tryz.f63)
abbrev yIv := yaP pP ym6 (code Tryz.f63)
abbrev ytC (p : List Nat) (K : List Kh) (R : VWP) := yaP pP ym6 (code Tryz.f63) p K (ya4 pP Tryz.f63 [] R)
def yjF (a0 : OA) (a2 a1 : Nat) : Int → List Value × List TB := fun a3 => ([.slice a0 a2 a1, .int .i64 a3], [])
def yjG (a0 : OA) (a2 a1 : Nat) : Int → List Value × List TB := fun a3 => ([.slice a0 a2 a1, .int .i64 a3], [])
abbrev yDO (a0 : OA) (a2 a1 : Nat) (I : Nat → Int → World → Prop) (m : Nat) : Kh := KG (yjF a0 a2 a1) (U1 I) m
theorem yuO {a1 : OA} (I : Nat → Int → World → Prop) (m0 : Nat) (h0 : I m0 i0 w0)
 (hr : ∀ m a2 w, I m a2 w →
 brB (decide (a2 < (n0 : Int))) (
 ixA a1 n0 a2 16 fun q1 =>
 yaF .i64 w q1 fun x2 =>
 Calls pP 99 #[.int .i64 x2] w fun e w3 => ∃ t4, e = .returned (.bool t4) ∧
 brB (!t4) (
 R (.int .i64 1) w3)
 (
 ixA a1 n0 a2 16 fun q5 =>
 yaF .i64 w3 (Addr.add q5 1) fun x6 =>
 Calls pP 99 #[.int .i64 x6] w3 fun e w7 => ∃ t8, e = .returned (.bool t8) ∧
 brB (!t8) (
 R (.int .i64 1) w7)
 (
 KS (yDO a1 n0 n1 I m) (yjF a1 n0 n1 (IntKind.wrap .i64 (a2 + 1))) w7)))
 (
 yaL ym5 (ytB 396 [0, 0, 1, 0, 1, 1]) (ytC [1, 1, 0, 1, 0] [] R) (yjG a1 n0 n1 0) w)) :
 yaL ym4 (ytB 397 [0, 0, 1, 0, 1]) (ytC [1, 0, 1, 0] [] R) (yjF a1 n0 n1 i0) w0 :=
 lrule (yjF a1 n0 n1) (U1 I) h0 (by rintro m a2 w h; exact ⟨by kernel_rfl, by kernel_rfl, fun js => Eq.mpr (by kernel_rfl) (hr m a2 w h)⟩)
abbrev yDP (a0 : OA) (a2 a1 : Nat) (I : Nat → Int → World → Prop) (m : Nat) : Kh := KG (yjG a0 a2 a1) (U1 I) m
theorem yuP {a2 : OA} (I : Nat → Int → World → Prop) (m0 : Nat) (h0 : I m0 i0 w0)
 (hr : ∀ m a1 w, I m a1 w →
 brB (decide (a1 < (n0 : Int))) (
 ixA a2 n0 a1 16 fun q9 =>
 yaF .i64 w (Addr.add q9 2) fun b7 => yaO w (Addr.add (Addr.add q9 2) 1) fun b3 => yaF .i64 w (Addr.add (Addr.add q9 2) 2) fun b8 => yaF .i64 w (Addr.add (Addr.add q9 2) 3) fun b9 => yaF .i64 w (Addr.add (Addr.add q9 2) 4) fun c0 => yaF .i64 w (Addr.add (Addr.add q9 2) 5) fun c1 => yaF .i64 w (Addr.add (Addr.add q9 2) 6) fun c2 => yaF .i64 w (Addr.add (Addr.add q9 2) 7) fun c3 => yaS w (Addr.add (Addr.add q9 2) 8) fun a7 b1 a9 => yaO w (Addr.add (Addr.add q9 2) 9) fun b4 => yaO w (Addr.add (Addr.add q9 2) 10) fun b5 => yaF .i64 w (Addr.add (Addr.add q9 2) 11) fun c4 => yaT w (Addr.add (Addr.add q9 2) 12) fun b6 => yaS w (Addr.add (Addr.add q9 2) 13) fun a8 b2 b0 =>
 Calls pP 100 #[(.agg (Z1 b7 b3 b8 b9 c0 c1 c2 c3 a7 b1 a9 b4 b5 c4 b6 a8 b2 b0))] w fun e a6 => ∃ a4, e = .returned (.int .i64 a4) ∧
 brB (a4 != 0) (
 R (.int .i64 a4) a6)
 (
 KS (yDP a2 n0 n1 I m) (yjG a2 n0 n1 (IntKind.wrap .i64 (a1 + 1))) a6))
 (
 R (.int .i64 0) w)) :
 yaL ym5 (ytB 396 [0, 0, 1, 0, 1, 1]) (ytC [1, 1, 0, 1, 0] [] R) (yjG a2 n0 n1 i0) w0 :=
 lrule (yjG a2 n0 n1) (U1 I) h0 (by rintro m a1 w h; exact ⟨by kernel_rfl, by kernel_rfl, fun js => Eq.mpr (by kernel_rfl) (hr m a1 w h)⟩)
theorem yDQ (h :
 yaL ym4 (ytB 397 [0, 0, 1, 0, 1]) (ytC [1, 0, 1, 0] [] R) (yjF q0 n0 n1 0) w) :
 CR pP 63 #[.slice q0 n0 n1] w R :=
 yaA Tryz.wide_mixed (an := ym6) Tryz.func63 rfl rfl (by kernel_rfl) rfl (Eq.mpr (by kernel_rfl) h)
end
section
set_option maxRecDepth 100000
variable {R : VWP} {w w0 : World} {m : Nat} {i0 i1 i2 i3 i4 i5 i6 i7 i8 i9 j0 j1 j2 j3 j4 j5 j6 j7 j8 j9 k0 k1 k2 k3 k4 k5 k6 k7 k8 k9 l0 l1 l2 l3 l4 l5 l6 l7 l8 l9 : Int} {s0 s1 s2 s3 s4 s5 s6 s7 s8 s9 t0 t1 t2 t3 t4 t5 t6 t7 t8 t9 : BA} {n0 n1 n2 n3 n4 n5 n6 n7 n8 n9 o0 o1 o2 o3 o4 o5 o6 o7 o8 o9 p0 p1 p2 p3 p4 p5 p6 p7 p8 p9 : Nat} {q0 q1 q2 q3 q4 q5 q6 q7 q8 q9 r0 r1 r2 r3 r4 r5 r6 r7 r8 r9 : OA} {B0 B1 B2 B3 B4 B5 B6 B7 B8 B9 : Bool} {M0 M1 M2 M3 : Option Nat} {V0 V1 V2 V3 V4 V5 : Value} {A0 A1 A2 : Addr}
def ym7 : LA := ⟨[0, 0, 1, 0, 1, 1, 1, 1, 1], [0, 5, 6], [], 0, []⟩
def ym8 : List LA := [ym7]
abbrev yCw := dnF pP ym8 (code Tryz.f32)
abbrev yIw := yaP pP ym8 (code Tryz.f32)
abbrev yCx (p : List Nat) (K : List Kh) (R : VWP) := yaP pP ym8 (code Tryz.f32) p K (ya4 pP Tryz.f32 [] R)
def yjH (a0 : OA) (a2 a1 : Nat) : ByteArray × Int → List Value × List TB := fun (a3, a4) => ([.slice a0 a2 a1, .string a3, .int .i64 a4], [])
abbrev yDR (a0 : OA) (a2 a1 : Nat) (I : Nat → ByteArray → Int → World → Prop) (m : Nat) : Kh := KG (yjH a0 a2 a1) (U2 I) m
theorem yuQ {a2 : OA} {a6 : BA} (I : Nat → ByteArray → Int → World → Prop) (m0 : Nat) (h0 : I m0 a6 i0 w0)
 (hr : ∀ m a3 a1 w, I m a3 a1 w →
 brB (decide (a1 < (n0 : Int))) (
 ixA a2 n0 a1 16 fun q5 =>
 yaF .i64 w (Addr.add q5 2) fun x6 => yaO w (Addr.add (Addr.add q5 2) 1) fun s7 => yaF .i64 w (Addr.add (Addr.add q5 2) 2) fun x8 => yaF .i64 w (Addr.add (Addr.add q5 2) 3) fun x9 => yaF .i64 w (Addr.add (Addr.add q5 2) 4) fun d3 => yaF .i64 w (Addr.add (Addr.add q5 2) 5) fun d4 => yaF .i64 w (Addr.add (Addr.add q5 2) 6) fun d5 => yaF .i64 w (Addr.add (Addr.add q5 2) 7) fun d6 => yaS w (Addr.add (Addr.add q5 2) 8) fun b6 c0 b8 => yaO w (Addr.add (Addr.add q5 2) 9) fun c3 => yaO w (Addr.add (Addr.add q5 2) 10) fun c4 => yaF .i64 w (Addr.add (Addr.add q5 2) 11) fun d7 => yaT w (Addr.add (Addr.add q5 2) 12) fun c8 => yaS w (Addr.add (Addr.add q5 2) 13) fun b7 c1 b9 =>
 Calls pP 64 #[(.agg (Z1 x6 s7 x8 x9 d3 d4 d5 d6 b6 c0 b8 c3 c4 d7 c8 b7 c1 b9))] w fun e c9 => ∃ a9 d8, e = .returned (.tuple #[.string a9, .int .i64 d8]) ∧
 ixA a2 n0 a1 16 fun c2 =>
 ∀ a5, Adv [] [] c9 a5 →
 yaF .i64 a5 c2 fun d9 =>
 ixA a2 n0 a1 16 fun a8 =>
 yaF .i64 a5 (Addr.add a8 1) fun b5 =>
 Calls pP 31 #[(.int .u64 (IntKind.wrap .u64 d9))] a5 fun e b4 => ∃ b0, e = .returned (.string b0) ∧ (yaF .i64 b4 (Addr.add a8 1) fun e0 => ((.int .i64 e0) : Value) = (.int .i64 b5)) ∧
 Calls pP 31 #[(.int .u64 (IntKind.wrap .u64 b5))] b4 fun e d0 => ∃ b1, e = .returned (.string b1) ∧
 yeZ b0 b1 fun c5 =>
 Calls pP 34 #[.string a9] d0 fun e d1 => ∃ b2, e = .returned (.string b2) ∧
 yeZ c5 b2 fun c6 =>
 Calls pP 35 #[.string c6] d1 fun e d2 => ∃ b3, e = .returned (.string b3) ∧
 yeZ a3 b3 fun c7 =>
 KS (yDR a2 n0 n1 I m) (yjH a2 n0 n1 (c7, (IntKind.wrap .i64 (a1 + 1)))) d2)
 (
 R (.tuple #[.string a3, .int .i64 0]) w)) :
 yaL ym7 (yCw 393 [0, 0, 1, 0, 1, 1, 1, 1, 1]) (yCx [1, 1, 1, 1, 1, 0, 1, 0] [] R) (yjH a2 n0 n1 (a6, i0)) w0 :=
 lrule (yjH a2 n0 n1) (U2 I) h0 (by rintro m ⟨a3, a1⟩ w h; exact ⟨by kernel_rfl, by kernel_rfl, fun js => Eq.mpr (by kernel_rfl) (hr m a3 a1 w h)⟩)
theorem yDS (h :
 brB (decide ((n0 : Int) > 4096)) (
 R (.tuple #[(.string (⟨#[]⟩ : BA)), .int .i64 2]) w)
 (
 Calls pP 63 #[.slice q0 n0 n1] w fun e w1 => ∃ x2, e = .returned (.int .i64 x2) ∧
 brB (x2 != 0) (
 R (.tuple #[(.string (⟨#[]⟩ : BA)), .int .i64 x2]) w1)
 (
 Calls pP 31 #[(.int .u64 (IntKind.wrap .u64 (n0 : Int)))] w1 fun e w3 => ∃ s4, e = .returned (.string s4) ∧
 yaL ym7 (yCw 393 [0, 0, 1, 0, 1, 1, 1, 1, 1]) (yCx [1, 1, 1, 1, 1, 0, 1, 0] [] R) (yjH q0 n0 n1 (s4, 0)) w3))) :
 CR pP 32 #[.slice q0 n0 n1] w R :=
 yaA Tryz.wide_mixed (an := ym8) Tryz.func32 rfl rfl (by kernel_rfl) rfl (Eq.mpr (by kernel_rfl) h)
end
theorem yzY (r : PRec) (hr : ygB r = 0) (w : World) : Calls pP 67 #[r.v] w fun e w' => e = .returned (.string (bs (yfP r))) ∧ Mod [] w w' := by
 obtain ⟨hk, hv⟩ := ye2 hr
 obtain ⟨k, key, t, val⟩ := r
 refine yaQ (yDB ?_)
 intro b1 f1
 have hkt : t = true → k = true ∧ val.size = 0 := fun h => by
  subst h
  unfold ygB yEj at hr
  split at hr
  ·omega
  ·rename_i h; simp at h; cases k <;> simp_all
 have cat1 : ∀ (x : UInt8) (s : ByteArray), s.size ≤ 1000 → (⟨#[x]⟩ : ByteArray).size + (bs (ya7 s)).size ≤ 9223372036854775807 := fun x s hs => by
  have := (yaZ s (by omega)).2
  rw [yaD]; show 1 + _ ≤ _; omega
 have one : ∀ (x : UInt8) (l : List UInt8), (⟨#[x]⟩ : ByteArray) ++ bs l = bs (x :: l) := fun x l => ybB [x] l
 refine yaB (fun g => ?_) fun g => ?_
 ·obtain ⟨rfl, _⟩ := hkt g
  have g : t = true := g
  subst g
  intro w2 A2
  refine (ycR key (by simp at hk; omega) w2).mono ?_
  rintro e w3 ⟨rfl, M3⟩
  refine ⟨_, rfl, yaI.of0 M3, cat1 _ _ (by simp at hk; omega), ?_, A2.mod.go0 M3 (by simp)⟩
  rw [one]; simp [yfP, yfO]
 ·have g : t = false := g
  subst g
  refine yaB (fun g2 => ?_) fun g2 => ?_
  ·have g2 : k = true := g2
   subst g2
   intro w2 A2
   refine (ycR key (by simp at hk; omega) w2).mono ?_
   rintro e w3 ⟨rfl, M3⟩
   refine ⟨_, rfl, yaI.of0 M3, rfl, cat1 _ _ (by simp at hk; omega), ?_⟩
   refine (ycR val (by simp at hv; omega) w3).mono ?_
   rintro e w4 ⟨rfl, M4⟩
   have l1 := (yaZ key (by simp at hk; omega)).2
   have l2 := (yaZ val (by simp at hv; omega)).2
   refine ⟨_, rfl, yaI.of0 M4, by rw [one, yaD, yaD, List.length_cons]; simp at hk hv; omega, ?_, (A2.mod.go0 M3 (by simp)).go0 M4 (by simp)⟩
   rw [one, ybB]; simp [yfP, yfO]
  ·have g2 : k = false := g2
   subst g2
   intro w2 A2
   refine (ycR val (by simp at hv; omega) w2).mono ?_
   rintro e w3 ⟨rfl, M3⟩
   refine ⟨_, rfl, yaI.of0 M3, cat1 _ _ (by simp at hv; omega), ?_, A2.mod.go0 M3 (by simp)⟩
   rw [one]; simp [yfP, yfO]
theorem ydP {x : Int} (hx : num x = true) (w : World) : Calls pP 66 #[.int .i64 x] w fun e w' => e = .returned (.string (bs (yaK x.toNat))) ∧ Mod [] w w' := by
 have := yeV hx
 obtain ⟨n, rfl⟩ := Int.eq_ofNat_of_zero_le this.1
 refine yaQ (yDC ?_)
 rw [ygC (by omega)]
 refine (ygH (n := n) (by omega) w).mono ?_
 rintro e w1 ⟨rfl, M1⟩
 exact ⟨_, rfl, rfl, M1⟩
def ycG (m : PMail) : Int := if m.kind < 0 ∨ m.kind ≥ 12 then 180 else if ((yaR m).all num) = false then 1 else if ycQ m.calls ≠ 0 then ycQ m.calls else yfA m.r
theorem yb7 {m : PMail} (h : ycG m = 0) : (0 ≤ m.kind ∧ m.kind < 12) ∧ (yaR m).all num = true ∧ ycQ m.calls = 0 ∧ yfA m.r = 0 := by
 unfold ycG at h
 split at h
 ·omega
 ·split at h
  ·omega
  ·split at h
   ·rename_i h3; exact absurd h h3
   ·rename_i h1 h2 h3; exact ⟨by omega, by simpa using h2, by simpa using h3, h⟩
structure MailW (w : World) (m : PMail) (s f p : Sl) : Prop where
 calls : yeJ w s m.calls
 lc : m.calls.length ≤ 100000
 rep : RepAtW w m.r f p
theorem MailAt.w {w : World} {m : PMail} {s f p : Sl} (h : MailAt w m s f p) (hl : m.calls.length ≤ 100000) : MailW w m s f p := ⟨h.calls, hl, h.rep.wide⟩
theorem yjI {w : World} {m : PMail} {s f p : Sl} (h : MailW w m s f p) :
  Calls pP 12 #[m.v s f p] w fun e w' => e = .returned (.int .i64 (ycG m)) ∧ Mod [] w w' := by
 obtain ⟨ll, hll, hop, hcs⟩ := h.calls
 have hl : ll.length ≤ 1000000 := by have := congrArg List.length hcs; have := h.lc; simp at *; omega
 refine yaQ (yGf ?_)
 intro b1 f1
 refine yaC (fun g1 => fun w2 A2 => ⟨by rw [ycG, if_pos (.inl g1)], A2.mod⟩) fun g1 => ?_
 refine yaC (fun g2 => fun w2 A2 => ⟨by rw [ycG, if_pos (.inr g2)], A2.mod⟩) fun g2 => ?_
 have hE : ycG m = if ((yaR m).all num) = false then 1 else if ycQ m.calls ≠ 0 then ycQ m.calls else yfA m.r := by rw [ycG, if_neg (by omega)]
 intro w4 A4 h4
 refine (yoV b1 w4).mono ?_
 rintro e w5 ⟨rfl, M5⟩
 have N5 := A4.mod.go0 M5 (by simp)
 have h5 := M5.keep0 h4
 refine ⟨_, _, _, _, _, _, _, _, _, _, rfl, _, _, _, _, _, _, _, _, _, _, _, _, _, _, _, _, _, _, _, _, _, _, _, h5, ?_⟩
 refine yx4 (fun mm x w' => ∃ k : Nat, x = k ∧ k ≤ 10 ∧ ((yaR m).take k).all num = true ∧ mm = 10 - k ∧ w' = w5) 10 ⟨0, rfl, by omega, by simp, rfl, rfl⟩ ?_
 rintro mm x w6 ⟨k, rfl, hk, hal, rfl, rfl⟩ h6
 refine yaC (fun hlt => ?_) fun hge => ?_
 ·have hk' : k < 10 := by omega
  obtain ⟨x, hx⟩ : ∃ x, (yaR m)[k]? = some x := ⟨_, List.getElem?_eq_getElem (by simpa [yaR] using hk')⟩
  have hc := yd0 (s := s) (f := f) (p := p) h6 hx
  have bad : ¬ (0 ≤ x ∧ x ≤ 1099511627776) → ycG m = 1 := fun hn => by
   rw [hE, if_pos]
   apply Bool.eq_false_iff.2
   intro hh
   have := List.all_eq_true.1 hh x (List.mem_of_getElem? hx)
   exact hn (by simpa [num] using this)
  refine ⟨_, yDo b1 hk', yaE hc ?_⟩
  refine yaC (fun g3 => ⟨by rw [bad (by omega)], N5⟩) fun g3 => ?_
  refine yaE hc ?_
  refine yaC (fun g4 => ⟨by rw [bad (by omega)], N5⟩) fun g4 => ?_
  refine yx3 (10 - (k + 1)) (by omega) ⟨k + 1, by rw [yaG (by omega) (by omega)]; omega, by omega, ?_, rfl, rfl⟩
  rw [yb6 hx, hal]; simp [num]; omega
 ·have hk' : k = 10 := by omega
  subst hk'
  rw [List.take_of_length_le (by simp [yaR])] at hal
  rw [hal, if_neg (by decide)] at hE
  refine (yq7 (s := s) (ll := ll) ⟨hll.keep0 N5, fun q hq => (hop q hq).keep0 N5⟩ hl).mono ?_
  rw [hcs]
  rintro e w7 ⟨rfl, M7⟩
  refine ⟨_, _, rfl, _, _, _, _, _, _, _, _, _, _, _, _, _, _, _, _, _, _, _, _, _, _, _, M7.keep0 h6, ?_⟩
  have N7 := N5.go0 M7 (by simp)
  refine yaB (fun g => ?_) fun g => ?_
  ·have g : ycQ m.calls ≠ 0 := by simpa using g
   exact ⟨by rw [hE, if_pos g], N7⟩
  have g : ycQ m.calls = 0 := by simpa using g
  rw [if_neg (by simpa using g)] at hE
  refine (yoU (h.rep.keep0 N7)).mono ?_
  rintro e w8 ⟨rfl, M8⟩
  refine ⟨_, _, rfl, _, _, _, _, _, _, _, _, _, _, _, _, _, _, _, _, _, _, _, _, _, _, _, (M7.go0 M8 (by simp)).keep0 h6, ?_⟩
  exact ⟨by rw [hE], N7.go0 M8 (by simp)⟩
section
set_option maxRecDepth 100000
variable {R : VWP} {w w0 : World} {m : Nat} {i0 i1 i2 i3 i4 i5 i6 i7 i8 i9 j0 j1 j2 j3 j4 j5 j6 j7 j8 j9 k0 k1 k2 k3 k4 k5 k6 k7 k8 k9 l0 l1 l2 l3 l4 l5 l6 l7 l8 l9 : Int} {s0 s1 s2 s3 s4 s5 s6 s7 s8 s9 t0 t1 t2 t3 t4 t5 t6 t7 t8 t9 : BA} {n0 n1 n2 n3 n4 n5 n6 n7 n8 n9 o0 o1 o2 o3 o4 o5 o6 o7 o8 o9 p0 p1 p2 p3 p4 p5 p6 p7 p8 p9 : Nat} {q0 q1 q2 q3 q4 q5 q6 q7 q8 q9 r0 r1 r2 r3 r4 r5 r6 r7 r8 r9 : OA} {B0 B1 B2 B3 B4 B5 B6 B7 B8 B9 : Bool} {M0 M1 M2 M3 : Option Nat} {V0 V1 V2 V3 V4 V5 : Value} {A0 A1 A2 : Addr}
def ym9 : LA := ⟨[0, 0, 1, 0, 1, 1, 1, 1], [1, 5, 6], [(1, 0, 0)], 1, []⟩
def ynA : LA := ⟨[0, 0, 1, 0, 1, 1, 1, 1, 1, 1], [1, 5, 7], [(1, 0, 0)], 1, []⟩
def ynB : List LA := [ym9, ynA]
abbrev ytD := dnF pP ynB (code Tryz.f33)
abbrev yIx := yaP pP ynB (code Tryz.f33)
abbrev ytE (p : List Nat) (K : List Kh) (R : VWP) := yaP pP ynB (code Tryz.f33) p K (ya4 pP Tryz.f33 [] R)
def yg1 (bm0 : Nat) (a6 a7 a8 a9 : Int) (a0 : OA) (a4 a2 : Nat) (a1 : OA) (a5 a3 : Nat) : ByteArray × Int → List Value × List TB := fun (b0, b1) => ([(.pointer (some ⟨bm0, 0, none⟩)), .string b0, .int .i64 b1], [⟨bm0, 27, [.int .i64 a6, .int .i64 a7, .int .i64 a8, .int .i64 a9, .slice a0 a4 a2, .slice a1 a5 a3], false⟩])
def yg2 (bm0 : Nat) (a6 a7 a8 a9 : Int) (a0 : OA) (a4 a2 : Nat) (a1 : OA) (a5 a3 : Nat) : ByteArray × Int → List Value × List TB := fun (b0, b1) => ([(.pointer (some ⟨bm0, 0, none⟩)), .string b0, .int .i64 b1], [⟨bm0, 27, [.int .i64 a6, .int .i64 a7, .int .i64 a8, .int .i64 a9, .slice a0 a4 a2, .slice a1 a5 a3], false⟩])
abbrev yzZ (bm0 : Nat) (a6 a7 a8 a9 : Int) (a0 : OA) (a4 a2 : Nat) (a1 : OA) (a5 a3 : Nat) (I : Nat → ByteArray → Int → World → Prop) (m : Nat) : Kh := KG (yg1 bm0 a6 a7 a8 a9 a0 a4 a2 a1 a5 a3) (U2 I) m
theorem yuR {I : Nat → ByteArray → Int → World → Prop} (m' : Nat) (h1 : m' < m) (h2 : I m' s0 i4 w) : KS (yzZ n0 i0 i1 i2 i3 q0 n1 n2 q1 n3 n4 I m) (yg1 n0 i0 i1 i2 i3 q0 n1 n2 q1 n3 n4 (s0, i4)) w := ⟨m', h1, _, rfl, rfl, h2⟩
theorem yuS (I : Nat → ByteArray → Int → World → Prop) (m0 : Nat) (h0 : I m0 s0 i4 w0)
 (hr : ∀ m b4 b3 w, I m b4 b3 w →
 brB (decide (b3 < (n1 : Int))) (
 ixA q0 n1 b3 5 fun c6 =>
 ∀ b1, Adv [] [] w b1 →
 yaF .i64 b1 c6 fun d4 =>
 ixA q0 n1 b3 5 fun b0 =>
 yaT b1 (Addr.add b0 1) fun c2 => yaO b1 (Addr.add (Addr.add b0 1) 1) fun b7 => yaT b1 (Addr.add (Addr.add b0 1) 2) fun c3 => yaO b1 (Addr.add (Addr.add b0 1) 3) fun b8 =>
 Calls pP 66 #[.int .i64 d4] b1 fun e b2 => ∃ b9, e = .returned (.string b9) ∧ yaI [n0] b1 b2 ∧ (yaT b2 (Addr.add b0 1) fun d2 => yaO b2 (Addr.add (Addr.add b0 1) 1) fun c7 => yaT b2 (Addr.add (Addr.add b0 1) 2) fun d3 => yaO b2 (Addr.add (Addr.add b0 1) 3) fun c8 => ((.agg (Z7 d2 c7 d3 c8)) : Value) = (.agg (Z7 c2 b7 c3 b8))) ∧ (((.slice q0 n1 n2) : Value) = (.slice q0 n1 n2)) ∧
 Calls pP 67 #[(.agg (Z7 c2 b7 c3 b8))] b2 fun e c4 => ∃ c0, e = .returned (.string c0) ∧ yaI [n0] b2 c4 ∧
 yeZ b9 c0 fun c9 =>
 yeZ b4 c9 fun d0 =>
 KS (yzZ n0 i0 i1 i2 i3 q0 n1 n2 q1 n3 n4 I m) (yg1 n0 i0 i1 i2 i3 q0 n1 n2 q1 n3 n4 (d0, (IntKind.wrap .i64 (b3 + 1)))) c4)
 (
 Calls pP 66 #[(.int .i64 (n3 : Int))] w fun e c5 => ∃ c1, e = .returned (.string c1) ∧ yaI [n0] w c5 ∧
 yeZ b4 c1 fun d1 =>
 yaL ynA (ytD 392 [0, 0, 1, 0, 1, 1, 1, 1, 1, 1]) (ytE [1, 1, 1, 1, 1, 1, 0, 1, 0] [] R) (yg2 n0 i0 i1 i2 i3 q0 n1 n2 q1 n3 n4 (d1, 0)) c5)) :
 yaL ym9 (ytD 394 [0, 0, 1, 0, 1, 1, 1, 1]) (ytE [1, 1, 1, 1, 0, 1, 0] [] R) (yg1 n0 i0 i1 i2 i3 q0 n1 n2 q1 n3 n4 (s0, i4)) w0 :=
 lrule (yg1 n0 i0 i1 i2 i3 q0 n1 n2 q1 n3 n4) (U2 I) h0 (by rintro m ⟨b4, b3⟩ w h; exact ⟨by kernel_rfl, by kernel_rfl, fun js => Eq.mpr (by kernel_rfl) (hr m b4 b3 w h)⟩)
abbrev yz0 (bm0 : Nat) (a6 a7 a8 a9 : Int) (a0 : OA) (a4 a2 : Nat) (a1 : OA) (a5 a3 : Nat) (I : Nat → ByteArray → Int → World → Prop) (m : Nat) : Kh := KG (yg2 bm0 a6 a7 a8 a9 a0 a4 a2 a1 a5 a3) (U2 I) m
theorem yuT {I : Nat → ByteArray → Int → World → Prop} (m' : Nat) (h1 : m' < m) (h2 : I m' s0 i4 w) : KS (yz0 n0 i0 i1 i2 i3 q0 n1 n2 q1 n3 n4 I m) (yg2 n0 i0 i1 i2 i3 q0 n1 n2 q1 n3 n4 (s0, i4)) w := ⟨m', h1, _, rfl, rfl, h2⟩
theorem yuU (I : Nat → ByteArray → Int → World → Prop) (m0 : Nat) (h0 : I m0 s0 i4 w0)
 (hr : ∀ m b1 b0 w, I m b1 b0 w →
 brB (decide (b0 < (n3 : Int))) (
 ixA q1 n3 b0 2 fun c1 =>
 ∀ b2, Adv [] [] w b2 →
 yaO b2 c1 fun c2 =>
 ixA q1 n3 b0 2 fun b6 =>
 yaF .i64 b2 (Addr.add b6 1) fun c0 =>
 Calls pP 34 #[.string c2] b2 fun e b3 => ∃ b7, e = .returned (.string b7) ∧ yaI [n0] b2 b3 ∧ (yaF .i64 b3 (Addr.add b6 1) fun c5 => ((.int .i64 c5) : Value) = (.int .i64 c0)) ∧ (((.slice q1 n3 n4) : Value) = (.slice q1 n3 n4)) ∧
 Calls pP 66 #[.int .i64 c0] b3 fun e b9 => ∃ b8, e = .returned (.string b8) ∧ yaI [n0] b3 b9 ∧
 yeZ b7 b8 fun c3 =>
 yeZ b1 c3 fun c4 =>
 KS (yz0 n0 i0 i1 i2 i3 q0 n1 n2 q1 n3 n4 I m) (yg2 n0 i0 i1 i2 i3 q0 n1 n2 q1 n3 n4 (c4, (IntKind.wrap .i64 (b0 + 1)))) b9)
 (
 R (.tuple #[.string b1, .int .i64 0]) w)) :
 yaL ynA (ytD 392 [0, 0, 1, 0, 1, 1, 1, 1, 1, 1]) (ytE [1, 1, 1, 1, 1, 1, 0, 1, 0] [] R) (yg2 n0 i0 i1 i2 i3 q0 n1 n2 q1 n3 n4 (s0, i4)) w0 :=
 lrule (yg2 n0 i0 i1 i2 i3 q0 n1 n2 q1 n3 n4) (U2 I) h0 (by rintro m ⟨b1, b0⟩ w h; exact ⟨by kernel_rfl, by kernel_rfl, fun js => Eq.mpr (by kernel_rfl) (hr m b1 b0 w h)⟩)
theorem yDT (h :
 ∀ b1, w.heap.size ≤ b1 →
 ∀ w2, Adv [] [b1] w w2 →
 Calls pP 65 #[(.agg (Z3 i0 i1 i2 i3 q0 n0 n1 q1 n2 n3))] w2 fun e w3 => ∃ x4, e = .returned (.int .i64 x4) ∧ yaI [b1] w2 w3 ∧
 brB (x4 != 0) (
 R (.tuple #[(.string (⟨#[]⟩ : BA)), .int .i64 x4]) w3)
 (
 ∀ w5, Adv [] [] w3 w5 →
 Calls pP 66 #[.int .i64 i0] w5 fun e w6 => ∃ s7, e = .returned (.string s7) ∧ yaI [b1] w5 w6 ∧ (((.slice q0 n0 n1) : Value) = (.slice q0 n0 n1)) ∧ (((.int .i64 i3) : Value) = (.int .i64 i3)) ∧ (((.int .i64 i2) : Value) = (.int .i64 i2)) ∧ (((.int .i64 i1) : Value) = (.int .i64 i1)) ∧
 Calls pP 66 #[.int .i64 i1] w6 fun e w8 => ∃ s9, e = .returned (.string s9) ∧ yaI [b1] w6 w8 ∧ (((.slice q0 n0 n1) : Value) = (.slice q0 n0 n1)) ∧ (((.int .i64 i3) : Value) = (.int .i64 i3)) ∧ (((.int .i64 i2) : Value) = (.int .i64 i2)) ∧
 yeZ s7 s9 fun b7 =>
 Calls pP 66 #[.int .i64 i2] w8 fun e b0 => ∃ b3, e = .returned (.string b3) ∧ yaI [b1] w8 b0 ∧ (((.slice q0 n0 n1) : Value) = (.slice q0 n0 n1)) ∧ (((.int .i64 i3) : Value) = (.int .i64 i3)) ∧
 yeZ b7 b3 fun b8 =>
 Calls pP 66 #[.int .i64 i3] b0 fun e b2 => ∃ b4, e = .returned (.string b4) ∧ yaI [b1] b0 b2 ∧ (((.slice q0 n0 n1) : Value) = (.slice q0 n0 n1)) ∧
 yeZ b8 b4 fun b9 =>
 Calls pP 66 #[(.int .i64 (n0 : Int))] b2 fun e b6 => ∃ b5, e = .returned (.string b5) ∧ yaI [b1] b2 b6 ∧
 yeZ b9 b5 fun c0 =>
 yaL ym9 (ytD 394 [0, 0, 1, 0, 1, 1, 1, 1]) (ytE [1, 1, 1, 1, 0, 1, 0] [] R) (yg1 b1 i0 i1 i2 i3 q0 n0 n1 q1 n2 n3 (c0, 0)) b6)) :
 CR pP 33 #[(.agg (Z3 i0 i1 i2 i3 q0 n0 n1 q1 n2 n3))] w R :=
 yaA Tryz.wide_mixed (an := ynB) Tryz.func33 rfl rfl (by kernel_rfl) rfl (Eq.mpr (by kernel_rfl) h)
def ynC : LA := ⟨[0, 0, 1, 0, 1, 1, 1], [1, 3, 4], [(1, 0, 0)], 1, []⟩
def ynD : List LA := [ynC]
abbrev yCy := dnF pP ynD (code Tryz.f13)
abbrev yIy := yaP pP ynD (code Tryz.f13)
abbrev yCz (p : List Nat) (K : List Kh) (R : VWP) := yaP pP ynD (code Tryz.f13) p K (ya4 pP Tryz.f13 [] R)
def yg3 (c3 : OA) (c5 c4 bm0 : Nat) (b3 b4 b5 b6 b7 b8 b9 c0 c1 c2 : Int) (a0 : OA) (a6 a3 : Nat) (a9 b0 b1 b2 : Int) (a1 : OA) (a7 a4 : Nat) (a2 : OA) (a8 a5 : Nat) : Int → List Value × List TB := fun c6 => ([(.pointer (some ⟨bm0, 0, none⟩)), .slice c3 c5 c4, .int .i64 c6], [⟨bm0, 29, [.int .i64 b3, .int .i64 b4, .int .i64 b5, .int .i64 b6, .int .i64 b7, .int .i64 b8, .int .i64 b9, .int .i64 c0, .int .i64 c1, .int .i64 c2, .slice a0 a6 a3, .int .i64 a9, .int .i64 b0, .int .i64 b1, .int .i64 b2, .slice a1 a7 a4, .slice a2 a8 a5], false⟩])
abbrev yz1 (c3 : OA) (c5 c4 bm0 : Nat) (b3 b4 b5 b6 b7 b8 b9 c0 c1 c2 : Int) (a0 : OA) (a6 a3 : Nat) (a9 b0 b1 b2 : Int) (a1 : OA) (a7 a4 : Nat) (a2 : OA) (a8 a5 : Nat) (I : Nat → Int → World → Prop) (m : Nat) : Kh := KG (yg3 c3 c5 c4 bm0 b3 b4 b5 b6 b7 b8 b9 c0 c1 c2 a0 a6 a3 a9 b0 b1 b2 a1 a7 a4 a2 a8 a5) (U1 I) m
theorem yuV {I : Nat → Int → World → Prop} (m' : Nat) (h1 : m' < m) (h2 : I m' j4 w) : KS (yz1 q0 n0 n1 n2 i0 i1 i2 i3 i4 i5 i6 i7 i8 i9 q1 n3 n4 j0 j1 j2 j3 q2 n5 n6 q3 n7 n8 I m) (yg3 q0 n0 n1 n2 i0 i1 i2 i3 i4 i5 i6 i7 i8 i9 q1 n3 n4 j0 j1 j2 j3 q2 n5 n6 q3 n7 n8 j4) w := ⟨m', h1, _, rfl, rfl, h2⟩
theorem yuW {c5 : OA} {a0 : OA} {a1 : OA} {a2 : OA} (I : Nat → Int → World → Prop) (m0 : Nat) (h0 : I m0 j4 w0)
 (hr : ∀ m c4 w, I m c4 w →
 brB (decide (c4 < (n0 : Int))) (
 ixA c5 n0 c4 1 fun q9 =>
 yaF .i64 w q9 fun d6 =>
 Calls pP 36 #[.int .i64 d6] w fun e c8 => ∃ d1, e = .returned (.bool d1) ∧ yaI [n2] w c8 ∧
 brB (!d1) (
 R (.int .i64 1) c8)
 (
 KS (yz1 c5 n0 n1 n2 i0 i1 i2 i3 i4 i5 i6 i7 i8 i9 a0 n3 n4 j0 j1 j2 j3 a1 n5 n6 a2 n7 n8 I m) (yg3 c5 n0 n1 n2 i0 i1 i2 i3 i4 i5 i6 i7 i8 i9 a0 n3 n4 j0 j1 j2 j3 a1 n5 n6 a2 n7 n8 (IntKind.wrap .i64 (c4 + 1))) c8))
 (
 Calls pP 32 #[.slice a0 n3 n4] w fun e c7 => ∃ d4 c9, e = .returned (.tuple #[.string d4, .int .i64 c9]) ∧ yaI [n2] w c7 ∧
 brB (c9 != 0) (
 R (.int .i64 c9) c7)
 (
 Calls pP 33 #[(.agg (Z3 j0 j1 j2 j3 a1 n5 n6 a2 n7 n8))] c7 fun e d2 => ∃ d5 d3, e = .returned (.tuple #[.string d5, .int .i64 d3]) ∧ yaI [n2] c7 d2 ∧
 R (.int .i64 d3) d2))) :
 yaL ynC (yCy 395 [0, 0, 1, 0, 1, 1, 1]) (yCz [1, 1, 1, 0, 1, 0] [] R) (yg3 c5 n0 n1 n2 i0 i1 i2 i3 i4 i5 i6 i7 i8 i9 a0 n3 n4 j0 j1 j2 j3 a1 n5 n6 a2 n7 n8 j4) w0 :=
 lrule (yg3 c5 n0 n1 n2 i0 i1 i2 i3 i4 i5 i6 i7 i8 i9 a0 n3 n4 j0 j1 j2 j3 a1 n5 n6 a2 n7 n8) (U1 I) h0 (by rintro m c4 w h; exact ⟨by kernel_rfl, by kernel_rfl, fun js => Eq.mpr (by kernel_rfl) (hr m c4 w h)⟩)
theorem yDU {a3 a2 : Nat} {a7 a5 : Nat} {b0 a9 : Nat} (h :
 ∀ b1, w.heap.size ≤ b1 →
 brB (decide (i0 < 0)) (
 ∀ w2, Adv [] [b1] w w2 →
 R (.int .i64 180) w2)
 (
 brB (decide (i0 > 11)) (
 ∀ w3, Adv [] [b1] w w3 →
 R (.int .i64 180) w3)
 (
 ∀ w4, Adv [] [b1] w w4 →
 Calls pP 30 #[(.agg (Z0 i0 i1 i2 i3 i4 i5 i6 i7 i8 i9 q0 a3 a2 j0 j1 j2 j3 q1 a7 a5 q2 b0 a9))] w4 fun e w5 => ∃ a6 n7 c8, e = .returned (.slice a6 n7 c8) ∧ yaI [b1] w4 w5 ∧
 yaL ynC (yCy 395 [0, 0, 1, 0, 1, 1, 1]) (yCz [1, 1, 1, 0, 1, 0] [] R) (yg3 a6 n7 c8 b1 i0 i1 i2 i3 i4 i5 i6 i7 i8 i9 q0 a3 a2 j0 j1 j2 j3 q1 a7 a5 q2 b0 a9 0) w5))) :
 CR pP 13 #[(.agg (Z0 i0 i1 i2 i3 i4 i5 i6 i7 i8 i9 q0 a3 a2 j0 j1 j2 j3 q1 a7 a5 q2 b0 a9))] w R :=
 yaA Tryz.wide_mixed (an := ynD) Tryz.func13 rfl rfl (by kernel_rfl) rfl (Eq.mpr (by kernel_rfl) h)
def ynE : LA := ⟨[0, 0, 1, 0, 1, 1, 1, 1], [1, 5, 6, 7], [(1, 0, 0)], 1, []⟩
def ynF : List LA := [ynE]
abbrev yCA := dnF pP ynF (code Tryz.f11)
abbrev yIz := yaP pP ynF (code Tryz.f11)
abbrev yCB (p : List Nat) (K : List Kh) (R : VWP) := yaP pP ynF (code Tryz.f11) p K (ya4 pP Tryz.f11 [] R)
def yg4 (c3 : OA) (c5 c4 bm0 : Nat) (b3 b4 b5 b6 b7 b8 b9 c0 c1 c2 : Int) (a0 : OA) (a6 a3 : Nat) (a9 b0 b1 b2 : Int) (a1 : OA) (a7 a4 : Nat) (a2 : OA) (a8 a5 : Nat) : ByteArray × Int → List Value × List TB := fun (c6, c7) => ([(.pointer (some ⟨bm0, 0, none⟩)), .string c6, .slice c3 c5 c4, .int .i64 c7], [⟨bm0, 29, [.int .i64 b3, .int .i64 b4, .int .i64 b5, .int .i64 b6, .int .i64 b7, .int .i64 b8, .int .i64 b9, .int .i64 c0, .int .i64 c1, .int .i64 c2, .slice a0 a6 a3, .int .i64 a9, .int .i64 b0, .int .i64 b1, .int .i64 b2, .slice a1 a7 a4, .slice a2 a8 a5], false⟩])
abbrev yz2 (c3 : OA) (c5 c4 bm0 : Nat) (b3 b4 b5 b6 b7 b8 b9 c0 c1 c2 : Int) (a0 : OA) (a6 a3 : Nat) (a9 b0 b1 b2 : Int) (a1 : OA) (a7 a4 : Nat) (a2 : OA) (a8 a5 : Nat) (I : Nat → ByteArray → Int → World → Prop) (m : Nat) : Kh := KG (yg4 c3 c5 c4 bm0 b3 b4 b5 b6 b7 b8 b9 c0 c1 c2 a0 a6 a3 a9 b0 b1 b2 a1 a7 a4 a2 a8 a5) (U2 I) m
theorem yuX {I : Nat → ByteArray → Int → World → Prop} (m' : Nat) (h1 : m' < m) (h2 : I m' s0 j4 w) : KS (yz2 q0 n0 n1 n2 i0 i1 i2 i3 i4 i5 i6 i7 i8 i9 q1 n3 n4 j0 j1 j2 j3 q2 n5 n6 q3 n7 n8 I m) (yg4 q0 n0 n1 n2 i0 i1 i2 i3 i4 i5 i6 i7 i8 i9 q1 n3 n4 j0 j1 j2 j3 q2 n5 n6 q3 n7 n8 (s0, j4)) w := ⟨m', h1, _, rfl, rfl, h2⟩
theorem yuY {c5 : OA} {a0 : OA} {a1 : OA} {a2 : OA} (I : Nat → ByteArray → Int → World → Prop) (m0 : Nat) (h0 : I m0 s0 j4 w0)
 (hr : ∀ m c6 c4 w, I m c6 c4 w →
 brB (decide (c4 < (n0 : Int))) (
 ixA c5 n0 c4 1 fun q9 =>
 yaF .i64 w q9 fun e5 =>
 Calls pP 31 #[(.int .u64 (IntKind.wrap .u64 e5))] w fun e e1 => ∃ d4, e = .returned (.string d4) ∧ yaI [n2] w e1 ∧
 yeZ c6 d4 fun e3 =>
 KS (yz2 c5 n0 n1 n2 i0 i1 i2 i3 i4 i5 i6 i7 i8 i9 a0 n3 n4 j0 j1 j2 j3 a1 n5 n6 a2 n7 n8 I m) (yg4 c5 n0 n1 n2 i0 i1 i2 i3 i4 i5 i6 i7 i8 i9 a0 n3 n4 j0 j1 j2 j3 a1 n5 n6 a2 n7 n8 (e3, (IntKind.wrap .i64 (c4 + 1)))) e1)
 (
 Calls pP 32 #[.slice a0 n3 n4] w fun e d0 => ∃ d5 e6, e = .returned (.tuple #[.string d5, .int .i64 e6]) ∧ yaI [n2] w d0 ∧
 Calls pP 33 #[(.agg (Z3 j0 j1 j2 j3 a1 n5 n6 a2 n7 n8))] d0 fun e d1 => ∃ d6 e7, e = .returned (.tuple #[.string d6, .int .i64 e7]) ∧ yaI [n2] d0 d1 ∧
 Calls pP 34 #[.string d5] d1 fun e d2 => ∃ d7, e = .returned (.string d7) ∧ yaI [n2] d1 d2 ∧
 Calls pP 34 #[.string d6] d2 fun e c8 => ∃ d8, e = .returned (.string d8) ∧ yaI [n2] d2 c8 ∧
 yeZ d7 d8 fun e4 =>
 yeZ c6 e4 fun d9 =>
 brB (decide ((d9.size : Int) > 1048576)) (
 R (.tuple #[(.string (⟨#[]⟩ : BA)), .int .i64 2]) c8)
 (
 Calls pP 35 #[.string d9] c8 fun e e2 => ∃ e0, e = .returned (.string e0) ∧ yaI [n2] c8 e2 ∧
 R (.tuple #[.string e0, .int .i64 0]) e2))) :
 yaL ynE (yCA 394 [0, 0, 1, 0, 1, 1, 1, 1]) (yCB [1, 1, 1, 1, 0, 1, 0] [] R) (yg4 c5 n0 n1 n2 i0 i1 i2 i3 i4 i5 i6 i7 i8 i9 a0 n3 n4 j0 j1 j2 j3 a1 n5 n6 a2 n7 n8 (s0, j4)) w0 :=
 lrule (yg4 c5 n0 n1 n2 i0 i1 i2 i3 i4 i5 i6 i7 i8 i9 a0 n3 n4 j0 j1 j2 j3 a1 n5 n6 a2 n7 n8) (U2 I) h0 (by rintro m ⟨c6, c4⟩ w h; exact ⟨by kernel_rfl, by kernel_rfl, fun js => Eq.mpr (by kernel_rfl) (hr m c6 c4 w h)⟩)
theorem yDV {a2 a1 : Nat} {a5 a4 : Nat} {a9 a8 : Nat} (h :
 ∀ b1, w.heap.size ≤ b1 →
 ∀ w2, Adv [] [b1] w w2 →
 Calls pP 13 #[(.agg (Z0 i0 i1 i2 i3 i4 i5 i6 i7 i8 i9 q0 a2 a1 j0 j1 j2 j3 q1 a5 a4 q2 a9 a8))] w2 fun e w3 => ∃ x4, e = .returned (.int .i64 x4) ∧ yaI [b1] w2 w3 ∧
 brB (x4 != 0) (
 R (.tuple #[(.string (⟨#[]⟩ : BA)), .int .i64 x4]) w3)
 (
 Calls pP 30 #[(.agg (Z0 i0 i1 i2 i3 i4 i5 i6 i7 i8 i9 q0 a2 a1 j0 j1 j2 j3 q1 a5 a4 q2 a9 a8))] w3 fun e w5 => ∃ a6 n7 c8, e = .returned (.slice a6 n7 c8) ∧ yaI [b1] w3 w5 ∧
 yaL ynE (yCA 394 [0, 0, 1, 0, 1, 1, 1, 1]) (yCB [1, 1, 1, 1, 0, 1, 0] [] R) (yg4 a6 n7 c8 b1 i0 i1 i2 i3 i4 i5 i6 i7 i8 i9 q0 a2 a1 j0 j1 j2 j3 q1 a5 a4 q2 a9 a8 ((⟨#[]⟩ : BA), 0)) w5)) :
 CR pP 11 #[(.agg (Z0 i0 i1 i2 i3 i4 i5 i6 i7 i8 i9 q0 a2 a1 j0 j1 j2 j3 q1 a5 a4 q2 a9 a8))] w R :=
 yaA Tryz.wide_mixed (an := ynF) Tryz.func11 rfl rfl (by kernel_rfl) rfl (Eq.mpr (by kernel_rfl) h)
def ynG : LA := ⟨[0, 0, 1, 0, 1, 1, 1], [1, 5, 18, 19], [(1, 0, 0), (5, 1, 0)], 2, [0, 1]⟩
def ynH : List LA := [ynG]
abbrev yCC := dnF pP ynH (code Tryz.f10)
abbrev yIA := yaP pP ynH (code Tryz.f10)
abbrev yCD (p : List Nat) (K : List Kh) (R : VWP) := yaP pP ynH (code Tryz.f10) p K (ya4 pP Tryz.f10 [] R)
def yg5 (b6 b7 b8 b9 c0 c1 c2 c3 c4 c5 : OA) (bm0 bm1 : Nat) : Int × Int × Int × Int × Int × Int × Int × Int × Int × Int × Int × (Option Addr) × Nat × Nat × Int × Int × Int × Int × (Option Addr) × Nat × Nat × (Option Addr) × Nat × Nat × (Option Addr) × (Option Addr) × Nat × Nat → List Value × List TB := fun (d7, c7, c8, c9, d0, d1, d2, d3, d4, d5, d6, a0, a6, a3, a9, b0, b1, b2, a1, a7, a4, a2, a8, a5, c6, b3, b5, b4) => ([(.pointer (some ⟨bm0, 0, none⟩)), (.pointer (some ⟨bm1, 0, none⟩)), (.agg (Z4 b6 b7 b8 b9 c0 c1 c2 c3 c4 c5)), .int .i64 d7], [⟨bm0, 29, [.int .i64 c7, .int .i64 c8, .int .i64 c9, .int .i64 d0, .int .i64 d1, .int .i64 d2, .int .i64 d3, .int .i64 d4, .int .i64 d5, .int .i64 d6, .slice a0 a6 a3, .int .i64 a9, .int .i64 b0, .int .i64 b1, .int .i64 b2, .slice a1 a7 a4, .slice a2 a8 a5], true⟩, ⟨bm1, 61, [.pointer c6, .slice b3 b5 b4], true⟩])
abbrev yz3 (a0 a1 a2 a3 a4 a5 a6 a7 a8 a9 : OA) (bm0 bm1 : Nat) (I : Nat → Int → Int → Int → Int → Int → Int → Int → Int → Int → Int → Int → Option Addr → Nat → Nat → Int → Int → Int → Int → Option Addr → Nat → Nat → Option Addr → Nat → Nat → Option Addr → Option Addr → Nat → Nat → World → Prop) (m : Nat) : Kh := KG (yg5 a0 a1 a2 a3 a4 a5 a6 a7 a8 a9 bm0 bm1) (U28 I) m
theorem yuZ {I : Nat → Int → Int → Int → Int → Int → Int → Int → Int → Int → Int → Int → Option Addr → Nat → Nat → Int → Int → Int → Int → Option Addr → Nat → Nat → Option Addr → Nat → Nat → Option Addr → Option Addr → Nat → Nat → World → Prop} (m' : Nat) (h1 : m' < m) (h2 : I m' i0 i1 i2 i3 i4 i5 i6 i7 i8 i9 j0 r0 n2 n3 j1 j2 j3 j4 r1 n4 n5 r2 n6 n7 r3 r4 n8 n9 w) : KS (yz3 q0 q1 q2 q3 q4 q5 q6 q7 q8 q9 n0 n1 I m) (yg5 q0 q1 q2 q3 q4 q5 q6 q7 q8 q9 n0 n1 (i0, i1, i2, i3, i4, i5, i6, i7, i8, i9, j0, r0, n2, n3, j1, j2, j3, j4, r1, n4, n5, r2, n6, n7, r3, r4, n8, n9)) w := ⟨m', h1, _, rfl, rfl, h2⟩
theorem yu0 (I : Nat → Int → Int → Int → Int → Int → Int → Int → Int → Int → Int → Int → Option Addr → Nat → Nat → Int → Int → Int → Int → Option Addr → Nat → Nat → Option Addr → Nat → Nat → Option Addr → Option Addr → Nat → Nat → World → Prop) (m0 : Nat) (h0 : I m0 i0 i1 i2 i3 i4 i5 i6 i7 i8 i9 j0 r0 n2 n3 j1 j2 j3 j4 r1 n4 n5 r2 n6 n7 r3 r4 n8 n9 w0)
 (hr : ∀ m d7 c7 c8 c9 d0 d1 d2 d3 d4 d5 d6 a0 a2 a1 b9 c0 c1 c2 b3 b7 b5 b4 b8 b6 c6 c3 c5 c4 w, I m d7 c7 c8 c9 d0 d1 d2 d3 d4 d5 d6 a0 a2 a1 b9 c0 c1 c2 b3 b7 b5 b4 b8 b6 c6 c3 c5 c4 w →
 w.heap[n0]? = some (.cells (Z0 c7 c8 c9 d0 d1 d2 d3 d4 d5 d6 a0 a2 a1 b9 c0 c1 c2 b3 b7 b5 b4 b8 b6) 29) →
 w.heap[n1]? = some (.cells #[.pointer c6, .slice c3 c5 c4] 61) →
 brB (decide (d7 < 10)) (
 ∃ w6, (∀ w' : World, (Instr.index 63 (.agg (Z4 q0 q1 q2 q3 q4 q5 q6 q7 q8 q9)) (.int .i64 d7)).run pP w' = .ok (.pointer w6) w') ∧
 ylP w6 fun ge =>
 yaF .i64 w ge fun gg =>
 Calls pP 24 #[(.int .u64 (IntKind.wrap .u64 gg))] w fun e v0 => ∃ w8, e = .returned (.string w8) ∧ ∃ gh gi gj gk gl gm gn go gp gq fr fz fv gr gs gt gu fs ga fw ft gb fx, v0.heap[n0]? = some (.cells (Z0 gh gi gj gk gl gm gn go gp gq fr fz fv gr gs gt gu fs ga fw ft gb fx) 29) ∧ ∃ gd fu gc fy, v0.heap[n1]? = some (.cells #[.pointer gd, .slice fu gc fy] 61) ∧
 Calls pP 23 #[(.pointer (some ⟨n1, 0, none⟩)), .string w8] v0 fun e v1 => ∃ gv gf, e = .returned (.tuple #[.int .i64 gv, gf]) ∧ ∃ w9 x0 x1 x2 x3 x4 x5 x6 x7 x8 v6 w3 v9 x9 y0 y1 y2 v7 w4 w1 v8 w5 w2, v1.heap[n0]? = some (.cells (Z0 w9 x0 x1 x2 x3 x4 x5 x6 x7 x8 v6 w3 v9 x9 y0 y1 y2 v7 w4 w1 v8 w5 w2) 29) ∧ ∃ w7 h3 h9 h6, v1.heap[n1]? = some (.cells #[.pointer w7, .slice h3 h9 h6] 61) ∧
 KS (yz3 q0 q1 q2 q3 q4 q5 q6 q7 q8 q9 n0 n1 I m) (yg5 q0 q1 q2 q3 q4 q5 q6 q7 q8 q9 n0 n1 ((IntKind.wrap .i64 (d7 + 1)), w9, x0, x1, x2, x3, x4, x5, x6, x7, x8, v6, w3, v9, x9, y0, y1, y2, v7, w4, w1, v8, w5, w2, w7, h3, h9, h6)) v1)
 (
 Calls pP 25 #[.slice a0 a2 a1] w fun e g6 => ∃ u2 ck, e = .returned (.tuple #[.string u2, .int .i64 ck]) ∧ ∃ cl cm cn co cp cq cr cs ct cu y3 be af v2 v3 v4 v5 h4 u0 h7 h5 u1 h8, g6.heap[n0]? = some (.cells (Z0 cl cm cn co cp cq cr cs ct cu y3 be af v2 v3 v4 v5 h4 u0 h7 h5 u1 h8) 29) ∧ ∃ cc y4 bf ag, g6.heap[n1]? = some (.cells #[.pointer cc, .slice y4 bf ag] 61) ∧
 Calls pP 26 #[(.agg (Z3 v2 v3 v4 v5 h4 u0 h7 h5 u1 h8))] g6 fun e g7 => ∃ u3 cv, e = .returned (.tuple #[.string u3, .int .i64 cv]) ∧ ∃ cw cx cy cz da db dc dd de df y5 bg ah dg dh di dj y6 bh ai y7 bi aj, g7.heap[n0]? = some (.cells (Z0 cw cx cy cz da db dc dd de df y5 bg ah dg dh di dj y6 bh ai y7 bi aj) 29) ∧ ∃ cd y8 bj ak, g7.heap[n1]? = some (.cells #[.pointer cd, .slice y8 bj ak] 61) ∧
 Calls pP 27 #[(.pointer (some ⟨n1, 0, none⟩))] g7 fun e g8 => ∃ u4, e = .returned (.string u4) ∧ ∃ dk dl dm dn dp dq dr ds dt du y9 bk am dv dw dx dy z0 bl an z1 bm ao, g8.heap[n0]? = some (.cells (Z0 dk dl dm dn dp dq dr ds dt du y9 bk am dv dw dx dy z0 bl an z1 bm ao) 29) ∧ ∃ ce z2 bn ap, g8.heap[n1]? = some (.cells #[.pointer ce, .slice z2 bn ap] 61) ∧
 Calls pP 28 #[.string u2] g8 fun e g9 => ∃ u5, e = .returned (.string u5) ∧ ∃ dz ea eb ec ed ee ef eg eh ei z3 bo aq ej ek el em z4 bp ar z5 bq au, g9.heap[n0]? = some (.cells (Z0 dz ea eb ec ed ee ef eg eh ei z3 bo aq ej ek el em z4 bp ar z5 bq au) 29) ∧ ∃ cf z6 br av, g9.heap[n1]? = some (.cells #[.pointer cf, .slice z6 br av] 61) ∧
 yeZ u4 u5 fun cj =>
 Calls pP 28 #[.string u3] g9 fun e g5 => ∃ u6, e = .returned (.string u6) ∧ ∃ en eo ep eq er et eu ew ex ey z7 bt aw ez fa fb fc z8 bu ax z9 bv ay, g5.heap[n0]? = some (.cells (Z0 en eo ep eq er et eu ew ex ey z7 bt aw ez fa fb fc z8 bu ax z9 bv ay) 29) ∧ ∃ ch aa bw az, g5.heap[n1]? = some (.cells #[.pointer ch, .slice aa bw az] 61) ∧
 yeZ cj u6 fun u7 =>
 brB (decide ((u7.size : Int) > 1048576)) (
 R (.tuple #[(.string (⟨#[]⟩ : BA)), .int .i64 2]) g5)
 (
 Calls pP 29 #[.string u7] g5 fun e h1 => ∃ u9, e = .returned (.string u9) ∧ ∃ fd fe ff fg fh fi fj fk fl fm ab bx ba fn fo fp fq ac bz bb ad ca bc, h1.heap[n0]? = some (.cells (Z0 fd fe ff fg fh fi fj fk fl fm ab bx ba fn fo fp fq ac bz bb ad ca bc) 29) ∧ ∃ ci ae cb bd, h1.heap[n1]? = some (.cells #[.pointer ci, .slice ae cb bd] 61) ∧
 R (.tuple #[.string u9, .int .i64 0]) h1))) :
 yaL ynG (yCC 395 [0, 0, 1, 0, 1, 1, 1]) (yCD [1, 1, 1, 0, 1, 0] [] R) (yg5 q0 q1 q2 q3 q4 q5 q6 q7 q8 q9 n0 n1 (i0, i1, i2, i3, i4, i5, i6, i7, i8, i9, j0, r0, n2, n3, j1, j2, j3, j4, r1, n4, n5, r2, n6, n7, r3, r4, n8, n9)) w0 :=
 lrule (yg5 q0 q1 q2 q3 q4 q5 q6 q7 q8 q9 n0 n1) (U28 I) h0 (by rintro m ⟨d7, c7, c8, c9, d0, d1, d2, d3, d4, d5, d6, a0, a2, a1, b9, c0, c1, c2, b3, b7, b5, b4, b8, b6, c6, c3, c5, c4⟩ w h; exact ⟨by kernel_rfl, by kernel_rfl, fun js => Eq.mpr (by kernel_rfl) (hr m d7 c7 c8 c9 d0 d1 d2 d3 d4 d5 d6 a0 a2 a1 b9 c0 c1 c2 b3 b7 b5 b4 b8 b6 c6 c3 c5 c4 w h)⟩)
theorem yDW {a2 a1 : Nat} {a5 a4 : Nat} {a8 a7 : Nat} (h :
 ∀ b1, w.heap.size ≤ b1 →
 ∀ w2, Adv [] [b1] w w2 →
 Calls pP 12 #[(.agg (Z0 i0 i1 i2 i3 i4 i5 i6 i7 i8 i9 q0 a2 a1 j0 j1 j2 j3 q1 a5 a4 q2 a8 a7))] w2 fun e w3 => ∃ x4, e = .returned (.int .i64 x4) ∧ yaI [b1] w2 w3 ∧
 brB (x4 != 0) (
 R (.tuple #[(.string (⟨#[]⟩ : BA)), .int .i64 x4]) w3)
 (
 ∀ b5, w3.heap.size ≤ b5 →
 ∀ w6, Adv [] [b5] w3 w6 → w6.heap[b1]? = some (.cells (Z0 i0 i1 i2 i3 i4 i5 i6 i7 i8 i9 q0 a2 a1 j0 j1 j2 j3 q1 a5 a4 q2 a8 a7) 29) →
 Calls pP 22 #[(.pointer (some ⟨b1, 0, none⟩))] w6 fun e w7 => ∃ p8 p9 e9 f0 f1 f2 f3 f4 f5 f6, e = .returned (.agg (Z4 p8 p9 e9 f0 f1 f2 f3 f4 f5 f6)) ∧ ya0 [b1] [(b5, 61)] [b5] w6 w7 ∧ ∃ d5 d6 d7 d8 d9 e0 e1 e2 e3 e4 c6 d2 c9 e5 e6 e7 e8 c7 d3 d0 c8 d4 d1, w7.heap[b1]? = some (.cells (Z0 d5 d6 d7 d8 d9 e0 e1 e2 e3 e4 c6 d2 c9 e5 e6 e7 e8 c7 d3 d0 c8 d4 d1) 29) ∧
 ∀ c5, Adv [] [] w7 c5 → c5.heap[b1]? = some (.cells (Z0 d5 d6 d7 d8 d9 e0 e1 e2 e3 e4 c6 d2 c9 e5 e6 e7 e8 c7 d3 d0 c8 d4 d1) 29) →
 c5.heap[b5]? = some (.cells #[.pointer none, .slice none 0 0] 61) →
 yaL ynG (yCC 395 [0, 0, 1, 0, 1, 1, 1]) (yCD [1, 1, 1, 0, 1, 0] [] R) (yg5 p8 p9 e9 f0 f1 f2 f3 f4 f5 f6 b1 b5 (0, d5, d6, d7, d8, d9, e0, e1, e2, e3, e4, c6, d2, c9, e5, e6, e7, e8, c7, d3, d0, c8, d4, d1, none, none, 0, 0)) c5)) :
 CR pP 10 #[(.agg (Z0 i0 i1 i2 i3 i4 i5 i6 i7 i8 i9 q0 a2 a1 j0 j1 j2 j3 q1 a5 a4 q2 a8 a7))] w R :=
 yaA Tryz.wide_mixed (an := ynH) Tryz.func10 rfl rfl (by kernel_rfl) rfl (Eq.mpr (by kernel_rfl) h)
def ynI : LA := ⟨[0, 0, 1, 0, 1, 1], [2, 3, 5, 6, 10], [(2, 0, 0), (3, 1, 0), (5, 2, 0), (6, 3, 0)], 4, [0, 1, 2, 3]⟩
def ynJ : List LA := [ynI]
abbrev yCE := dnF pP ynJ (code Tryz.f14)
abbrev yIB := yaP pP ynJ (code Tryz.f14)
abbrev yCF (p : List Nat) (K : List Kh) (R : VWP) := yaP pP ynJ (code Tryz.f14) p K (ya4 pP Tryz.f14 [] R)
def yg6 (bm0 : Nat) (e6 e7 e8 e9 f0 f1 f2 f3 f4 f5 : Int) (a0 : OA) (b2 a6 : Nat) (b8 b9 c0 c1 : Int) (a1 : OA) (b3 a7 : Nat) (a2 : OA) (b4 a8 bm1 : Nat) (f6 f7 f8 f9 g0 g1 g2 g3 g4 g5 : Int) (a3 : OA) (b5 a9 : Nat) (c2 c3 c4 c5 : Int) (a4 : OA) (b6 b0 : Nat) (a5 : OA) (b7 b1 bm2 : Nat) (c6 c7 c8 c9 d0 d1 d2 d3 d4 d5 : OA) (bm3 : Nat) (d6 d7 d8 d9 e0 e1 e2 e3 e4 e5 : OA) : Int → List Value × List TB := fun g6 => ([(.pointer (some ⟨bm0, 0, none⟩)), (.pointer (some ⟨bm1, 0, none⟩)), (.pointer (some ⟨bm2, 0, none⟩)), (.pointer (some ⟨bm3, 0, none⟩)), .int .i64 g6], [⟨bm0, 29, [.int .i64 e6, .int .i64 e7, .int .i64 e8, .int .i64 e9, .int .i64 f0, .int .i64 f1, .int .i64 f2, .int .i64 f3, .int .i64 f4, .int .i64 f5, .slice a0 b2 a6, .int .i64 b8, .int .i64 b9, .int .i64 c0, .int .i64 c1, .slice a1 b3 a7, .slice a2 b4 a8], true⟩, ⟨bm1, 29, [.int .i64 f6, .int .i64 f7, .int .i64 f8, .int .i64 f9, .int .i64 g0, .int .i64 g1, .int .i64 g2, .int .i64 g3, .int .i64 g4, .int .i64 g5, .slice a3 b5 a9, .int .i64 c2, .int .i64 c3, .int .i64 c4, .int .i64 c5, .slice a4 b6 b0, .slice a5 b7 b1], true⟩, ⟨bm2, 63, [.pointer c6, .pointer c7, .pointer c8, .pointer c9, .pointer d0, .pointer d1, .pointer d2, .pointer d3, .pointer d4, .pointer d5], true⟩, ⟨bm3, 63, [.pointer d6, .pointer d7, .pointer d8, .pointer d9, .pointer e0, .pointer e1, .pointer e2, .pointer e3, .pointer e4, .pointer e5], true⟩])
abbrev yz4 (bm0 : Nat) (e6 e7 e8 e9 f0 f1 f2 f3 f4 f5 : Int) (a0 : OA) (b2 a6 : Nat) (b8 b9 c0 c1 : Int) (a1 : OA) (b3 a7 : Nat) (a2 : OA) (b4 a8 bm1 : Nat) (f6 f7 f8 f9 g0 g1 g2 g3 g4 g5 : Int) (a3 : OA) (b5 a9 : Nat) (c2 c3 c4 c5 : Int) (a4 : OA) (b6 b0 : Nat) (a5 : OA) (b7 b1 bm2 : Nat) (c6 c7 c8 c9 d0 d1 d2 d3 d4 d5 : OA) (bm3 : Nat) (d6 d7 d8 d9 e0 e1 e2 e3 e4 e5 : OA) (I : Nat → Int → World → Prop) (m : Nat) : Kh := KG (yg6 bm0 e6 e7 e8 e9 f0 f1 f2 f3 f4 f5 a0 b2 a6 b8 b9 c0 c1 a1 b3 a7 a2 b4 a8 bm1 f6 f7 f8 f9 g0 g1 g2 g3 g4 g5 a3 b5 a9 c2 c3 c4 c5 a4 b6 b0 a5 b7 b1 bm2 c6 c7 c8 c9 d0 d1 d2 d3 d4 d5 bm3 d6 d7 d8 d9 e0 e1 e2 e3 e4 e5) (U1 I) m
theorem yu1 {d6 d7 d8 d9 e0 e1 e2 e3 e4 e5 : OA} {I : Nat → Int → World → Prop} (m' : Nat) (h1 : m' < m) (h2 : I m' k8 w) : KS (yz4 n0 i0 i1 i2 i3 i4 i5 i6 i7 i8 i9 q0 n1 n2 j0 j1 j2 j3 q1 n3 n4 q2 n5 n6 n7 j4 j5 j6 j7 j8 j9 k0 k1 k2 k3 q3 n8 n9 k4 k5 k6 k7 q4 o0 o1 q5 o2 o3 o4 q6 q7 q8 q9 r0 r1 r2 r3 r4 r5 o5 d6 d7 d8 d9 e0 e1 e2 e3 e4 e5 I m) (yg6 n0 i0 i1 i2 i3 i4 i5 i6 i7 i8 i9 q0 n1 n2 j0 j1 j2 j3 q1 n3 n4 q2 n5 n6 n7 j4 j5 j6 j7 j8 j9 k0 k1 k2 k3 q3 n8 n9 k4 k5 k6 k7 q4 o0 o1 q5 o2 o3 o4 q6 q7 q8 q9 r0 r1 r2 r3 r4 r5 o5 d6 d7 d8 d9 e0 e1 e2 e3 e4 e5 k8) w := ⟨m', h1, _, rfl, rfl, h2⟩
theorem yu2 {d6 d7 d8 d9 e0 e1 e2 e3 e4 e5 : OA} (I : Nat → Int → World → Prop) (m0 : Nat) (h0 : I m0 k8 w0)
 (hr : ∀ m e6 w, I m e6 w →
 w.heap[n0]? = some (.cells (Z0 i0 i1 i2 i3 i4 i5 i6 i7 i8 i9 q0 n1 n2 j0 j1 j2 j3 q1 n3 n4 q2 n5 n6) 29) →
 w.heap[n7]? = some (.cells (Z0 j4 j5 j6 j7 j8 j9 k0 k1 k2 k3 q3 n8 n9 k4 k5 k6 k7 q4 o0 o1 q5 o2 o3) 29) →
 w.heap[o4]? = some (.cells (Z4 q6 q7 q8 q9 r0 r1 r2 r3 r4 r5) 63) →
 w.heap[o5]? = some (.cells (Z4 d6 d7 d8 d9 e0 e1 e2 e3 e4 e5) 63) →
 brB (decide (e6 < 10)) (0 ≤ e6 ∧ e6 < ((10 : Nat) : Int) ∧
 ynU w (Addr.add ⟨o4, 0, none⟩ (Int.toNat e6 * 1)) fun db =>
 ylP db fun dc =>
 yaF .i64 w dc fun ba => 0 ≤ e6 ∧ e6 < ((10 : Nat) : Int) ∧
 ynU w (Addr.add ⟨o5, 0, none⟩ (Int.toNat e6 * 1)) fun y1 =>
 ylP y1 fun az =>
 yaF .i64 w az fun bb =>
 brB (ba != bb) (
 ∀ g7, Adv [] [] w g7 → g7.heap[n0]? = some (.cells (Z0 i0 i1 i2 i3 i4 i5 i6 i7 i8 i9 q0 n1 n2 j0 j1 j2 j3 q1 n3 n4 q2 n5 n6) 29) →
 g7.heap[n7]? = some (.cells (Z0 j4 j5 j6 j7 j8 j9 k0 k1 k2 k3 q3 n8 n9 k4 k5 k6 k7 q4 o0 o1 q5 o2 o3) 29) →
 g7.heap[o4]? = some (.cells (Z4 q6 q7 q8 q9 r0 r1 r2 r3 r4 r5) 63) →
 g7.heap[o5]? = some (.cells (Z4 d6 d7 d8 d9 e0 e1 e2 e3 e4 e5) 63) →
 R (.bool false) g7)
 (
 ∀ g8, Adv [] [] w g8 → g8.heap[n0]? = some (.cells (Z0 i0 i1 i2 i3 i4 i5 i6 i7 i8 i9 q0 n1 n2 j0 j1 j2 j3 q1 n3 n4 q2 n5 n6) 29) →
 g8.heap[n7]? = some (.cells (Z0 j4 j5 j6 j7 j8 j9 k0 k1 k2 k3 q3 n8 n9 k4 k5 k6 k7 q4 o0 o1 q5 o2 o3) 29) →
 g8.heap[o4]? = some (.cells (Z4 q6 q7 q8 q9 r0 r1 r2 r3 r4 r5) 63) →
 g8.heap[o5]? = some (.cells (Z4 d6 d7 d8 d9 e0 e1 e2 e3 e4 e5) 63) →
 KS (yz4 n0 i0 i1 i2 i3 i4 i5 i6 i7 i8 i9 q0 n1 n2 j0 j1 j2 j3 q1 n3 n4 q2 n5 n6 n7 j4 j5 j6 j7 j8 j9 k0 k1 k2 k3 q3 n8 n9 k4 k5 k6 k7 q4 o0 o1 q5 o2 o3 o4 q6 q7 q8 q9 r0 r1 r2 r3 r4 r5 o5 d6 d7 d8 d9 e0 e1 e2 e3 e4 e5 I m) (yg6 n0 i0 i1 i2 i3 i4 i5 i6 i7 i8 i9 q0 n1 n2 j0 j1 j2 j3 q1 n3 n4 q2 n5 n6 n7 j4 j5 j6 j7 j8 j9 k0 k1 k2 k3 q3 n8 n9 k4 k5 k6 k7 q4 o0 o1 q5 o2 o3 o4 q6 q7 q8 q9 r0 r1 r2 r3 r4 r5 o5 d6 d7 d8 d9 e0 e1 e2 e3 e4 e5 (IntKind.wrap .i64 (e6 + 1))) g8))
 (
 Calls pP 37 #[.slice q0 n1 n2, .slice q3 n8 n9] w fun e g9 => ∃ u5, e = .returned (.bool u5) ∧ ∃ bc bd be bf bg bh bi bj bk bl v6 x3 w5 u7 u9 v0 v1 h3 u1 h7 h4 u2 h8, g9.heap[n0]? = some (.cells (Z0 bc bd be bf bg bh bi bj bk bl v6 x3 w5 u7 u9 v0 v1 h3 u1 h7 h4 u2 h8) 29) ∧ ∃ bm bn bo bp bq br bt bu bv bw v7 x4 w6 v2 v3 v4 v5 h5 u3 h9 h6 u4 u0, g9.heap[n7]? = some (.cells (Z0 bm bn bo bp bq br bt bu bv bw v7 x4 w6 v2 v3 v4 v5 h5 u3 h9 h6 u4 u0) 29) ∧ ∃ y2 y3 y4 y5 y6 y7 y8 y9 z0 z1, g9.heap[o4]? = some (.cells (Z4 y2 y3 y4 y5 y6 y7 y8 y9 z0 z1) 63) ∧ ∃ z2 z3 z4 z5 z6 z7 z8 z9 aa ab, g9.heap[o5]? = some (.cells (Z4 z2 z3 z4 z5 z6 z7 z8 z9 aa ab) 63) ∧
 brB u5 (
 Calls pP 38 #[(.agg (Z3 u7 u9 v0 v1 h3 u1 h7 h4 u2 h8)), (.agg (Z3 v2 v3 v4 v5 h5 u3 h9 h6 u4 u0))] g9 fun e h1 => ∃ u6, e = .returned (.bool u6) ∧ ∃ bx bz ca cb cc cd ce cf ch ci v8 x5 w7 cj ck cl cm v9 x6 w8 w1 x7 w9, h1.heap[n0]? = some (.cells (Z0 bx bz ca cb cc cd ce cf ch ci v8 x5 w7 cj ck cl cm v9 x6 w8 w1 x7 w9) 29) ∧ ∃ cn co cp cq cr cs ct cu cv cw w2 x8 x0 cx cy cz da w3 x9 x1 w4 y0 x2, h1.heap[n7]? = some (.cells (Z0 cn co cp cq cr cs ct cu cv cw w2 x8 x0 cx cy cz da w3 x9 x1 w4 y0 x2) 29) ∧ ∃ ac ad ae af ag ah ai aj ak am, h1.heap[o4]? = some (.cells (Z4 ac ad ae af ag ah ai aj ak am) 63) ∧ ∃ an ao ap aq ar au av aw ax ay, h1.heap[o5]? = some (.cells (Z4 an ao ap aq ar au av aw ax ay) 63) ∧
 R (.bool u6) h1)
 (
 R (.bool false) g9))) :
 yaL ynI (yCE 396 [0, 0, 1, 0, 1, 1]) (yCF [1, 1, 0, 1, 0] [] R) (yg6 n0 i0 i1 i2 i3 i4 i5 i6 i7 i8 i9 q0 n1 n2 j0 j1 j2 j3 q1 n3 n4 q2 n5 n6 n7 j4 j5 j6 j7 j8 j9 k0 k1 k2 k3 q3 n8 n9 k4 k5 k6 k7 q4 o0 o1 q5 o2 o3 o4 q6 q7 q8 q9 r0 r1 r2 r3 r4 r5 o5 d6 d7 d8 d9 e0 e1 e2 e3 e4 e5 k8) w0 :=
 lrule (yg6 n0 i0 i1 i2 i3 i4 i5 i6 i7 i8 i9 q0 n1 n2 j0 j1 j2 j3 q1 n3 n4 q2 n5 n6 n7 j4 j5 j6 j7 j8 j9 k0 k1 k2 k3 q3 n8 n9 k4 k5 k6 k7 q4 o0 o1 q5 o2 o3 o4 q6 q7 q8 q9 r0 r1 r2 r3 r4 r5 o5 d6 d7 d8 d9 e0 e1 e2 e3 e4 e5) (U1 I) h0 (by rintro m e6 w h; exact ⟨by kernel_rfl, by kernel_rfl, fun js => Eq.mpr (by kernel_rfl) (hr m e6 w h)⟩)
theorem yDX {a3 a2 : Nat} {a6 a5 : Nat} {a9 a8 : Nat} {b4 b3 : Nat} {b7 b6 : Nat} {c0 b9 : Nat} (h :
 ∀ b1, w.heap.size ≤ b1 →
 ∀ b2, w.heap.size ≤ b2 →
 ∀ w3, Adv [] [b2, b1] w w3 → w3.heap[b1]? = some (.cells (Z0 i0 i1 i2 i3 i4 i5 i6 i7 i8 i9 q0 a3 a2 j0 j1 j2 j3 q1 a6 a5 q2 a9 a8) 29) →
 Calls pP 22 #[(.pointer (some ⟨b1, 0, none⟩))] w3 fun e w4 => ∃ p5 p6 p7 p8 p9 h1 h2 h3 h4 h5, e = .returned (.agg (Z4 p5 p6 p7 p8 p9 h1 h2 h3 h4 h5)) ∧ ya0 [b1] [(b2, 29)] [b2] w3 w4 ∧ ∃ y6 y7 y8 y9 z0 z1 z2 z3 z4 z5 x7 y3 y0 z6 z7 z8 z9 x8 y4 y1 x9 y5 y2, w4.heap[b1]? = some (.cells (Z0 y6 y7 y8 y9 z0 z1 z2 z3 z4 z5 x7 y3 y0 z6 z7 z8 z9 x8 y4 y1 x9 y5 y2) 29) ∧
 ∀ f2, Adv [] [] w4 f2 → f2.heap[b1]? = some (.cells (Z0 y6 y7 y8 y9 z0 z1 z2 z3 z4 z5 x7 y3 y0 z6 z7 z8 z9 x8 y4 y1 x9 y5 y2) 29) →
 f2.heap[b2]? = some (.cells (Z0 j4 j5 j6 j7 j8 j9 k0 k1 k2 k3 q3 b4 b3 k4 k5 k6 k7 q4 b7 b6 q5 c0 b9) 29) →
 Calls pP 22 #[(.pointer (some ⟨b2, 0, none⟩))] f2 fun e e9 => ∃ h6 h7 h8 h9 u0 u1 u2 u3 u4 u5, e = .returned (.agg (Z4 h6 h7 h8 h9 u0 u1 u2 u3 u4 u5)) ∧ ∃ u6 u7 u9 v0 v1 v2 v3 v4 v5 v6 f3 g5 f9 v7 v8 v9 w0 f4 g6 g0 f5 g7 g1, e9.heap[b1]? = some (.cells (Z0 u6 u7 u9 v0 v1 v2 v3 v4 v5 v6 f3 g5 f9 v7 v8 v9 w0 f4 g6 g0 f5 g7 g1) 29) ∧ ∃ w1 w2 w5 w6 w7 w8 w9 x0 x1 x2 f6 g8 g2 x3 x4 x5 x6 f7 g9 g3 f8 h0 g4, e9.heap[b2]? = some (.cells (Z0 w1 w2 w5 w6 w7 w8 w9 x0 x1 x2 f6 g8 g2 x3 x4 x5 x6 f7 g9 g3 f8 h0 g4) 29) ∧
 ∀ f0, e9.heap.size ≤ f0 →
 ∀ f1, e9.heap.size ≤ f1 →
 ∀ a0, Adv [] [f1, f0] e9 a0 → a0.heap[b1]? = some (.cells (Z0 u6 u7 u9 v0 v1 v2 v3 v4 v5 v6 f3 g5 f9 v7 v8 v9 w0 f4 g6 g0 f5 g7 g1) 29) →
 a0.heap[b2]? = some (.cells (Z0 w1 w2 w5 w6 w7 w8 w9 x0 x1 x2 f6 g8 g2 x3 x4 x5 x6 f7 g9 g3 f8 h0 g4) 29) →
 a0.heap[f0]? = some (.cells (Z4 p5 p6 p7 p8 p9 h1 h2 h3 h4 h5) 63) →
 a0.heap[f1]? = some (.cells (Z4 h6 h7 h8 h9 u0 u1 u2 u3 u4 u5) 63) →
 yaL ynI (yCE 396 [0, 0, 1, 0, 1, 1]) (yCF [1, 1, 0, 1, 0] [] R) (yg6 b1 u6 u7 u9 v0 v1 v2 v3 v4 v5 v6 f3 g5 f9 v7 v8 v9 w0 f4 g6 g0 f5 g7 g1 b2 w1 w2 w5 w6 w7 w8 w9 x0 x1 x2 f6 g8 g2 x3 x4 x5 x6 f7 g9 g3 f8 h0 g4 f0 p5 p6 p7 p8 p9 h1 h2 h3 h4 h5 f1 h6 h7 h8 h9 u0 u1 u2 u3 u4 u5 0) a0) :
 CR pP 14 #[(.agg (Z0 i0 i1 i2 i3 i4 i5 i6 i7 i8 i9 q0 a3 a2 j0 j1 j2 j3 q1 a6 a5 q2 a9 a8)), (.agg (Z0 j4 j5 j6 j7 j8 j9 k0 k1 k2 k3 q3 b4 b3 k4 k5 k6 k7 q4 b7 b6 q5 c0 b9))] w R :=
 yaA Tryz.wide_mixed (an := ynJ) Tryz.func14 rfl rfl (by kernel_rfl) rfl (Eq.mpr (by kernel_rfl) h)
theorem yDY {a2 a1 : Nat} {a5 a4 : Nat} {a9 a8 : Nat} (h :
 ∀ b1, w.heap.size ≤ b1 →
 ∀ b2, w.heap.size ≤ b2 →
 ∀ b3, w.heap.size ≤ b3 →
 ∀ w4, Adv [] [b3, b2, b1] w w4 →
 Calls pP 20 #[.slice q0 a2 a1] w4 fun e w5 => ∃ a6 n7 c8, e = .returned (.slice a6 n7 c8) ∧ yaI [b1, b2, b3] w4 w5 ∧
 ∀ w9, Adv [b3] [] w5 w9 →
 Calls pP 21 #[(.agg (Z3 j0 j1 j2 j3 q1 a5 a4 q2 a9 a8))] w9 fun e d4 => ∃ d6 d7 d8 d9 c7 d2 d0 c9 d3 d1, e = .returned (.agg (Z3 d6 d7 d8 d9 c7 d2 d0 c9 d3 d1)) ∧ yaI [b1, b2, b3] w9 d4 ∧
 ∀ d5, Adv [b2, b3] [] d4 d5 →
 R (.agg (Z0 i0 i1 i2 i3 i4 i5 i6 i7 i8 i9 a6 n7 c8 d6 d7 d8 d9 c7 d2 d0 c9 d3 d1)) d5) :
 CR pP 9 #[(.agg (Z0 i0 i1 i2 i3 i4 i5 i6 i7 i8 i9 q0 a2 a1 j0 j1 j2 j3 q1 a5 a4 q2 a9 a8))] w R :=
 yaA Tryz.wide_mixed (an := []) Tryz.func9 rfl rfl (by kernel_rfl) rfl (Eq.mpr (by kernel_rfl) h)
theorem yDZ (h :
 ∀ b1, w.heap.size ≤ b1 →
 ∀ w2, Adv [] [b1] w w2 →
 Calls pP 10 #[(.agg (Z0 4 0 1 2 0 0 5 0 0 0 none 0 0 0 0 0 0 none 0 0 none 0 0))] w2 fun e w3 => ∃ s4 x5, e = .returned (.tuple #[.string s4, .int .i64 x5]) ∧ yaI [b1] w2 w3 ∧
 Calls pP 17 #[.string s4] w3 fun e w6 => ∃ x7 x8 x9 d0 d2 d3 d4 d5 d6 d7 a8 b5 b2 d8 d9 e0 e1 a9 b6 b3 b0 b7 b4 f5, e = .returned (.tuple #[(.agg (Z0 x7 x8 x9 d0 d2 d3 d4 d5 d6 d7 a8 b5 b2 d8 d9 e0 e1 a9 b6 b3 b0 b7 b4)), .int .i64 f5]) ∧ yaI [b1] w3 w6 ∧
 ∀ a0, w6.heap.size ≤ a0 →
 yeZ s4 (⟨#[120]⟩ : BA) fun u2 =>
 ∀ c4, Adv [] [a0] w6 c4 →
 Calls pP 17 #[.string u2] c4 fun e c5 => ∃ u4 u5 u6 u7 u9 v0 v1 v2 v3 v4 h3 h9 h6 v5 v6 v7 v8 h4 u0 h7 h5 u1 h8 f6, e = .returned (.tuple #[(.agg (Z0 u4 u5 u6 u7 u9 v0 v1 v2 v3 v4 h3 h9 h6 v5 v6 v7 v8 h4 u0 h7 h5 u1 h8)), .int .i64 f6]) ∧ yaI [b1, a0] c4 c5 ∧
 ∀ a2, c5.heap.size ≤ a2 →
 ∀ c6, Adv [] [a2] c5 c6 →
 Calls pP 10 #[(.agg (Z0 12 0 0 0 0 0 0 0 0 0 none 0 0 0 0 0 0 none 0 0 none 0 0))] c6 fun e c7 => ∃ u3 f7, e = .returned (.tuple #[.string u3, .int .i64 f7]) ∧ yaI [b1, a0, a2] c6 c7 ∧
 Calls pP 11 #[(.agg (Z0 4 0 1 2 0 0 5 0 0 0 none 0 0 0 0 0 0 none 0 0 none 0 0))] c7 fun e c8 => ∃ f1 f8, e = .returned (.tuple #[.string f1, .int .i64 f8]) ∧ yaI [b1, a0, a2] c7 c8 ∧
 Calls pP 19 #[(.agg (Z0 4 0 1 2 0 0 5 0 0 0 none 0 0 0 0 0 0 none 0 0 none 0 0))] c8 fun e a3 => ∃ f9 g0 g1 g2 g3 g4 g5 g6 g7 g8 e2 e8 e5 g9 h0 h1 h2 e3 e9 e6 e4 f0 e7, e = .returned (.agg (Z0 f9 g0 g1 g2 g3 g4 g5 g6 g7 g8 e2 e8 e5 g9 h0 h1 h2 e3 e9 e6 e4 f0 e7)) ∧ yaI [b1, a0, a2] c8 a3 ∧
 ∀ a1, a3.heap.size ≤ a1 →
 brB (x5 == 0) (
 brB (s4.toList == f1.toList) (
 brB (f8 == 0) (
 brB (f5 == 0) (
 ∀ c9, Adv [] [a1] a3 c9 →
 Calls pP 15 #[(.agg (Z0 4 0 1 2 0 0 5 0 0 0 none 0 0 0 0 0 0 none 0 0 none 0 0)), (.agg (Z0 x7 x8 x9 d0 d2 d3 d4 d5 d6 d7 a8 b5 b2 d8 d9 e0 e1 a9 b6 b3 b0 b7 b4))] c9 fun e a4 => ∃ f2, e = .returned (.bool f2) ∧ yaI [b1, a0, a2, a1] c9 a4 ∧
 brB f2 (
 brB (f6 == 180) (
 brB (f7 == 180) (
 Calls pP 14 #[(.agg (Z0 4 0 1 2 0 0 5 0 0 0 none 0 0 0 0 0 0 none 0 0 none 0 0)), (.agg (Z0 x7 x8 x9 d0 d2 d3 d4 d5 d6 d7 a8 b5 b2 d8 d9 e0 e1 a9 b6 b3 b0 b7 b4))] a4 fun e a5 => ∃ f3, e = .returned (.bool f3) ∧ yaI [b1, a0, a2, a1] a4 a5 ∧
 brB f3 (
 Calls pP 14 #[(.agg (Z0 4 0 1 2 0 0 5 0 0 0 none 0 0 0 0 0 0 none 0 0 none 0 0)), (.agg (Z0 0 0 0 0 0 0 0 0 0 0 none 0 0 0 0 0 0 none 0 0 none 0 0))] a5 fun e a6 => ∃ f4, e = .returned (.bool f4) ∧ yaI [b1, a0, a2, a1] a5 a6 ∧
 brB (!f4) (
 Calls pP 15 #[(.agg (Z0 f9 g0 g1 g2 g3 g4 g5 g6 g7 g8 e2 e8 e5 g9 h0 h1 h2 e3 e9 e6 e4 f0 e7)), (.agg (Z0 4 0 1 2 0 0 5 0 0 0 none 0 0 0 0 0 0 none 0 0 none 0 0))] a6 fun e a7 => ∃ b8, e = .returned (.bool b8) ∧ yaI [b1, a0, a2, a1] a6 a7 ∧
 brB b8 (
 Calls pP 12 #[(.agg (Z0 0 0 0 (-1) 0 0 0 0 0 0 none 0 0 0 0 0 0 none 0 0 none 0 0))] a7 fun e b9 => ∃ d1, e = .returned (.int .i64 d1) ∧ yaI [b1, a0, a2, a1] a7 b9 ∧
 R (.bool (d1 == 1)) b9)
 (
 R (.bool false) a7))
 (
 R (.bool false) a6))
 (
 R (.bool false) a5))
 (
 R (.bool false) a4))
 (
 R (.bool false) a4))
 (
 R (.bool false) a4))
 (
 ∀ c0, Adv [] [a1] a3 c0 →
 R (.bool false) c0))
 (
 ∀ c1, Adv [] [a1] a3 c1 →
 R (.bool false) c1))
 (
 ∀ c2, Adv [] [a1] a3 c2 →
 R (.bool false) c2))
 (
 ∀ c3, Adv [] [a1] a3 c3 →
 R (.bool false) c3)) :
 CR pP 16 #[] w R :=
 yaA Tryz.wide_mixed (an := []) Tryz.func16 rfl rfl (by kernel_rfl) rfl (Eq.mpr (by kernel_rfl) h)
end
theorem yeX {x : Int} (h0 : 0 ≤ x) (h : x.toNat ≤ 1099511627776) : num x = true := yo4 h0 (by omega)
theorem ylG {w : World} {r : PRep} {f p : Sl} (h : RepAt w r f p) :
  Calls pP 33 #[r.v f p] w fun e w' => e = .returned (.tuple #[.string (if yfA r = 0 then bs (ydB r) else bs []), .int .i64 (yfA r)]) ∧ Mod [] w w' := by
 refine yaQ (yDT ?_)
 intro b1 f1 w2 A2
 refine (yAX (h.keep0 A2.mod)).mono ?_
 rintro _ w3 ⟨rfl, M3⟩
 have N3 := A2.mod.go0 M3 (by simp)
 refine ⟨_, rfl, yaI.of0 M3, yaB (fun g => ?_) fun g => ?_⟩
 ·have g : yfA r ≠ 0 := by simpa using g
  rw [if_neg g]; exact ⟨rfl, N3⟩
 have g : yfA r = 0 := by simpa using g
 have G := RepGood.of g
 rw [if_pos g, g]
 have e4 := h.found.1
 have e5 := h.parts.1
 have lf := G.lf
 have lp := G.lp
 obtain ⟨n0, n1, n2, n3⟩ := G.nn
 have d0 := G.hd r.e.toNat (by simp [hdL])
 have d1 := G.hd r.off.toNat (by simp [hdL])
 have d2 := G.hd r.n.toNat (by simp [hdL])
 have d3 := G.hd r.gen.toNat (by simp [hdL])
 have v0 := (yaN r.e.toNat (by omega)).2
 have v1 := (yaN r.off.toNat (by omega)).2
 have v2 := (yaN r.n.toNat (by omega)).2
 have v3 := (yaN r.gen.toNat (by omega)).2
 have v4 := (yaN f.n (by omega)).2
 have v5 := (yaN p.n (by omega)).2
 intro w5 A5
 refine (ydP (yeX n0 d0) w5).mono ?_
 rintro _ w6 ⟨rfl, M6⟩
 refine ⟨_, rfl, yaI.of0 M6, rfl, rfl, rfl, rfl, ?_⟩
 refine (ydP (yeX n1 d1) w6).mono ?_
 rintro _ w7 ⟨rfl, M7⟩
 refine ⟨_, rfl, yaI.of0 M7, rfl, rfl, rfl, by rw [yaD, yaD]; omega, ?_⟩
 rw [ybB]
 refine (ydP (yeX n2 d2) w7).mono ?_
 rintro _ w8 ⟨rfl, M8⟩
 refine ⟨_, rfl, yaI.of0 M8, rfl, rfl, by rw [yaD, yaD, List.length_append]; omega, ?_⟩
 rw [ybB]
 refine (ydP (yeX n3 d3) w8).mono ?_
 rintro _ w9 ⟨rfl, M9⟩
 refine ⟨_, rfl, yaI.of0 M9, rfl, by rw [yaD, yaD, List.length_append, List.length_append]; omega, ?_⟩
 rw [ybB]
 refine (ydP (x := (f.n : Nat)) (yo4 (by omega) (by omega)) w9).mono ?_
 rintro _ w10 ⟨rfl, M10⟩
 refine ⟨_, rfl, yaI.of0 M10, by rw [yaD, yaD, List.length_append, List.length_append, List.length_append, Int.toNat_natCast]; omega, ?_⟩
 rw [ybB, Int.toNat_natCast]
 have N10 : Mod [] w w10 := (((((N3.go0 A5.mod (by simp)).go0 M6 (by simp)).go0 M7 (by simp)).go0 M8 (by simp)).go0 M9 (by simp)).go0 M10 (by simp)
 have eh : yaK r.e.toNat ++ yaK r.off.toNat ++ yaK r.n.toNat ++ yaK r.gen.toNat ++ yaK f.n = ycV r 0 := by
  simp [ycV, hdL, e4]
 rw [eh]
 refine yuS (fun mm s x w' => ∃ k : Nat, x = k ∧ k ≤ r.found.length ∧ s = bs (ycV r k) ∧ Mod [] w w' ∧ mm = r.found.length - k) r.found.length ⟨0, rfl, by omega, rfl, N10, rfl⟩ ?_
 rintro mm s x w11 ⟨k, rfl, hk, rfl, M11, rfl⟩
 have l2 := G.len2 k
 refine yaC (fun hlt => ?_) fun hge => ?_
 ·obtain ⟨y, hy⟩ : ∃ y, r.found[k]? = some y := ⟨_, List.getElem?_eq_getElem (by omega)⟩
  obtain ⟨y1, y2⟩ := G.f y (List.mem_of_getElem? hy)
  have ly := G.lenF (List.mem_of_getElem? hy)
  have l2' := G.len2 (k + 1)
  refine (h.keep0 M11).found.ixW hy fun q hq => ?_
  intro w12 A12
  have N12 := M11.go0 A12.mod (by simp)
  refine yaE (x := y.off) (by simpa [add_zero] using hq w12 A12.mod 0 _ rfl) ?_
  refine (h.keep0 N12).found.ixW hy fun q hq => ?_
  have hc := hq w12 (Mod.refl _)
  rw [yeS, yeS, yeS]
  refine yaM (hc 1 _ rfl) (yaH (hc 2 _ rfl) (yaM (hc 3 _ rfl) (yaH (hc 4 _ rfl) ?_)))
  refine (ydP y1 w12).mono ?_
  rintro _ w13 ⟨rfl, M13⟩
  have hd := hq w13 M13
  refine ⟨_, rfl, yaI.of0 M13, ?_, rfl, ?_⟩
  ·exact yaM (hd 1 _ rfl) (yaH (hd 2 _ rfl) (yaM (hd 3 _ rfl) (yaH (hd 4 _ rfl) rfl)))
  refine (yzY y.r y2 w13).mono ?_
  rintro _ w14 ⟨rfl, M14⟩
  have N14 := (N12.go0 M13 (by simp)).go0 M14 (by simp)
  have eF : yaK y.off.toNat ++ yfP y.r = yeU y := rfl
  refine ⟨_, rfl, yaI.of0 M14, by rw [yaD, yaD, ← List.length_append, eF]; omega, ?_⟩
  rw [ybB, eF]
  refine ⟨by rw [yaD, yaD]; omega, ?_⟩
  rw [ybB]
  refine yuR (r.found.length - (k + 1)) (by omega) ⟨k + 1, by rw [yaG (by omega) (by omega)]; omega, by omega, ?_, N14, rfl⟩
  rw [ycV, ycV, ybF hy, ← List.append_assoc]
 ·have hk : k = r.found.length := by omega
  subst hk
  refine (ydP (x := (p.n : Nat)) (yo4 (by omega) (by omega)) w11).mono ?_
  rintro _ w12 ⟨rfl, M12⟩
  refine ⟨_, rfl, yaI.of0 M12, by rw [yaD, yaD, Int.toNat_natCast]; omega, ?_⟩
  rw [ybB, Int.toNat_natCast]
  have e3 : ycV r r.found.length ++ yaK p.n = yeN r 0 := by rw [ycV, yeN, List.take_length, e5]; simp
  rw [e3]
  refine yuU (fun mm s x w' => ∃ k : Nat, x = k ∧ k ≤ r.parts.length ∧ s = bs (yeN r k) ∧ Mod [] w w' ∧ mm = r.parts.length - k) r.parts.length ⟨0, rfl, by omega, rfl, M11.go0 M12 (by simp), rfl⟩ ?_
  rintro mm s x w13 ⟨k, rfl, hk, rfl, M13, rfl⟩
  have l3 := G.len3 k
  refine yaC (fun hlt => ?_) fun hge => ?_
  ·obtain ⟨y, hy⟩ : ∃ y, r.parts[k]? = some y := ⟨_, List.getElem?_eq_getElem (by omega)⟩
   obtain ⟨y1, y2⟩ := G.p y (List.mem_of_getElem? hy)
   have ly := G.lenP (List.mem_of_getElem? hy)
   refine (h.keep0 M13).parts.ixW hy fun q hq => ?_
   intro w14 A14
   have N14 := M13.go0 A14.mod (by simp)
   refine yaH (x := y.t) (by simpa [add_zero] using hq w14 A14.mod 0 _ rfl) ?_
   refine (h.keep0 N14).parts.ixW hy fun q hq => ?_
   refine yaE (x := y.n) (hq w14 (Mod.refl _) 1 _ rfl) ?_
   refine (ycR y.t (by omega) w14).mono ?_
   rintro _ w15 ⟨rfl, M15⟩
   refine ⟨_, rfl, yaI.of0 M15, yaE (x := y.n) (hq w15 M15 1 _ rfl) rfl, rfl, ?_⟩
   refine (ydP y1 w15).mono ?_
   rintro _ w16 ⟨rfl, M16⟩
   have N16 := (N14.go0 M15 (by simp)).go0 M16 (by simp)
   have eP : ya7 y.t ++ yaK y.n.toNat = ycM y := rfl
   refine ⟨_, rfl, yaI.of0 M16, by rw [yaD, yaD, ← List.length_append, eP]; omega, ?_⟩
   rw [ybB, eP]
   refine ⟨by rw [yaD, yaD]; omega, ?_⟩
   rw [ybB]
   refine yuT (r.parts.length - (k + 1)) (by omega) ⟨k + 1, by rw [yaG (by omega) (by omega)]; omega, by omega, ?_, N16, rfl⟩
   rw [yeN, yeN, ybF hy, ← List.append_assoc]
  ·have hk : k = r.parts.length := by omega
   subst hk
   exact ⟨rfl, M13⟩
theorem yBk {z : Nat} (hz : z < 4294967296) (h : stN z = 0) : z = 0 := by
 unfold stN at h
 split at h
 ·rename_i ho
  have h2 : z / 2 = 3988292384 := by
   have e := congrArg (fun x => x ^^^ 3988292384) h
   simp only [Nat.xor_assoc, Nat.xor_self, Nat.xor_zero, Nat.zero_xor] at e
   exact e
  omega
 ·omega
theorem yrD {x y : Nat} (h : x ^^^ y = 0) : x = y := by
 have e := congrArg (fun z => z ^^^ y) h
 simp only [Nat.xor_assoc, Nat.xor_self, Nat.xor_zero, Nat.zero_xor] at e
 exact e
theorem yD0 {x y : Nat} (hx : x < 4294967296) (hy : y < 4294967296) (h : stN x = stN y) : x = y := by
 refine yrD (yBk (yhP hx hy) ?_)
 rw [yzG, h, Nat.xor_self]
theorem yrE {x y : Nat} (hx : x < 4294967296) (hy : y < 4294967296) : ∀ k, itN x k = itN y k → x = y
 | 0, h => h
 | k + 1, h => yrE hx hy k (yD0 (yhI hx k) (yhI hy k) h)
theorem yo5 {x y b : Nat} (h : x ^^^ b = y ^^^ b) : x = y := by
 have e := congrArg (fun z => z ^^^ b) h
 simp only [Nat.xor_assoc, Nat.xor_self, Nat.xor_zero] at e
 exact e
theorem yBl {c x y : Nat} (h : c ^^^ x = c ^^^ y) : x = y := by
 rw [Nat.xor_comm c x, Nat.xor_comm c y] at h; exact yo5 h
theorem yBm {x y : Nat} (hx : x < 4294967296) (hy : y < 4294967296) (b : UInt8) (h : byN x b = byN y b) : x = y := by
 have hb := yEm b
 exact yo5 (yrE (yhP hx (by omega)) (yhP hy (by omega)) 8 h)
theorem yBn {c : Nat} (hc : c < 4294967296) {a b : UInt8} (h : byN c a = byN c b) : a = b := by
 have ha := yEm a
 have hb := yEm b
 exact UInt8.toNat_inj.1 (yBl (yrE (yhP hc (by omega)) (yhP hc (by omega)) 8 h))
theorem ytF : ∀ (l : List UInt8) {x y : Nat}, x < 4294967296 → y < 4294967296 → yo3 x l = yo3 y l → x = y
 | [], x, y, _, _, h => h
 | b :: l, x, y, hx, hy, h => yBm hx hy b (ytF l (yjD hx b) (yjD hy b) h)
theorem ytG : ∀ (l : List UInt8) {c : Nat} (hc : c < 4294967296) (i : Nat) (hi : i < l.length) (x : UInt8), yo3 c (l.set i x) = yo3 c l → l[i] = x
 | [], _, _, i, hi, _, _ => by simp at hi
 | b :: l, c, hc, 0, _, x, h => (yBn hc (ytF l (yjD hc x) (yjD hc b) h)).symm
 | b :: l, c, hc, i + 1, hi, x, h => by
  have hi' : i < l.length := by simpa using hi
  have := ytG l (yjD hc b) i hi' x h
  simpa using this
theorem yBo {l : List UInt8} {i : Nat} (hi : i < l.length) {x : UInt8} (hx : l[i] ≠ x) : yEn (l.set i x) ≠ yEn l := fun h => by
 have h1 := ygX l (c := 4294967295) (by omega)
 have h2 := ygX (l.set i x) (c := 4294967295) (by omega)
 unfold yEn at h
 have e : yo3 4294967295 (l.set i x) = yo3 4294967295 l := by omega
 exact hx (ytG l (by omega) i hi x e)
theorem yz5 {m n : Nat} (hm : m < 4294967296) (hn : n < 4294967296) (h : ybQ (m : Nat) = ybQ (n : Nat)) : m = n := by
 have k0 : ∀ n : Nat, lbI (n : Nat) 0 = ((n % 256 : Nat) : Int) := fun n => by
  unfold lbI; rw [Int.fdiv_eq_ediv_of_nonneg _ (by decide), IntKind.wrap_u8]; show ((n : Int) / 1) % 256 = _; omega
 have k1 : ∀ n : Nat, lbI (n : Nat) 1 = ((n / 256 % 256 : Nat) : Int) := fun n => by
  unfold lbI; rw [Int.fdiv_eq_ediv_of_nonneg _ (by decide), IntKind.wrap_u8]; show ((n : Int) / 256) % 256 = _; omega
 have k2 : ∀ n : Nat, lbI (n : Nat) 2 = ((n / 65536 % 256 : Nat) : Int) := fun n => by
  unfold lbI; rw [Int.fdiv_eq_ediv_of_nonneg _ (by decide), IntKind.wrap_u8]; show ((n : Int) / 65536) % 256 = _; omega
 have k3 : ∀ n : Nat, lbI (n : Nat) 3 = ((n / 16777216 % 256 : Nat) : Int) := fun n => by
  unfold lbI; rw [Int.fdiv_eq_ediv_of_nonneg _ (by decide), IntKind.wrap_u8]; show ((n : Int) / 16777216) % 256 = _; omega
 have eq : ∀ k, lb (m : Nat) k = lb (n : Nat) k → lbI (m : Nat) k = lbI (n : Nat) k := fun k h => by rw [← yfF, ← yfF, h]
 simp only [ybQ, List.cons.injEq, and_true] at h
 obtain ⟨h0, h1, h2, h3⟩ := h
 have h0 := eq 0 h0
 have h1 := eq 1 h1
 have h2 := eq 2 h2
 have h3 := eq 3 h3
 rw [k0, k0] at h0
 rw [k1, k1] at h1
 rw [k2, k2] at h2
 rw [k3, k3] at h3
 omega
theorem yjJ {n : Nat} (h : n < 2097152) : (yaK n).length ≤ 3 := by
 rw [yaK, List.length_map]
 exact (yeE 2 n (by omega)).2
theorem yD1 {lim : Nat} (s : ByteArray) (r : List UInt8) (hs : s.size < 18446744073709551616) (hr : r.length < s.size) : tg lim (yaK s.size ++ r) = none := by
 have hv := yoJ 9 0 s.size r rfl (by simpa using hs) (by omega)
 unfold tg
 rw [hv]
 simp only [List.length_append]
 rw [if_neg (by omega)]
theorem ytH (s : ByteArray) (i : Nat) (x : UInt8) : (bs (s.data.toList.set i x)).data.toList = s.data.toList.set i x := by simp [bs]
theorem yz6 {lim : Nat} {s : ByteArray} (hs : s.size < 2097152) (hl : s.size ≤ lim) {k : Nat} (hk : 3 ≤ k) {x : UInt8} (hlt : k < (ya5 s).length) (hx : (ya5 s)[k] ≠ x) : cg lim ((ya5 s).set k x) = none := by
 have hp := yjJ hs
 have hf := yc2 s
 have hd : s.data.toList.length = s.size := by simp
 have hpt : (ya7 s).length = (yaK s.size).length + s.size := by rw [ya7, List.length_append, hd]
 by_cases hin : k < (ya7 s).length
 ·
  obtain ⟨i, hi⟩ : ∃ i, i = k - (yaK s.size).length := ⟨_, rfl⟩
  have hi2 : i < s.data.toList.length := by omega
  have e1 : (ya5 s).set k x = ya7 (bs (s.data.toList.set i x)) ++ ybQ (yjW s.data.toList) := by
   unfold ya5 ya7
   rw [List.append_assoc, List.set_append_right _ _ (by omega), ← hi, List.set_append_left _ _ hi2, ytH, yaD, List.length_set, hd, List.append_assoc]
  have e2 : (ya5 s)[k] = s.data.toList[i] := by
   have : (ya5 s)[k]? = s.data.toList[i]? := by
    unfold ya5 ya7
    rw [List.append_assoc, List.getElem?_append_right (by omega), ← hi, List.getElem?_append_left hi2]
   rw [List.getElem?_eq_getElem hlt, List.getElem?_eq_getElem hi2] at this
   exact Option.some.inj this
  rw [e2] at hx
  unfold cg
  have hsz : (bs (s.data.toList.set i x)).size = s.size := by rw [yaD, List.length_set, hd]
  rw [e1, yoL _ _ (by omega) (by omega)]
  simp only [List.length_append, List.drop_left']
  rw [if_neg]
  rintro ⟨_, h⟩
  rw [List.take_of_length_le (by simp [ybQ]), ytH, ys7, ys7] at h
  exact yBo hi2 hx (yz5 (yrA _) (yrA _) h).symm
 ·
  obtain ⟨i, hi⟩ : ∃ i, i = k - (ya7 s).length := ⟨_, rfl⟩
  have hll : (ybQ (yjW s.data.toList)).length = 4 := rfl
  have e1 : (ya5 s).set k x = ya7 s ++ (ybQ (yjW s.data.toList)).set i x := by
   unfold ya5
   rw [List.set_append_right _ _ (by omega), ← hi]
  have hi2 : i < (ybQ (yjW s.data.toList)).length := by omega
  have e2 : (ya5 s)[k] = (ybQ (yjW s.data.toList))[i] := by
   have : (ya5 s)[k]? = (ybQ (yjW s.data.toList))[i]? := by
    unfold ya5
    rw [List.getElem?_append_right (by omega), ← hi]
   rw [List.getElem?_eq_getElem hlt, List.getElem?_eq_getElem hi2] at this
   exact Option.some.inj this
  rw [e2] at hx
  unfold cg
  rw [e1, yoL s _ hl (by omega)]
  simp only [List.length_append, List.drop_left']
  rw [if_neg]
  rintro ⟨_, h⟩
  rw [List.take_of_length_le (by simp [hll])] at h
  have := congrArg (fun l : List UInt8 => l[i]?) h
  simp only [List.getElem?_set_self hi2, List.getElem?_eq_getElem hi2] at this
  exact hx (Option.some.inj this).symm
theorem yBp {lim : Nat} {s : ByteArray} (hs : s.size < 2097152) {k : Nat} (hk : 3 ≤ k) (hlt : k < (ya5 s).length) : cg lim ((ya5 s).take k) = none := by
 have hp := yjJ hs
 have hf := yc2 s
 have hd : s.data.toList.length = s.size := by simp
 have hpt : (ya7 s).length = (yaK s.size).length + s.size := by rw [ya7, List.length_append, hd]
 by_cases hin : k < (ya7 s).length
 ·have e1 : (ya5 s).take k = yaK s.size ++ s.data.toList.take (k - (yaK s.size).length) := by
   unfold ya5 ya7
   rw [List.append_assoc, List.take_append, List.take_of_length_le (by omega), List.take_append_of_le_length (by omega)]
  unfold cg
  rw [e1, yD1 s _ (by omega) (by rw [List.length_take]; omega)]
 ·have e1 : (ya5 s).take k = ya7 s ++ (ybQ (yjW s.data.toList)).take (k - (ya7 s).length) := by
   unfold ya5
   rw [List.take_append, List.take_of_length_le (by omega)]
  unfold cg
  rw [e1]
  by_cases hl : s.size ≤ lim
  ·rw [yoL s _ hl (by omega)]
   simp only [List.length_append, List.length_take]
   rw [if_neg]
   have hll : (ybQ (yjW s.data.toList)).length = 4 := rfl
   rintro ⟨h, _⟩
   omega
  ·have : tg lim (ya7 s ++ (ybQ (yjW s.data.toList)).take (k - (ya7 s).length)) = none := by
    generalize (ybQ (yjW s.data.toList)).take (k - (ya7 s).length) = r
    have hv := yoJ 9 0 s.size (s.data.toList ++ r) rfl (by omega) (by omega)
    unfold tg ya7
    rw [List.append_assoc, hv]
    simp only
    rw [if_neg (by omega)]
   rw [this]
def yjK (n : Int) : List UInt8 := yaK n.toNat
def ya9 (m : PMail) : List UInt8 := (yaR m).flatMap yjK ++ ya7 (bs (ybI m.calls)) ++ ya7 (bs (ydB m.r))
def ybS (m : PMail) : Int := if ycG m ≠ 0 then ycG m else if (ya9 m).length > 1048576 then 2 else 0
def yb8 (m : PMail) : ByteArray := bs (ya5 (bs (ya9 m)))
theorem ybJ {m : PMail} (h : ybS m = 0) : ycG m = 0 ∧ (ya9 m).length ≤ 1048576 := by
 unfold ybS at h
 split at h
 ·rename_i g; exact absurd h g
 ·rename_i g
  split at h
  ·omega
  ·exact ⟨by simpa using g, by omega⟩
theorem yjL {xs : List PCall} (h : ycQ xs = 0) : (ybI xs).length ≤ 200000000 := by
 obtain ⟨h1, h2⟩ := ygG h
 have h3 := ydC (f := yfB) (c := 40000) (l := xs) fun x hx => (ygF (h2 x hx).1 (h2 x hx).2).1
 have h4 := (yaN xs.length (by omega)).2
 unfold ybI; rw [List.length_append]; omega
theorem yd3 (m : PMail) : (yaR m).length = 10 := rfl
theorem yd4 {n : Int} (h : num n = true) : n.toNat < 18446744073709551616 ∧ (yjK n).length ≤ 10 := by
 have := yeV h
 exact ⟨by omega, (yaN n.toNat (by omega)).2⟩
theorem ygI {m : PMail} (h : (yaR m).all num = true) {k : Nat} {n : Int} (hn : (yaR m)[k]? = some n) : num n = true := List.all_eq_true.1 h n (List.mem_of_getElem? hn)
theorem yd5 {m : PMail} (h : (yaR m).all num = true) (k : Nat) : (((yaR m).take k).flatMap yjK).length ≤ 100 := by
 have := ydC (f := yjK) (c := 10) (l := (yaR m).take k) fun x hx => (yd4 (List.all_eq_true.1 h x (List.mem_of_mem_take hx))).2
 have e : ((yaR m).take k).length ≤ 10 := by rw [List.length_take, yd3]; omega
 omega
theorem yo6 {m : PMail} (h : ycG m = 0) : (ya9 m).length ≤ 300000000 := by
 obtain ⟨_, h1, h2, h3⟩ := yb7 h
 have l1 := yd5 h1 10
 rw [List.take_of_length_le (by rw [yd3]; omega)] at l1
 have l2 := yjL h2
 have l3 := (RepGood.of h3).len3 m.r.parts.length
 have l3 : (ydB m.r).length ≤ 60000 := l3
 have p2 := (yaZ (bs (ybI m.calls)) (by rw [yaD]; omega)).2
 have p3 := (yaZ (bs (ydB m.r)) (by rw [yaD]; omega)).2
 rw [yaD] at p2 p3
 unfold ya9; rw [List.length_append, List.length_append]; omega
def yhQ (m : PMail) (k : Nat) : Nat := (((yaR m).take k).flatMap yjK).length
theorem yBq {m : PMail} (h : (yaR m).all num = true) {k : Nat} {n : Int} (hn : (yaR m)[k]? = some n) : yeO (ya9 m) (yhQ m k) = some (n.toNat, yhQ m (k + 1)) := by
 have hs := yd4 (ygI h hn)
 have hk := (List.getElem?_eq_some_iff.1 hn).1
 have e : yaR m = (yaR m).take k ++ n :: (yaR m).drop (k + 1) := by
  have h2 := List.drop_eq_getElem_cons hk
  have h3 : (yaR m)[k] = n := (List.getElem?_eq_some_iff.1 hn).2
  rw [h3] at h2
  rw [← h2, List.take_append_drop]
 have hd : (ya9 m).drop (yhQ m k) = yjK n ++ (((yaR m).drop (k + 1)).flatMap yjK ++ ya7 (bs (ybI m.calls)) ++ ya7 (bs (ydB m.r))) := by
  have e2 : (yaR m).flatMap yjK = ((yaR m).take k).flatMap yjK ++ (yjK n ++ ((yaR m).drop (k + 1)).flatMap yjK) := by
   conv => lhs; rw [e]
   rw [List.flatMap_append, List.flatMap_cons]
  unfold ya9 yhQ
  rw [e2]
  simp only [List.append_assoc]
  rw [List.drop_left']
  rfl
 rw [ye4 (n := n.toNat) hs.1 hd]
 congr 2
 unfold yhQ
 rw [ybF hn, List.length_append]; rfl
theorem yBr {m : PMail} (h : ybS m = 0) : yk5 1048576 (ya9 m) (yhQ m 10) = some (bs (ybI m.calls), yhQ m 10 + (ya7 (bs (ybI m.calls))).length) ∧
  yk5 1048576 (ya9 m) (yhQ m 10 + (ya7 (bs (ybI m.calls))).length) = some (bs (ydB m.r), (ya9 m).length) := by
 obtain ⟨_, hl⟩ := ybJ h
 have e10 : yhQ m 10 = ((yaR m).flatMap yjK).length := by unfold yhQ; rw [List.take_of_length_le (by rw [yd3]; omega)]
 have hd1 : (ya9 m).drop (yhQ m 10) = ya7 (bs (ybI m.calls)) ++ ya7 (bs (ydB m.r)) := by
  rw [e10]; unfold ya9; rw [List.append_assoc, List.drop_left']; rfl
 have hd2 : (ya9 m).drop (yhQ m 10 + (ya7 (bs (ybI m.calls))).length) = ya7 (bs (ydB m.r)) ++ [] := by
  rw [List.append_nil, yaU hd1]
 have hlen : (ya9 m).length = yhQ m 10 + (ya7 (bs (ybI m.calls))).length + (ya7 (bs (ydB m.r))).length := by
  rw [e10]; unfold ya9; rw [List.length_append, List.length_append]
 have z1 : (bs (ybI m.calls)).size ≤ (ya7 (bs (ybI m.calls))).length := by unfold ya7; rw [List.length_append]; simp
 have z2 : (bs (ydB m.r)).size ≤ (ya7 (bs (ydB m.r))).length := by unfold ya7; rw [List.length_append]; simp
 refine ⟨yeK (by omega) (by omega) hd1, ?_⟩
 rw [yeK (by omega) (by omega) hd2, hlen]
theorem yz7 {x y : PMail} (hx : ybS x = 0) (hy : ybS y = 0) (h : yb8 x = yb8 y) : ya9 x = ya9 y := by
 have h := yiW h
 obtain ⟨_, l1⟩ := ybJ hx
 obtain ⟨_, l2⟩ := ybJ hy
 have c1 := ykL (lim := 1048576) (bs (ya9 x)) [] (by rw [yaD]; omega) (by rw [yaD]; omega)
 have c2 := ykL (lim := 1048576) (bs (ya9 y)) [] (by rw [yaD]; omega) (by rw [yaD]; omega)
 rw [h, c2] at c1
 have := (Prod.mk.inj (Option.some.inj c1)).1
 exact (yiW this).symm
theorem yz8 {x : PMail} (hx : ybS x = 0) : cg 1048576 (yb8 x).data.toList = some (bs (ya9 x), (ya5 (bs (ya9 x))).length) := by
 obtain ⟨_, l1⟩ := ybJ hx
 have := ykL (lim := 1048576) (bs (ya9 x)) [] (by rw [yaD]; omega) (by rw [yaD]; omega)
 rw [List.append_nil] at this
 rw [yb8, ycE]; exact this
theorem yg7 {α : Type} {f : α → List UInt8} {l : List α} {k : Nat} {x : α} (h : l[k]? = some x) : l.flatMap f = (l.take k).flatMap f ++ (f x ++ (l.drop (k + 1)).flatMap f) := by
 have hk := (List.getElem?_eq_some_iff.1 h).1
 have h2 := List.drop_eq_getElem_cons hk
 have h3 : l[k] = x := (List.getElem?_eq_some_iff.1 h).2
 rw [h3] at h2
 conv => lhs; rw [← List.take_append_drop k l, h2]
 rw [List.flatMap_append, List.flatMap_cons]
theorem ynK {p q l : List UInt8} (h : l = p ++ q) : l.drop p.length = q := by
 rw [h, List.drop_left']; rfl
theorem yHs {r : PRep} {k n : Nat} (h : (hdL r)[k]? = some n) : ∃ t, (ydB r).drop (yhO r k).length = yaK n ++ t :=
 ⟨_, ynK (p := yhO r k) (by unfold ydB yeN yhO; rw [yg7 h]; simp only [List.append_assoc]; rfl)⟩
theorem yH9 {r : PRep} {k : Nat} {y : PFound} (h : r.found[k]? = some y) : ∃ t, (ydB r).drop (ycV r k).length = yaK y.off.toNat ++ (yfP y.r ++ t) :=
 ⟨_, ynK (p := ycV r k) (by unfold ydB yeN ycV; rw [yg7 h, yeU]; simp only [List.append_assoc]; rfl)⟩
theorem yHt (r : PRep) : ∃ t, (ydB r).drop (ycV r r.found.length).length = yaK r.parts.length ++ t :=
 ⟨_, ynK (p := ycV r r.found.length) (by unfold ydB yeN ycV; simp only [List.take_length, List.append_assoc]; rfl)⟩
theorem yIa {r : PRep} {k : Nat} {y : PPart} (h : r.parts[k]? = some y) : ∃ t, (ydB r).drop (yeN r k).length = ycM y ++ t :=
 ⟨_, ynK (p := yeN r k) (by unfold ydB; rw [yeN, yeN, List.take_length, yg7 h]; simp only [List.append_assoc]; rfl)⟩
theorem yz9 (r : PRep) : yhO r 5 = ycV r 0 := by rw [yhO, ycV, List.take_of_length_le (by simp [hdL])]; simp
theorem yHu (r : PRep) : yeN r 0 = ycV r r.found.length ++ yaK r.parts.length := by rw [ycV, yeN, List.take_length]; simp
theorem yAa {r : PRep} {k n : Nat} (h : (hdL r)[k]? = some n) : (yhO r (k + 1)).length = (yhO r k).length + (yaK n).length := by rw [yhO, ybF h, List.length_append]; rfl
theorem yAb {r : PRep} {k : Nat} {y : PFound} (h : r.found[k]? = some y) : (ycV r (k + 1)).length = (ycV r k).length + (yaK y.off.toNat).length + (yfP y.r).length := by
 have e : ycV r (k + 1) = ycV r k ++ yeU y := by rw [ycV, ycV, ybF h, ← List.append_assoc]
 rw [e, List.length_append, yeU, List.length_append]; omega
theorem yAc {r : PRep} {k : Nat} {y : PPart} (h : r.parts[k]? = some y) : (yeN r (k + 1)).length = (yeN r k).length + (ycM y).length := by
 rw [yeN, yeN, ybF h, ← List.append_assoc, List.length_append]
def hdI (r : PRep) : List Int := [r.e, r.off, r.n, r.gen, r.found.length]
theorem yHv {r : PRep} (G : RepGood r) {k : Nat} {n : Int} (h : (hdI r)[k]? = some n) : num n = true ∧ (hdL r)[k]? = some n.toNat := by
 obtain ⟨n0, n1, n2, n3⟩ := G.nn
 have lf := G.lf
 have d0 := G.hd r.e.toNat (by simp [hdL])
 have d1 := G.hd r.off.toNat (by simp [hdL])
 have d2 := G.hd r.n.toNat (by simp [hdL])
 have d3 := G.hd r.gen.toNat (by simp [hdL])
 have hk := (List.getElem?_eq_some_iff.1 h).1
 simp [hdI] at hk
 match k, hk, h with
 | 0, _, h => simp [hdI] at h; subst h; exact ⟨yeX n0 d0, rfl⟩
 | 1, _, h => simp [hdI] at h; subst h; exact ⟨yeX n1 d1, rfl⟩
 | 2, _, h => simp [hdI] at h; subst h; exact ⟨yeX n2 d2, rfl⟩
 | 3, _, h => simp [hdI] at h; subst h; exact ⟨yeX n3 d3, rfl⟩
 | 4, _, h => simp [hdI] at h; subst h; exact ⟨yo4 (by omega) (by omega), by simp [hdL]⟩
def ye6 (s : ByteArray) (x : PRep) : Prop := yfA x = 0 ∧ s.data.toList = ydB x
theorem ye6.eq {s : ByteArray} {x : PRep} (h : ye6 s x) : s = bs (ydB x) := by
 have := h.2; rw [← this, yoK]
theorem ye6.of {s : ByteArray} {x : PRep} (h : yfA x = 0) (hs : s = bs (ydB x)) : ye6 s x := ⟨h, by rw [hs, ycE]⟩
theorem ye6.hd {s : ByteArray} {x : PRep} (h : ye6 s x) {k : Nat} {n : Int} (hn : (hdI x)[k]? = some n) : ybC s.data.toList (some (yhO x k).length) 0 = (some (yhO x (k + 1)).length, n) := by
 obtain ⟨h1, h2⟩ := yHv (RepGood.of h.1) hn
 obtain ⟨t, ht⟩ := yHs h2
 rw [h.2, ybG h1 ht, yAa h2]
theorem ye6.f {s : ByteArray} {x : PRep} (h : ye6 s x) {k : Nat} {y : PFound} (hy : x.found[k]? = some y) :
  ybC s.data.toList (some (ycV x k).length) 0 = (some ((ycV x k).length + (yaK y.off.toNat).length), y.off) ∧ yoX s.data.toList ((ycV x k).length + (yaK y.off.toNat).length) = some (y.r, (ycV x (k + 1)).length) := by
 obtain ⟨h1, h2⟩ := (RepGood.of h.1).f y (List.mem_of_getElem? hy)
 obtain ⟨t, ht⟩ := yH9 hy
 rw [h.2, ybG h1 ht]
 refine ⟨rfl, ?_⟩
 rw [ysS h2 (yaU ht), yAb hy]
theorem ye6.np {s : ByteArray} {x : PRep} (h : ye6 s x) : ybC s.data.toList (some (ycV x x.found.length).length) 0 = (some (yeN x 0).length, ((x.parts.length : Nat) : Int)) := by
 obtain ⟨t, ht⟩ := yHt x
 have lp := (RepGood.of h.1).lp
 rw [h.2, ybG (n := (x.parts.length : Nat)) (yo4 (by omega) (by omega)) (by simpa using ht), yHu, List.length_append]
 rfl
theorem ye6.p {s : ByteArray} {x : PRep} (h : ye6 s x) {k : Nat} {y : PPart} (hy : x.parts[k]? = some y) : ycN s.data.toList (some (yeN x k).length) = (some (yeN x (k + 1)).length, y) := by
 obtain ⟨h1, h2⟩ := (RepGood.of h.1).p y (List.mem_of_getElem? hy)
 have h3 := (RepGood.of h.1).lenP (List.mem_of_getElem? hy)
 obtain ⟨t, ht⟩ := yIa hy
 rw [h.2, ydE h3.2 h1 ht, yAc hy]
theorem ytI {x y : PRep} (hx : yfA x = 0) (hy : yfA y = 0) (h : ydB x = ydB y) : x = y := by
 have X : ye6 (bs (ydB x)) x := ⟨hx, ycE _⟩
 have Y : ye6 (bs (ydB x)) y := ⟨hy, by rw [ycE, h]⟩
 have hd : ∀ k, k ≤ 5 → (yhO x k).length = (yhO y k).length ∧ (hdI x).take k = (hdI y).take k := by
  intro k
  induction k with
  | zero => intro _; exact ⟨rfl, rfl⟩
  | succ k ih =>
   intro hk
   obtain ⟨i1, i2⟩ := ih (by omega)
   obtain ⟨a, ha⟩ : ∃ a, (hdI x)[k]? = some a := ⟨_, List.getElem?_eq_getElem (by simp [hdI]; omega)⟩
   obtain ⟨b, hb⟩ : ∃ b, (hdI y)[k]? = some b := ⟨_, List.getElem?_eq_getElem (by simp [hdI]; omega)⟩
   have h1 := X.hd ha
   have h2 := Y.hd hb
   rw [i1, h2] at h1
   simp only [Prod.mk.injEq, Option.some.injEq] at h1
   exact ⟨h1.1.symm, by rw [List.take_add_one, List.take_add_one, ha, hb, i2, h1.2]⟩
 obtain ⟨h5, hI⟩ := hd 5 (Nat.le_refl _)
 rw [List.take_of_length_le (by simp [hdI]), List.take_of_length_le (by simp [hdI])] at hI
 simp only [hdI, List.cons.injEq, and_true] at hI
 obtain ⟨e1, e2, e3, e4, e5⟩ := hI
 have e5 : x.found.length = y.found.length := by omega
 rw [yz9, yz9] at h5
 have hf : ∀ k, k ≤ x.found.length → (ycV x k).length = (ycV y k).length ∧ x.found.take k = y.found.take k := by
  intro k
  induction k with
  | zero => intro _; exact ⟨h5, rfl⟩
  | succ k ih =>
   intro hk
   obtain ⟨i1, i2⟩ := ih (by omega)
   obtain ⟨a, ha⟩ : ∃ a, x.found[k]? = some a := ⟨_, List.getElem?_eq_getElem (by omega)⟩
   obtain ⟨b, hb⟩ : ∃ b, y.found[k]? = some b := ⟨_, List.getElem?_eq_getElem (by omega)⟩
   obtain ⟨h1, h2⟩ := X.f ha
   obtain ⟨h3, h4⟩ := Y.f hb
   rw [i1, h3] at h1
   simp only [Prod.mk.injEq, Option.some.injEq] at h1
   rw [i1, ← h1.1, h4] at h2
   simp only [Prod.mk.injEq, Option.some.injEq] at h2
   have : a = b := by
    obtain ⟨o1, q1⟩ := a
    obtain ⟨o2, q2⟩ := b
    simp only [PFound.mk.injEq]
    exact ⟨h1.2.symm, h2.1.symm⟩
   exact ⟨h2.2.symm, by rw [List.take_add_one, List.take_add_one, ha, hb, i2, this]⟩
 obtain ⟨h6, e6⟩ := hf _ (Nat.le_refl _)
 rw [List.take_length, e5, List.take_length] at e6
 have h7 := X.np
 have h8 := Y.np
 rw [h6, e5, h8] at h7
 simp only [Prod.mk.injEq, Option.some.injEq] at h7
 have e7 : x.parts.length = y.parts.length := by omega
 have hp : ∀ k, k ≤ x.parts.length → (yeN x k).length = (yeN y k).length ∧ x.parts.take k = y.parts.take k := by
  intro k
  induction k with
  | zero => intro _; exact ⟨h7.1.symm, rfl⟩
  | succ k ih =>
   intro hk
   obtain ⟨i1, i2⟩ := ih (by omega)
   obtain ⟨a, ha⟩ : ∃ a, x.parts[k]? = some a := ⟨_, List.getElem?_eq_getElem (by omega)⟩
   obtain ⟨b, hb⟩ : ∃ b, y.parts[k]? = some b := ⟨_, List.getElem?_eq_getElem (by omega)⟩
   have h1 := X.p ha
   have h2 := Y.p hb
   rw [i1, h2] at h1
   simp only [Prod.mk.injEq, Option.some.injEq] at h1
   exact ⟨h1.1.symm, by rw [List.take_add_one, List.take_add_one, ha, hb, i2, h1.2]⟩
 obtain ⟨_, e8⟩ := hp _ (Nat.le_refl _)
 rw [List.take_length, e7, List.take_length] at e8
 obtain ⟨x1, x2, x3, x4, x5, x6⟩ := x
 obtain ⟨y1, y2, y3, y4, y5, y6⟩ := y
 simp only [PRep.mk.injEq]
 exact ⟨e1, e2, e3, e4, e6, e8⟩
section
set_option maxRecDepth 100000
variable {R : VWP} {w w0 : World} {m : Nat} {i0 i1 i2 i3 i4 i5 i6 i7 i8 i9 j0 j1 j2 j3 j4 j5 j6 j7 j8 j9 k0 k1 k2 k3 k4 k5 k6 k7 k8 k9 l0 l1 l2 l3 l4 l5 l6 l7 l8 l9 : Int} {s0 s1 s2 s3 s4 s5 s6 s7 s8 s9 t0 t1 t2 t3 t4 t5 t6 t7 t8 t9 : BA} {n0 n1 n2 n3 n4 n5 n6 n7 n8 n9 o0 o1 o2 o3 o4 o5 o6 o7 o8 o9 p0 p1 p2 p3 p4 p5 p6 p7 p8 p9 : Nat} {q0 q1 q2 q3 q4 q5 q6 q7 q8 q9 r0 r1 r2 r3 r4 r5 r6 r7 r8 r9 : OA} {B0 B1 B2 B3 B4 B5 B6 B7 B8 B9 : Bool} {M0 M1 M2 M3 : Option Nat} {V0 V1 V2 V3 V4 V5 : Value} {A0 A1 A2 : Addr}
def ynL : LA := ⟨[0, 0, 1, 0, 1, 1, 1, 1], [0, 2, 4, 5, 6, 7, 8, 26, 27, 28], [(2, 0, 0), (4, 1, 0), (5, 2, 0), (6, 3, 0), (7, 4, 0), (8, 5, 0)], 6, [1, 2, 3, 4]⟩
def ynM : LA := ⟨[0, 0, 1, 0, 1, 1, 1, 1, 1, 1], [0, 2, 4, 5, 7, 8, 11], [(2, 0, 0), (4, 1, 0), (5, 2, 0), (7, 4, 0), (8, 5, 0)], 6, [1, 2, 3, 4]⟩
def ygJ : LA := ⟨[0, 0, 1, 0, 1, 1, 1, 1, 1, 1, 1, 1], [0, 2, 4, 5, 8, 16], [(2, 0, 0), (4, 1, 0), (5, 2, 0), (8, 5, 0)], 6, [1, 2, 3, 4, 5]⟩
def ynN : List LA := [ynL, ynM, ygJ]
abbrev yhJ := dnF pP ynN (code Tryz.f81)
abbrev yHw := yaP pP ynN (code Tryz.f81)
abbrev yjM (p : List Nat) (K : List Kh) (R : VWP) := yaP pP ynN (code Tryz.f81) p K (ya4 pP Tryz.f81 [] R)
def yg8 (b9 : BA) (b5 : OA) (b7 b6 bm0 bm1 bm2 bm3 bm4 bm5 : Nat) : Int × ByteArray × Int × Int × Int × Int × Int × Int × (Option Addr) × Nat × Nat × (Option Addr) × Nat × Nat × Int × Int → List Value × List TB := fun (b8, a6, a7, a8, a9, b0, b1, b2, a0, a4, a2, a1, a5, a3, b3, b4) => ([.string b9, (.pointer (some ⟨bm0, 0, none⟩)), (.pointer (some ⟨bm1, 0, none⟩)), (.pointer (some ⟨bm2, 0, none⟩)), (.pointer (some ⟨bm3, 0, none⟩)), (.pointer (some ⟨bm4, 0, none⟩)), (.pointer (some ⟨bm5, 0, none⟩)), .slice b5 b7 b6, (.int .i64 (5 : Int)), .int .i64 b8], [⟨bm0, 27, [.int .i64 0, .int .i64 0, .int .i64 0, .int .i64 0, .slice none 0 0, .slice none 0 0], false⟩, ⟨bm1, 151, [.string a6, .int .i64 a7, .int .i64 a8], true⟩, ⟨bm2, 27, [.int .i64 a9, .int .i64 b0, .int .i64 b1, .int .i64 b2, .slice a0 a4 a2, .slice a1 a5 a3], true⟩, ⟨bm3, 3, [.int .i64 b3], true⟩, ⟨bm4, 3, [.int .i64 b4], true⟩, ⟨bm5, 3, [.int .i64 0], false⟩])
def yeL (b6 : BA) (bm0 bm1 bm2 bm3 bm4 bm5 : Nat) : Int × ByteArray × Int × Int × Int × Int × Int × Int × (Option Addr) × Nat × Nat × (Option Addr) × Nat × Nat × Int × Int → List Value × List TB := fun (b5, a6, a7, a8, a9, b0, b1, b2, a0, a4, a2, a1, a5, a3, b3, b4) => ([.string b6, (.pointer (some ⟨bm0, 0, none⟩)), (.pointer (some ⟨bm1, 0, none⟩)), (.pointer (some ⟨bm2, 0, none⟩)), (.pointer (some ⟨bm4, 0, none⟩)), (.pointer (some ⟨bm5, 0, none⟩)), .int .i64 b5], [⟨bm0, 27, [.int .i64 0, .int .i64 0, .int .i64 0, .int .i64 0, .slice none 0 0, .slice none 0 0], false⟩, ⟨bm1, 151, [.string a6, .int .i64 a7, .int .i64 a8], true⟩, ⟨bm2, 27, [.int .i64 a9, .int .i64 b0, .int .i64 b1, .int .i64 b2, .slice a0 a4 a2, .slice a1 a5 a3], true⟩, ⟨bm3, 3, [.int .i64 b3], true⟩, ⟨bm4, 3, [.int .i64 b4], true⟩, ⟨bm5, 3, [.int .i64 0], false⟩])
def yeY (b7 : BA) (bm0 bm1 bm2 bm3 bm4 bm5 : Nat) : Int × ByteArray × Int × Int × Int × Int × Int × Int × (Option Addr) × Nat × Nat × (Option Addr) × Nat × Nat × Int × Int × Int → List Value × List TB := fun (b6, a6, a7, a8, a9, b0, b1, b2, a0, a4, a2, a1, a5, a3, b3, b4, b5) => ([.string b7, (.pointer (some ⟨bm0, 0, none⟩)), (.pointer (some ⟨bm1, 0, none⟩)), (.pointer (some ⟨bm2, 0, none⟩)), (.pointer (some ⟨bm5, 0, none⟩)), .int .i64 b6], [⟨bm0, 27, [.int .i64 0, .int .i64 0, .int .i64 0, .int .i64 0, .slice none 0 0, .slice none 0 0], false⟩, ⟨bm1, 151, [.string a6, .int .i64 a7, .int .i64 a8], true⟩, ⟨bm2, 27, [.int .i64 a9, .int .i64 b0, .int .i64 b1, .int .i64 b2, .slice a0 a4 a2, .slice a1 a5 a3], true⟩, ⟨bm3, 3, [.int .i64 b3], true⟩, ⟨bm4, 3, [.int .i64 b4], true⟩, ⟨bm5, 3, [.int .i64 b5], true⟩])
abbrev yAd (a3 : BA) (a0 : OA) (a2 a1 bm0 bm1 bm2 bm3 bm4 bm5 : Nat) (I : Nat → Int → ByteArray → Int → Int → Int → Int → Int → Int → Option Addr → Nat → Nat → Option Addr → Nat → Nat → Int → Int → World → Prop) (m : Nat) : Kh := KG (yg8 a3 a0 a2 a1 bm0 bm1 bm2 bm3 bm4 bm5) (U16 I) m
theorem yd6 {I : Nat → Int → ByteArray → Int → Int → Int → Int → Int → Int → Option Addr → Nat → Nat → Option Addr → Nat → Nat → Int → Int → World → Prop} (m' : Nat) (h1 : m' < m) (h2 : I m' i0 s1 i1 i2 i3 i4 i5 i6 q1 n8 n9 q2 o0 o1 i7 i8 w) : KS (yAd s0 q0 n0 n1 n2 n3 n4 n5 n6 n7 I m) (yg8 s0 q0 n0 n1 n2 n3 n4 n5 n6 n7 (i0, s1, i1, i2, i3, i4, i5, i6, q1, n8, n9, q2, o0, o1, i7, i8)) w := ⟨m', h1, _, rfl, rfl, h2⟩
theorem yu3 (I : Nat → Int → ByteArray → Int → Int → Int → Int → Int → Int → Option Addr → Nat → Nat → Option Addr → Nat → Nat → Int → Int → World → Prop) (m0 : Nat) (h0 : I m0 i0 s1 i1 i2 i3 i4 i5 i6 q1 n8 n9 q2 o0 o1 i7 i8 w0)
 (hr : ∀ m b6 a7 a8 a9 b4 b0 b1 b2 a1 a5 a3 a2 a6 a4 a0 b3 w, I m b6 a7 a8 a9 b4 b0 b1 b2 a1 a5 a3 a2 a6 a4 a0 b3 w →
 w.heap[n3]? = some (.cells (Z2 a7 a8 a9) 151) →
 w.heap[n4]? = some (.cells (Z3 b4 b0 b1 b2 a1 a5 a3 a2 a6 a4) 27) →
 w.heap[n5]? = some (.cells #[.int .i64 a0] 3) →
 w.heap[n6]? = some (.cells #[.int .i64 b3] 3) →
 brB (decide (b6 < (5 : Int))) (
 ixA q0 n0 b6 1 fun f4 =>
 ynU w f4 fun f3 =>
 Calls pP 112 #[(.pointer (some ⟨n3, 0, none⟩)), .pointer f3] w fun e c6 => e = .returned (.tuple #[]) ∧ ya0 [n3, n4, n5, n6] [(n2, 27), (n7, 3)] [n2, n7] w c6 ∧ ∃ e4 e5 e6, c6.heap[n3]? = some (.cells (Z2 e4 e5 e6) 151) ∧ ∃ e7 e8 e9 f0 d8 e2 e0 d9 e3 e1, c6.heap[n4]? = some (.cells (Z3 e7 e8 e9 f0 d8 e2 e0 d9 e3 e1) 27) ∧ ∃ f1, c6.heap[n5]? = some (.cells #[.int .i64 f1] 3) ∧ ∃ f2, c6.heap[n6]? = some (.cells #[.int .i64 f2] 3) ∧
 KS (yAd s0 q0 n0 n1 n2 n3 n4 n5 n6 n7 I m) (yg8 s0 q0 n0 n1 n2 n3 n4 n5 n6 n7 ((IntKind.wrap .i64 (b6 + 1)), e4, e5, e6, e7, e8, e9, f0, d8, e2, e0, d9, e3, e1, f1, f2)) c6)
 (
 ∀ b5, Adv [n4] [] w b5 → b5.heap[n3]? = some (.cells (Z2 a7 a8 a9) 151) →
 b5.heap[n4]? = some (.cells (Z3 a0 b0 b1 b2 a1 a5 a3 a2 a6 a4) 27) →
 b5.heap[n5]? = some (.cells #[.int .i64 a0] 3) →
 b5.heap[n6]? = some (.cells #[.int .i64 b3] 3) →
 yaL ynM (yhJ 392 [0, 0, 1, 0, 1, 1, 1, 1, 1, 1]) (yjM [1, 1, 1, 1, 1, 1, 0, 1, 0] [] R) (yeL s0 n2 n3 n4 n5 n6 n7 (0, a7, a8, a9, a0, b0, b1, b2, a1, a5, a3, a2, a6, a4, a0, b3)) b5)) :
 yaL ynL (yhJ 394 [0, 0, 1, 0, 1, 1, 1, 1]) (yjM [1, 1, 1, 1, 0, 1, 0] [] R) (yg8 s0 q0 n0 n1 n2 n3 n4 n5 n6 n7 (i0, s1, i1, i2, i3, i4, i5, i6, q1, n8, n9, q2, o0, o1, i7, i8)) w0 :=
 lrule (yg8 s0 q0 n0 n1 n2 n3 n4 n5 n6 n7) (U16 I) h0 (by rintro m ⟨b6, a7, a8, a9, b4, b0, b1, b2, a1, a5, a3, a2, a6, a4, a0, b3⟩ w h; exact ⟨by kernel_rfl, by kernel_rfl, fun js => Eq.mpr (by kernel_rfl) (hr m b6 a7 a8 a9 b4 b0 b1 b2 a1 a5 a3 a2 a6 a4 a0 b3 w h)⟩)
abbrev yjN (a0 : BA) (bm0 bm1 bm2 bm3 bm4 bm5 : Nat) (I : Nat → Int → ByteArray → Int → Int → Int → Int → Int → Int → Option Addr → Nat → Nat → Option Addr → Nat → Nat → Int → Int → World → Prop) (m : Nat) : Kh := KG (yeL a0 bm0 bm1 bm2 bm3 bm4 bm5) (U16 I) m
theorem ye7 {I : Nat → Int → ByteArray → Int → Int → Int → Int → Int → Int → Option Addr → Nat → Nat → Option Addr → Nat → Nat → Int → Int → World → Prop} (m' : Nat) (h1 : m' < m) (h2 : I m' i0 s1 i1 i2 i3 i4 i5 i6 q0 n6 n7 q1 n8 n9 i7 i8 w) : KS (yjN s0 n0 n1 n2 n3 n4 n5 I m) (yeL s0 n0 n1 n2 n3 n4 n5 (i0, s1, i1, i2, i3, i4, i5, i6, q0, n6, n7, q1, n8, n9, i7, i8)) w := ⟨m', h1, _, rfl, rfl, h2⟩
theorem yu4 (I : Nat → Int → ByteArray → Int → Int → Int → Int → Int → Int → Option Addr → Nat → Nat → Option Addr → Nat → Nat → Int → Int → World → Prop) (m0 : Nat) (h0 : I m0 i0 s1 i1 i2 i3 i4 i5 i6 q0 n6 n7 q1 n8 n9 i7 i8 w0)
 (hr : ∀ m c3 a9 b0 a1 b1 b2 b3 b4 a3 a7 a5 a4 a8 a6 b5 a2 w, I m c3 a9 b0 a1 b1 b2 b3 b4 a3 a7 a5 a4 a8 a6 b5 a2 w →
 w.heap[n1]? = some (.cells (Z2 a9 b0 a1) 151) →
 w.heap[n2]? = some (.cells (Z3 b1 b2 b3 b4 a3 a7 a5 a4 a8 a6) 27) →
 w.heap[n3]? = some (.cells #[.int .i64 b5] 3) →
 w.heap[n4]? = some (.cells #[.int .i64 a2] 3) →
 brB (decide (c3 < a2)) (
 brB (a1 == 0) (
 ∀ a0, w.heap.size ≤ a0 →
 ∀ e8, Adv [] [a0] w e8 → e8.heap[n1]? = some (.cells (Z2 a9 b0 a1) 151) →
 e8.heap[n2]? = some (.cells (Z3 b1 b2 b3 b4 a3 a7 a5 a4 a8 a6) 27) →
 e8.heap[n3]? = some (.cells #[.int .i64 b5] 3) →
 e8.heap[n4]? = some (.cells #[.int .i64 a2] 3) →
 e8.heap[a0]? = some (.cells (Z6 0 false ByteArray.empty false ByteArray.empty) 55) →
 Calls pP 112 #[(.pointer (some ⟨n1, 0, none⟩)), (.pointer (some ⟨a0, 0, none⟩))] e8 fun e d3 => e = .returned (.tuple #[]) ∧ ya0 [n1, n2, n3, n4, a0] [(n0, 27), (n5, 3)] [n0, n5] e8 d3 ∧ ∃ v0 v1 ci, d3.heap[n1]? = some (.cells (Z2 v0 v1 ci) 151) ∧ ∃ cj ck cl cm x8 ac z0 x9 ad z1, d3.heap[n2]? = some (.cells (Z3 cj ck cl cm x8 ac z0 x9 ad z1) 27) ∧ ∃ cn, d3.heap[n3]? = some (.cells #[.int .i64 cn] 3) ∧ ∃ co, d3.heap[n4]? = some (.cells #[.int .i64 co] 3) ∧ ∃ cp ap aj aq ak, d3.heap[a0]? = some (.cells (Z6 cp ap aj aq ak) 55) ∧
 ((
 ∀ d2, d3.heap.size ≤ d2 →
 ∀ e9, Adv [] [d2] d3 e9 → e9.heap[n1]? = some (.cells (Z2 v0 v1 ci) 151) →
 e9.heap[n2]? = some (.cells (Z3 cj ck cl cm x8 ac z0 x9 ad z1) 27) →
 e9.heap[n3]? = some (.cells #[.int .i64 cn] 3) →
 e9.heap[n4]? = some (.cells #[.int .i64 co] 3) →
 e9.heap[a0]? = some (.cells (Z6 cp ap aj aq ak) 55) →
 Calls pP 113 #[.string v0, .int .i64 v1] e9 fun e f2 => ∃ w5 w3 w6 w4 dc dd, e = .returned (.tuple #[(.agg (Z7 w5 w3 w6 w4)), .int .i64 dc, .int .i64 dd]) ∧ ya0 [n1, n2, n3, n4, a0] [(n0, 27), (n5, 3), (d2, 53)] [n0, n5, d2] e9 f2 ∧ ∃ cw de df, f2.heap[n1]? = some (.cells (Z2 cw de df) 151) ∧ ∃ dg dh di dj cq cu cs cr cv ct, f2.heap[n2]? = some (.cells (Z3 dg dh di dj cq cu cs cr cv ct) 27) ∧ ∃ dk, f2.heap[n3]? = some (.cells #[.int .i64 dk] 3) ∧ ∃ dl, f2.heap[n4]? = some (.cells #[.int .i64 dl] 3) ∧ ∃ dm cz cx da cy, f2.heap[a0]? = some (.cells (Z6 dm cz cx da cy) 55) ∧
 ∀ f0, Adv [d2] [] f2 f0 → f0.heap[n1]? = some (.cells (Z2 cw de df) 151) →
 f0.heap[n2]? = some (.cells (Z3 dg dh di dj cq cu cs cr cv ct) 27) →
 f0.heap[n3]? = some (.cells #[.int .i64 dk] 3) →
 f0.heap[n4]? = some (.cells #[.int .i64 dl] 3) →
 f0.heap[a0]? = some (.cells (Z6 dm cz cx da cy) 55) →
 Calls pP 114 (Z10 (some ⟨n1, 0, none⟩) dc dd) f0 fun e f1 => ∃ db, e = .returned (.bool db) ∧ ya0 [n1, n2, n3, n4, a0] [(n0, 27), (n5, 3), (d2, 53)] [n0, n5, d2] f0 f1 ∧ ∃ g2 g4 g5, f1.heap[n1]? = some (.cells (Z2 g2 g4 g5) 151) ∧ ∃ g6 g7 g8 g9 v9 w2 w1 f3 f9 f6, f1.heap[n2]? = some (.cells (Z3 g6 g7 g8 g9 v9 w2 w1 f3 f9 f6) 27) ∧ ∃ h1, f1.heap[n3]? = some (.cells #[.int .i64 h1] 3) ∧ ∃ h2, f1.heap[n4]? = some (.cells #[.int .i64 h2] 3) ∧ ∃ h3 ar v2 v6 v3, f1.heap[a0]? = some (.cells (Z6 h3 ar v2 v6 v3) 55) ∧
 brB db (
 ∀ c4, Adv [a0] [] f1 c4 → c4.heap[n1]? = some (.cells (Z2 g2 g4 g5) 151) →
 c4.heap[n2]? = some (.cells (Z3 g6 g7 g8 g9 v9 w2 w1 f3 f9 f6) 27) →
 c4.heap[n3]? = some (.cells #[.int .i64 h1] 3) →
 c4.heap[n4]? = some (.cells #[.int .i64 h2] 3) →
 c4.heap[a0]? = some (.cells (Z6 h3 w5 w3 w6 w4) 55) →
 al c4 (.cells (Z6 h3 w5 w3 w6 w4) 55) fun dn au =>
 ycP pP (Builtin.append_ #[24, 24] 24 #[.slice v9 w2 w1, (.slice (some ⟨dn, 0, none⟩) 1 1)]) au fun w8 z2 y0 av => yaI [n0, n1, n2, n3, n4, n5, a0, d2] au av ∧
 ∀ c5, Adv [n2] [] av c5 → c5.heap[n1]? = some (.cells (Z2 g2 g4 g5) 151) →
 c5.heap[n2]? = some (.cells (Z3 g6 g7 g8 g9 w8 z2 y0 f3 f9 f6) 27) →
 c5.heap[n3]? = some (.cells #[.int .i64 h1] 3) →
 c5.heap[n4]? = some (.cells #[.int .i64 h2] 3) →
 c5.heap[a0]? = some (.cells (Z6 h3 w5 w3 w6 w4) 55) →
 KS (yjN s0 n0 n1 n2 n3 n4 n5 I m) (yeL s0 n0 n1 n2 n3 n4 n5 ((IntKind.wrap .i64 (c3 + 1)), g2, g4, g5, g6, g7, g8, g9, w8, z2, y0, f3, f9, f6, h1, h2)) c5)
 (
 al f1 (.cells (Z6 h3 ar v2 v6 v3) 55) fun dp aw =>
 ycP pP (Builtin.append_ #[24, 24] 24 #[.slice v9 w2 w1, (.slice (some ⟨dp, 0, none⟩) 1 1)]) aw fun w9 z3 y1 ax => yaI [n0, n1, n2, n3, n4, n5, a0, d2] aw ax ∧
 ∀ c6, Adv [n2] [] ax c6 → c6.heap[n1]? = some (.cells (Z2 g2 g4 g5) 151) →
 c6.heap[n2]? = some (.cells (Z3 g6 g7 g8 g9 w9 z3 y1 f3 f9 f6) 27) →
 c6.heap[n3]? = some (.cells #[.int .i64 h1] 3) →
 c6.heap[n4]? = some (.cells #[.int .i64 h2] 3) →
 c6.heap[a0]? = some (.cells (Z6 h3 ar v2 v6 v3) 55) →
 KS (yjN s0 n0 n1 n2 n3 n4 n5 I m) (yeL s0 n0 n1 n2 n3 n4 n5 ((IntKind.wrap .i64 (c3 + 1)), g2, g4, g5, g6, g7, g8, g9, w9, z3, y1, f3, f9, f6, h1, h2)) c6)) ∧
 (
 ∀ b7, Adv [] [] d3 b7 → b7.heap[n1]? = some (.cells (Z2 v0 v1 ci) 151) →
 b7.heap[n2]? = some (.cells (Z3 cj ck cl cm x8 ac z0 x9 ad z1) 27) →
 b7.heap[n3]? = some (.cells #[.int .i64 cn] 3) →
 b7.heap[n4]? = some (.cells #[.int .i64 co] 3) →
 b7.heap[a0]? = some (.cells (Z6 cp ap aj aq ak) 55) →
 Calls pP 113 #[.string v0, .int .i64 v1] b7 fun e b8 => ∃ u7 u5 u9 u6 bc bd, e = .returned (.tuple #[(.agg (Z7 u7 u5 u9 u6)), .int .i64 bc, .int .i64 bd]) ∧ ya0 [n1, n2, n3, n4, a0] [(n0, 27), (n5, 3)] [n0, n5] b7 b8 ∧ ∃ ae be bf, b8.heap[n1]? = some (.cells (Z2 ae be bf) 151) ∧ ∃ bg bh bi bj x0 z4 y2 x1 z5 y3, b8.heap[n2]? = some (.cells (Z3 bg bh bi bj x0 z4 y2 x1 z5 y3) 27) ∧ ∃ bk, b8.heap[n3]? = some (.cells #[.int .i64 bk] 3) ∧ ∃ bl, b8.heap[n4]? = some (.cells #[.int .i64 bl] 3) ∧ ∃ bm am af an ag, b8.heap[a0]? = some (.cells (Z6 bm am af an ag) 55) ∧
 ∀ d5, b8.heap.size ≤ d5 →
 ∀ b9, Adv [] [d5] b8 b9 → b9.heap[n1]? = some (.cells (Z2 ae be bf) 151) →
 b9.heap[n2]? = some (.cells (Z3 bg bh bi bj x0 z4 y2 x1 z5 y3) 27) →
 b9.heap[n3]? = some (.cells #[.int .i64 bk] 3) →
 b9.heap[n4]? = some (.cells #[.int .i64 bl] 3) →
 b9.heap[a0]? = some (.cells (Z6 bm am af an ag) 55) →
 Calls pP 114 (Z10 (some ⟨n1, 0, none⟩) bc bd) b9 fun e c0 => ∃ ao, e = .returned (.bool ao) ∧ ya0 [n1, n2, n3, n4, a0] [(n0, 27), (n5, 3), (d5, 53)] [n0, n5, d5] b9 c0 ∧ ∃ d8 d9 e0, c0.heap[n1]? = some (.cells (Z2 d8 d9 e0) 151) ∧ ∃ e1 e2 e3 e4 u2 u4 u3 d4 d7 d6, c0.heap[n2]? = some (.cells (Z3 e1 e2 e3 e4 u2 u4 u3 d4 d7 d6) 27) ∧ ∃ e5, c0.heap[n3]? = some (.cells #[.int .i64 e5] 3) ∧ ∃ e6, c0.heap[n4]? = some (.cells #[.int .i64 e6] 3) ∧ ∃ e7 v7 v4 v8 v5, c0.heap[a0]? = some (.cells (Z6 e7 v7 v4 v8 v5) 55) ∧
 brB ao (
 ∀ c7, Adv [a0] [] c0 c7 → c7.heap[n1]? = some (.cells (Z2 d8 d9 e0) 151) →
 c7.heap[n2]? = some (.cells (Z3 e1 e2 e3 e4 u2 u4 u3 d4 d7 d6) 27) →
 c7.heap[n3]? = some (.cells #[.int .i64 e5] 3) →
 c7.heap[n4]? = some (.cells #[.int .i64 e6] 3) →
 c7.heap[a0]? = some (.cells (Z6 e7 u7 u5 u9 u6) 55) →
 al c7 (.cells (Z6 e7 u7 u5 u9 u6) 55) fun dq ay =>
 ycP pP (Builtin.append_ #[24, 24] 24 #[.slice u2 u4 u3, (.slice (some ⟨dq, 0, none⟩) 1 1)]) ay fun x2 z6 y4 az => yaI [n0, n1, n2, n3, n4, n5, a0, d5] ay az ∧
 ∀ c8, Adv [n2] [] az c8 → c8.heap[n1]? = some (.cells (Z2 d8 d9 e0) 151) →
 c8.heap[n2]? = some (.cells (Z3 e1 e2 e3 e4 x2 z6 y4 d4 d7 d6) 27) →
 c8.heap[n3]? = some (.cells #[.int .i64 e5] 3) →
 c8.heap[n4]? = some (.cells #[.int .i64 e6] 3) →
 c8.heap[a0]? = some (.cells (Z6 e7 u7 u5 u9 u6) 55) →
 KS (yjN s0 n0 n1 n2 n3 n4 n5 I m) (yeL s0 n0 n1 n2 n3 n4 n5 ((IntKind.wrap .i64 (c3 + 1)), d8, d9, e0, e1, e2, e3, e4, x2, z6, y4, d4, d7, d6, e5, e6)) c8)
 (
 al c0 (.cells (Z6 e7 v7 v4 v8 v5) 55) fun dr ba =>
 ycP pP (Builtin.append_ #[24, 24] 24 #[.slice u2 u4 u3, (.slice (some ⟨dr, 0, none⟩) 1 1)]) ba fun x3 z7 y5 bb => yaI [n0, n1, n2, n3, n4, n5, a0, d5] ba bb ∧
 ∀ c9, Adv [n2] [] bb c9 → c9.heap[n1]? = some (.cells (Z2 d8 d9 e0) 151) →
 c9.heap[n2]? = some (.cells (Z3 e1 e2 e3 e4 x3 z7 y5 d4 d7 d6) 27) →
 c9.heap[n3]? = some (.cells #[.int .i64 e5] 3) →
 c9.heap[n4]? = some (.cells #[.int .i64 e6] 3) →
 c9.heap[a0]? = some (.cells (Z6 e7 v7 v4 v8 v5) 55) →
 KS (yjN s0 n0 n1 n2 n3 n4 n5 I m) (yeL s0 n0 n1 n2 n3 n4 n5 ((IntKind.wrap .i64 (c3 + 1)), d8, d9, e0, e1, e2, e3, e4, x3, z7, y5, d4, d7, d6, e5, e6)) c9))))
 (
 ∀ c1, Adv [] [] w c1 → c1.heap[n1]? = some (.cells (Z2 a9 b0 a1) 151) →
 c1.heap[n2]? = some (.cells (Z3 b1 b2 b3 b4 a3 a7 a5 a4 a8 a6) 27) →
 c1.heap[n3]? = some (.cells #[.int .i64 b5] 3) →
 c1.heap[n4]? = some (.cells #[.int .i64 a2] 3) →
 c1.heap[n5]? = some (.cells #[.int .i64 0] 3) →
 Calls pP 112 #[(.pointer (some ⟨n1, 0, none⟩)), (.pointer (some ⟨n5, 0, none⟩))] c1 fun e d0 => e = .returned (.tuple #[]) ∧ ya0 [n1, n2, n3, n4, n5] [(n0, 27)] [n0] c1 d0 ∧ ∃ ah bn bo, d0.heap[n1]? = some (.cells (Z2 ah bn bo) 151) ∧ ∃ bp bq br bt x4 z8 y6 x5 z9 y7, d0.heap[n2]? = some (.cells (Z3 bp bq br bt x4 z8 y6 x5 z9 y7) 27) ∧ ∃ bu, d0.heap[n3]? = some (.cells #[.int .i64 bu] 3) ∧ ∃ bv, d0.heap[n4]? = some (.cells #[.int .i64 bv] 3) ∧ ∃ bw, d0.heap[n5]? = some (.cells #[.int .i64 bw] 3) ∧
 yaL ygJ (yhJ 390 [0, 0, 1, 0, 1, 1, 1, 1, 1, 1, 1, 1]) (yjM [1, 1, 1, 1, 1, 1, 1, 1, 0, 1, 0] [] R) (yeY s0 n0 n1 n2 n3 n4 n5 (0, ah, bn, bo, bp, bq, br, bt, x4, z8, y6, x5, z9, y7, bu, bv, bw)) d0))
 (
 ∀ c2, Adv [] [] w c2 → c2.heap[n1]? = some (.cells (Z2 a9 b0 a1) 151) →
 c2.heap[n2]? = some (.cells (Z3 b1 b2 b3 b4 a3 a7 a5 a4 a8 a6) 27) →
 c2.heap[n3]? = some (.cells #[.int .i64 b5] 3) →
 c2.heap[n4]? = some (.cells #[.int .i64 a2] 3) →
 c2.heap[n5]? = some (.cells #[.int .i64 0] 3) →
 Calls pP 112 #[(.pointer (some ⟨n1, 0, none⟩)), (.pointer (some ⟨n5, 0, none⟩))] c2 fun e d1 => e = .returned (.tuple #[]) ∧ ya0 [n1, n2, n3, n4, n5] [(n0, 27)] [n0] c2 d1 ∧ ∃ ai bx bz, d1.heap[n1]? = some (.cells (Z2 ai bx bz) 151) ∧ ∃ ca cb cc cd x6 aa y8 x7 ab y9, d1.heap[n2]? = some (.cells (Z3 ca cb cc cd x6 aa y8 x7 ab y9) 27) ∧ ∃ ce, d1.heap[n3]? = some (.cells #[.int .i64 ce] 3) ∧ ∃ cf, d1.heap[n4]? = some (.cells #[.int .i64 cf] 3) ∧ ∃ ch, d1.heap[n5]? = some (.cells #[.int .i64 ch] 3) ∧
 yaL ygJ (yhJ 390 [0, 0, 1, 0, 1, 1, 1, 1, 1, 1, 1, 1]) (yjM [1, 1, 1, 1, 1, 1, 1, 1, 0, 1, 0] [] R) (yeY s0 n0 n1 n2 n3 n4 n5 (0, ai, bx, bz, ca, cb, cc, cd, x6, aa, y8, x7, ab, y9, ce, cf, ch)) d1)) :
 yaL ynM (yhJ 392 [0, 0, 1, 0, 1, 1, 1, 1, 1, 1]) (yjM [1, 1, 1, 1, 1, 1, 0, 1, 0] [] R) (yeL s0 n0 n1 n2 n3 n4 n5 (i0, s1, i1, i2, i3, i4, i5, i6, q0, n6, n7, q1, n8, n9, i7, i8)) w0 :=
 lrule (yeL s0 n0 n1 n2 n3 n4 n5) (U16 I) h0 (by rintro m ⟨c3, a9, b0, a1, b1, b2, b3, b4, a3, a7, a5, a4, a8, a6, b5, a2⟩ w h; exact ⟨by kernel_rfl, by kernel_rfl, fun js => Eq.mpr (by kernel_rfl) (hr m c3 a9 b0 a1 b1 b2 b3 b4 a3 a7 a5 a4 a8 a6 b5 a2 w h)⟩)
abbrev yAe (a0 : BA) (bm0 bm1 bm2 bm3 bm4 bm5 : Nat) (I : Nat → Int → ByteArray → Int → Int → Int → Int → Int → Int → Option Addr → Nat → Nat → Option Addr → Nat → Nat → Int → Int → Int → World → Prop) (m : Nat) : Kh := KG (yeY a0 bm0 bm1 bm2 bm3 bm4 bm5) (U17 I) m
theorem yu5 {I : Nat → Int → ByteArray → Int → Int → Int → Int → Int → Int → Option Addr → Nat → Nat → Option Addr → Nat → Nat → Int → Int → Int → World → Prop} (m' : Nat) (h1 : m' < m) (h2 : I m' i0 s1 i1 i2 i3 i4 i5 i6 q0 n6 n7 q1 n8 n9 i7 i8 i9 w) : KS (yAe s0 n0 n1 n2 n3 n4 n5 I m) (yeY s0 n0 n1 n2 n3 n4 n5 (i0, s1, i1, i2, i3, i4, i5, i6, q0, n6, n7, q1, n8, n9, i7, i8, i9)) w := ⟨m', h1, _, rfl, rfl, h2⟩
theorem yu6 (I : Nat → Int → ByteArray → Int → Int → Int → Int → Int → Int → Option Addr → Nat → Nat → Option Addr → Nat → Nat → Int → Int → Int → World → Prop) (m0 : Nat) (h0 : I m0 i0 s1 i1 i2 i3 i4 i5 i6 q0 n6 n7 q1 n8 n9 i7 i8 i9 w0)
 (hr : ∀ m g2 b6 b9 b2 a6 a7 a8 a9 a0 a4 a2 a1 a5 a3 c0 c1 b3 w, I m g2 b6 b9 b2 a6 a7 a8 a9 a0 a4 a2 a1 a5 a3 c0 c1 b3 w →
 w.heap[n1]? = some (.cells (Z2 b6 b9 b2) 151) →
 w.heap[n2]? = some (.cells (Z3 a6 a7 a8 a9 a0 a4 a2 a1 a5 a3) 27) →
 w.heap[n3]? = some (.cells #[.int .i64 c0] 3) →
 w.heap[n4]? = some (.cells #[.int .i64 c1] 3) →
 w.heap[n5]? = some (.cells #[.int .i64 b3] 3) →
 brB (decide (g2 < b3)) (
 brB (b2 == 0) (
 ∀ b5, w.heap.size ≤ b5 →
 ∀ b4, Adv [] [b5] w b4 → b4.heap[n1]? = some (.cells (Z2 b6 b9 b2) 151) →
 b4.heap[n2]? = some (.cells (Z3 a6 a7 a8 a9 a0 a4 a2 a1 a5 a3) 27) →
 b4.heap[n3]? = some (.cells #[.int .i64 c0] 3) →
 b4.heap[n4]? = some (.cells #[.int .i64 c1] 3) →
 b4.heap[n5]? = some (.cells #[.int .i64 b3] 3) →
 b4.heap[b5]? = some (.cells #[.string ByteArray.empty, .int .i64 0] 43) →
 Calls pP 60 #[(.iface 149 (.pointer (some ⟨n1, 0, none⟩))), (.pointer (some ⟨b5, 0, none⟩))] b4 fun e b7 => e = .returned (.tuple #[]) ∧ ya0 [n1, n2, n3, n4, n5, b5] [(n0, 27)] [n0] b4 b7 ∧ ∃ u4 u6 u7, b7.heap[n1]? = some (.cells (Z2 u4 u6 u7) 151) ∧ ∃ u9 v0 v1 v2 u1 u3 u2 v8 w3 w1, b7.heap[n2]? = some (.cells (Z3 u9 v0 v1 v2 u1 u3 u2 v8 w3 w1) 27) ∧ ∃ v3, b7.heap[n3]? = some (.cells #[.int .i64 v3] 3) ∧ ∃ v4, b7.heap[n4]? = some (.cells #[.int .i64 v4] 3) ∧ ∃ v5, b7.heap[n5]? = some (.cells #[.int .i64 v5] 3) ∧ ∃ u5 v6, b7.heap[b5]? = some (.cells #[.string u5, .int .i64 v6] 43) ∧
 al b7 (.cells #[.string u5, .int .i64 v6] 43) fun x1 w7 =>
 ycP pP (Builtin.append_ #[25, 25] 25 #[.slice v8 w3 w1, (.slice (some ⟨x1, 0, none⟩) 1 1)]) w7 fun v9 w4 w2 w8 => yaI [n0, n1, n2, n3, n4, n5, b5] w7 w8 ∧
 ∀ b8, Adv [n2] [] w8 b8 → b8.heap[n1]? = some (.cells (Z2 u4 u6 u7) 151) →
 b8.heap[n2]? = some (.cells (Z3 u9 v0 v1 v2 u1 u3 u2 v9 w4 w2) 27) →
 b8.heap[n3]? = some (.cells #[.int .i64 v3] 3) →
 b8.heap[n4]? = some (.cells #[.int .i64 v4] 3) →
 b8.heap[n5]? = some (.cells #[.int .i64 v5] 3) →
 b8.heap[b5]? = some (.cells #[.string u5, .int .i64 v6] 43) →
 KS (yAe s0 n0 n1 n2 n3 n4 n5 I m) (yeY s0 n0 n1 n2 n3 n4 n5 ((IntKind.wrap .i64 (g2 + 1)), u4, u6, u7, u9, v0, v1, v2, u1, u3, u2, v9, w4, w2, v3, v4, v5)) b8)
 (
 Calls pP 26 #[(.agg (Z3 a6 a7 a8 a9 a0 a4 a2 a1 a5 a3))] w fun e b0 => ∃ w5 w9, e = .returned (.tuple #[.string w5, .int .i64 w9]) ∧ ya0 [n1, n2, n3, n4, n5] [(n0, 27)] [n0] w b0 ∧ ∃ f2 f4 e2, b0.heap[n1]? = some (.cells (Z2 f2 f4 e2) 151) ∧ ∃ e3 e4 e5 e6 d0 d8 d4 d1 d9 d5, b0.heap[n2]? = some (.cells (Z3 e3 e4 e5 e6 d0 d8 d4 d1 d9 d5) 27) ∧ ∃ f5, b0.heap[n3]? = some (.cells #[.int .i64 f5] 3) ∧ ∃ f6, b0.heap[n4]? = some (.cells #[.int .i64 f6] 3) ∧ ∃ f7, b0.heap[n5]? = some (.cells #[.int .i64 f7] 3) ∧
 brB (e2 != 0) (
 ∀ c2, Adv [n0] [] b0 c2 → c2.heap[n1]? = some (.cells (Z2 f2 f4 e2) 151) →
 c2.heap[n2]? = some (.cells (Z3 e3 e4 e5 e6 d0 d8 d4 d1 d9 d5) 27) →
 c2.heap[n3]? = some (.cells #[.int .i64 f5] 3) →
 c2.heap[n4]? = some (.cells #[.int .i64 f6] 3) →
 c2.heap[n5]? = some (.cells #[.int .i64 f7] 3) →
 R (.tuple #[(.agg (Z3 0 0 0 0 none 0 0 none 0 0)), .int .i64 40]) c2)
 (
 brB (w9 != 0) (
 ∀ c3, Adv [n0] [] b0 c3 → c3.heap[n1]? = some (.cells (Z2 f2 f4 e2) 151) →
 c3.heap[n2]? = some (.cells (Z3 e3 e4 e5 e6 d0 d8 d4 d1 d9 d5) 27) →
 c3.heap[n3]? = some (.cells #[.int .i64 f5] 3) →
 c3.heap[n4]? = some (.cells #[.int .i64 f6] 3) →
 c3.heap[n5]? = some (.cells #[.int .i64 f7] 3) →
 R (.tuple #[(.agg (Z3 0 0 0 0 none 0 0 none 0 0)), .int .i64 40]) c3)
 (
 brB (!(w5.toList == s0.toList)) (
 ∀ c4, Adv [n0] [] b0 c4 → c4.heap[n1]? = some (.cells (Z2 f2 f4 e2) 151) →
 c4.heap[n2]? = some (.cells (Z3 e3 e4 e5 e6 d0 d8 d4 d1 d9 d5) 27) →
 c4.heap[n3]? = some (.cells #[.int .i64 f5] 3) →
 c4.heap[n4]? = some (.cells #[.int .i64 f6] 3) →
 c4.heap[n5]? = some (.cells #[.int .i64 f7] 3) →
 R (.tuple #[(.agg (Z3 0 0 0 0 none 0 0 none 0 0)), .int .i64 40]) c4)
 (
 ∀ c5, Adv [n0] [] b0 c5 → c5.heap[n1]? = some (.cells (Z2 f2 f4 e2) 151) →
 c5.heap[n2]? = some (.cells (Z3 e3 e4 e5 e6 d0 d8 d4 d1 d9 d5) 27) →
 c5.heap[n3]? = some (.cells #[.int .i64 f5] 3) →
 c5.heap[n4]? = some (.cells #[.int .i64 f6] 3) →
 c5.heap[n5]? = some (.cells #[.int .i64 f7] 3) →
 R (.tuple #[(.agg (Z3 e3 e4 e5 e6 d0 d8 d4 d1 d9 d5)), .int .i64 0]) c5)))))
 (
 Calls pP 26 #[(.agg (Z3 a6 a7 a8 a9 a0 a4 a2 a1 a5 a3))] w fun e b1 => ∃ w6 x0, e = .returned (.tuple #[.string w6, .int .i64 x0]) ∧ ya0 [n1, n2, n3, n4, n5] [(n0, 27)] [n0] w b1 ∧ ∃ f3 f8 e7, b1.heap[n1]? = some (.cells (Z2 f3 f8 e7) 151) ∧ ∃ e8 e9 f0 f1 d2 e0 d6 d3 e1 d7, b1.heap[n2]? = some (.cells (Z3 e8 e9 f0 f1 d2 e0 d6 d3 e1 d7) 27) ∧ ∃ f9, b1.heap[n3]? = some (.cells #[.int .i64 f9] 3) ∧ ∃ g0, b1.heap[n4]? = some (.cells #[.int .i64 g0] 3) ∧ ∃ g1, b1.heap[n5]? = some (.cells #[.int .i64 g1] 3) ∧
 brB (e7 != 0) (
 ∀ c6, Adv [n0] [] b1 c6 → c6.heap[n1]? = some (.cells (Z2 f3 f8 e7) 151) →
 c6.heap[n2]? = some (.cells (Z3 e8 e9 f0 f1 d2 e0 d6 d3 e1 d7) 27) →
 c6.heap[n3]? = some (.cells #[.int .i64 f9] 3) →
 c6.heap[n4]? = some (.cells #[.int .i64 g0] 3) →
 c6.heap[n5]? = some (.cells #[.int .i64 g1] 3) →
 R (.tuple #[(.agg (Z3 0 0 0 0 none 0 0 none 0 0)), .int .i64 40]) c6)
 (
 brB (x0 != 0) (
 ∀ c7, Adv [n0] [] b1 c7 → c7.heap[n1]? = some (.cells (Z2 f3 f8 e7) 151) →
 c7.heap[n2]? = some (.cells (Z3 e8 e9 f0 f1 d2 e0 d6 d3 e1 d7) 27) →
 c7.heap[n3]? = some (.cells #[.int .i64 f9] 3) →
 c7.heap[n4]? = some (.cells #[.int .i64 g0] 3) →
 c7.heap[n5]? = some (.cells #[.int .i64 g1] 3) →
 R (.tuple #[(.agg (Z3 0 0 0 0 none 0 0 none 0 0)), .int .i64 40]) c7)
 (
 brB (!(w6.toList == s0.toList)) (
 ∀ c8, Adv [n0] [] b1 c8 → c8.heap[n1]? = some (.cells (Z2 f3 f8 e7) 151) →
 c8.heap[n2]? = some (.cells (Z3 e8 e9 f0 f1 d2 e0 d6 d3 e1 d7) 27) →
 c8.heap[n3]? = some (.cells #[.int .i64 f9] 3) →
 c8.heap[n4]? = some (.cells #[.int .i64 g0] 3) →
 c8.heap[n5]? = some (.cells #[.int .i64 g1] 3) →
 R (.tuple #[(.agg (Z3 0 0 0 0 none 0 0 none 0 0)), .int .i64 40]) c8)
 (
 ∀ c9, Adv [n0] [] b1 c9 → c9.heap[n1]? = some (.cells (Z2 f3 f8 e7) 151) →
 c9.heap[n2]? = some (.cells (Z3 e8 e9 f0 f1 d2 e0 d6 d3 e1 d7) 27) →
 c9.heap[n3]? = some (.cells #[.int .i64 f9] 3) →
 c9.heap[n4]? = some (.cells #[.int .i64 g0] 3) →
 c9.heap[n5]? = some (.cells #[.int .i64 g1] 3) →
 R (.tuple #[(.agg (Z3 e8 e9 f0 f1 d2 e0 d6 d3 e1 d7)), .int .i64 0]) c9))))) :
 yaL ygJ (yhJ 390 [0, 0, 1, 0, 1, 1, 1, 1, 1, 1, 1, 1]) (yjM [1, 1, 1, 1, 1, 1, 1, 1, 0, 1, 0] [] R) (yeY s0 n0 n1 n2 n3 n4 n5 (i0, s1, i1, i2, i3, i4, i5, i6, q0, n6, n7, q1, n8, n9, i7, i8, i9)) w0 :=
 lrule (yeY s0 n0 n1 n2 n3 n4 n5) (U17 I) h0 (by rintro m ⟨g2, b6, b9, b2, a6, a7, a8, a9, a0, a4, a2, a1, a5, a3, c0, c1, b3⟩ w h; exact ⟨by kernel_rfl, by kernel_rfl, fun js => Eq.mpr (by kernel_rfl) (hr m g2 b6 b9 b2 a6 a7 a8 a9 a0 a4 a2 a1 a5 a3 c0 c1 b3 w h)⟩)
theorem yD2 (h :
 ∀ b1, w.heap.size ≤ b1 →
 ∀ b2, w.heap.size ≤ b2 →
 ∀ b3, w.heap.size ≤ b3 →
 ∀ b4, w.heap.size ≤ b4 →
 ∀ b5, w.heap.size ≤ b5 →
 ∀ b6, w.heap.size ≤ b6 →
 ∀ w7, Adv [] [b6, b5, b4, b3, b2, b1] w w7 → w7.heap[b3]? = some (.cells (Z3 0 0 0 0 none 0 0 none 0 0) 27) →
 w7.heap[b4]? = some (.cells #[.int .i64 0] 3) →
 w7.heap[b5]? = some (.cells #[.int .i64 0] 3) →
 al w7 (.cells #[(.pointer (some ⟨b4, 0, none⟩)), (.pointer (some ⟨b3, 1, none⟩)), (.pointer (some ⟨b3, 2, none⟩)), (.pointer (some ⟨b3, 3, none⟩)), (.pointer (some ⟨b5, 0, none⟩))] 62) fun b8 w9 =>
 ∀ a0, Adv [] [] w9 a0 → a0.heap[b2]? = some (.cells (Z2 s0 0 0) 151) →
 a0.heap[b3]? = some (.cells (Z3 0 0 0 0 none 0 0 none 0 0) 27) →
 a0.heap[b4]? = some (.cells #[.int .i64 0] 3) →
 a0.heap[b5]? = some (.cells #[.int .i64 0] 3) →
 yaL ynL (yhJ 394 [0, 0, 1, 0, 1, 1, 1, 1]) (yjM [1, 1, 1, 1, 0, 1, 0] [] R) (yg8 s0 (some ⟨b8, 0, none⟩) 5 5 b1 b2 b3 b4 b5 b6 (0, s0, 0, 0, 0, 0, 0, 0, none, 0, 0, none, 0, 0, 0, 0)) a0) :
 CR pP 81 #[.string s0] w R :=
 yaA Tryz.wide_mixed (an := ynN) Tryz.func81 rfl rfl (by kernel_rfl) rfl (Eq.mpr (by kernel_rfl) h)
def ynO : LA := ⟨[0, 0, 1, 0, 1, 1, 1], [0, 2, 3, 4, 15, 16], [(2, 0, 0), (3, 1, 0)], 2, [1]⟩
def ynP : List LA := [ynO]
abbrev yCG := dnF pP ynP (code Tryz.f42)
abbrev yIC := yaP pP ynP (code Tryz.f42)
abbrev yCH (p : List Nat) (K : List Kh) (R : VWP) := yaP pP ynP (code Tryz.f42) p K (ya4 pP Tryz.f42 [] R)
def yg9 (d4 : BA) (b3 b4 b5 b6 b7 b8 b9 c0 c1 c2 : OA) (bm0 bm1 : Nat) : Int × Int × Int × Int × Int × Int × Int × Int × Int × Int × Int × Int × (Option Addr) × Nat × Nat × Int × Int × Int × Int × (Option Addr) × Nat × Nat × (Option Addr) × Nat × Nat → List Value × List TB := fun (d5, d3, c3, c4, c5, c6, c7, c8, c9, d0, d1, d2, a0, a6, a3, a9, b0, b1, b2, a1, a7, a4, a2, a8, a5) => ([.string d4, (.pointer (some ⟨bm0, 0, none⟩)), (.pointer (some ⟨bm1, 0, none⟩)), .int .i64 d5, (.agg (Z4 b3 b4 b5 b6 b7 b8 b9 c0 c1 c2)), .int .i64 d3], [⟨bm0, 29, [.int .i64 0, .int .i64 0, .int .i64 0, .int .i64 0, .int .i64 0, .int .i64 0, .int .i64 0, .int .i64 0, .int .i64 0, .int .i64 0, .slice none 0 0, .int .i64 0, .int .i64 0, .int .i64 0, .int .i64 0, .slice none 0 0, .slice none 0 0], false⟩, ⟨bm1, 29, [.int .i64 c3, .int .i64 c4, .int .i64 c5, .int .i64 c6, .int .i64 c7, .int .i64 c8, .int .i64 c9, .int .i64 d0, .int .i64 d1, .int .i64 d2, .slice a0 a6 a3, .int .i64 a9, .int .i64 b0, .int .i64 b1, .int .i64 b2, .slice a1 a7 a4, .slice a2 a8 a5], true⟩])
abbrev yAf (b0 : BA) (a0 a1 a2 a3 a4 a5 a6 a7 a8 a9 : OA) (bm0 bm1 : Nat) (I : Nat → Int → Int → Int → Int → Int → Int → Int → Int → Int → Int → Int → Int → Option Addr → Nat → Nat → Int → Int → Int → Int → Option Addr → Nat → Nat → Option Addr → Nat → Nat → World → Prop) (m : Nat) : Kh := KG (yg9 b0 a0 a1 a2 a3 a4 a5 a6 a7 a8 a9 bm0 bm1) (U25 I) m
theorem yu7 {I : Nat → Int → Int → Int → Int → Int → Int → Int → Int → Int → Int → Int → Int → Option Addr → Nat → Nat → Int → Int → Int → Int → Option Addr → Nat → Nat → Option Addr → Nat → Nat → World → Prop} (m' : Nat) (h1 : m' < m) (h2 : I m' i0 i1 i2 i3 i4 i5 i6 i7 i8 i9 j0 j1 r0 n2 n3 j2 j3 j4 j5 r1 n4 n5 r2 n6 n7 w) : KS (yAf s0 q0 q1 q2 q3 q4 q5 q6 q7 q8 q9 n0 n1 I m) (yg9 s0 q0 q1 q2 q3 q4 q5 q6 q7 q8 q9 n0 n1 (i0, i1, i2, i3, i4, i5, i6, i7, i8, i9, j0, j1, r0, n2, n3, j2, j3, j4, j5, r1, n4, n5, r2, n6, n7)) w := ⟨m', h1, _, rfl, rfl, h2⟩
theorem yu8 (I : Nat → Int → Int → Int → Int → Int → Int → Int → Int → Int → Int → Int → Int → Option Addr → Nat → Nat → Int → Int → Int → Int → Option Addr → Nat → Nat → Option Addr → Nat → Nat → World → Prop) (m0 : Nat) (h0 : I m0 i0 i1 i2 i3 i4 i5 i6 i7 i8 i9 j0 j1 r0 n2 n3 j2 j3 j4 j5 r1 n4 n5 r2 n6 n7 w0)
 (hr : ∀ m g2 d3 c3 c4 c5 c6 c7 c8 c9 d0 d1 d2 b0 b6 b3 b9 c0 c1 c2 b1 b7 b4 b2 b8 b5 w, I m g2 d3 c3 c4 c5 c6 c7 c8 c9 d0 d1 d2 b0 b6 b3 b9 c0 c1 c2 b1 b7 b4 b2 b8 b5 w →
 w.heap[n1]? = some (.cells (Z0 c3 c4 c5 c6 c7 c8 c9 d0 d1 d2 b0 b6 b3 b9 c0 c1 c2 b1 b7 b4 b2 b8 b5) 29) →
 brB (decide (d3 < 10)) (
 ∃ co, (∀ w' : World, (Instr.index 63 (.agg (Z4 q0 q1 q2 q3 q4 q5 q6 q7 q8 q9)) (.int .i64 d3)).run pP w' = .ok (.pointer co) w') ∧
 Calls pP 79 #[.string s0, .int .i64 g2] w fun e e9 => ∃ bm cq cr, e = .returned (.tuple #[.int .u64 bm, .int .i64 cq, .int .i64 cr]) ∧ ya0 [n1] [(n0, 29)] [n0] w e9 ∧ ∃ bn bo bp bq br bt bu bv bw bx w4 y8 x6 bz ca cb cc w5 y9 x7 w6 z0 x8, e9.heap[n1]? = some (.cells (Z0 bn bo bp bq br bt bu bv bw bx w4 y8 x6 bz ca cb cc w5 y9 x7 w6 z0 x8) 29) ∧
 brB (cr != 0) (
 ∀ z2, Adv [n0] [] e9 z2 → z2.heap[n1]? = some (.cells (Z0 bn bo bp bq br bt bu bv bw bx w4 y8 x6 bz ca cb cc w5 y9 x7 w6 z0 x8) 29) →
 R (.agg (Z0 0 0 0 0 0 0 0 0 0 0 none 0 0 0 0 0 0 none 0 0 none 0 0)) z2)
 (
 brB (decide (bm > 1099511627776)) (
 ∀ z3, Adv [n0] [] e9 z3 → z3.heap[n1]? = some (.cells (Z0 bn bo bp bq br bt bu bv bw bx w4 y8 x6 bz ca cb cc w5 y9 x7 w6 z0 x8) 29) →
 R (.agg (Z0 0 0 0 0 0 0 0 0 0 0 none 0 0 0 0 0 0 none 0 0 none 0 0)) z3)
 (
 ylP co fun ec =>
 st e9 ec [(.int .i64 (IntKind.wrap .i64 bm))] fun z4 => ya0 [n1] [(n0, 29)] [n0] e9 z4 ∧ ∃ cs ct cu cv cw cx cy cz da db ce cl ci dc dd de df cf cm cj ch cn ck, z4.heap[n1]? = some (.cells (Z0 cs ct cu cv cw cx cy cz da db ce cl ci dc dd de df cf cm cj ch cn ck) 29) ∧
 KS (yAf s0 q0 q1 q2 q3 q4 q5 q6 q7 q8 q9 n0 n1 I m) (yg9 s0 q0 q1 q2 q3 q4 q5 q6 q7 q8 q9 n0 n1 (cq, (IntKind.wrap .i64 (d3 + 1)), cs, ct, cu, cv, cw, cx, cy, cz, da, db, ce, cl, ci, dc, dd, de, df, cf, cm, cj, ch, cn, ck)) z4)))
 (
 Calls pP 78 (Z2 s0 g2 1048576) w fun e g1 => ∃ cp dg dh, e = .returned (.tuple (Z2 cp dg dh)) ∧ ya0 [n1] [(n0, 29)] [n0] w g1 ∧ ∃ di dj dk z5 z6 z7 z8 z9 aa ab v4 x9 w7 ac ad ae af v5 y0 w8 v6 y1 w9, g1.heap[n1]? = some (.cells (Z0 di dj dk z5 z6 z7 z8 z9 aa ab v4 x9 w7 ac ad ae af v5 y0 w8 v6 y1 w9) 29) ∧
 brB (dh != 0) (
 ∀ h3, Adv [n0] [] g1 h3 → h3.heap[n1]? = some (.cells (Z0 di dj dk z5 z6 z7 z8 z9 aa ab v4 x9 w7 ac ad ae af v5 y0 w8 v6 y1 w9) 29) →
 R (.agg (Z0 0 0 0 0 0 0 0 0 0 0 none 0 0 0 0 0 0 none 0 0 none 0 0)) h3)
 (
 Calls pP 78 (Z2 s0 dg 1048576) g1 fun e e4 => ∃ z1 dv ag, e = .returned (.tuple (Z2 z1 dv ag)) ∧ ya0 [n1] [(n0, 29)] [n0] g1 e4 ∧ ∃ ah ai aj ak am an ao ap aq ar v7 y2 x0 au av aw ax v8 y3 x1 v9 y4 x2, e4.heap[n1]? = some (.cells (Z0 ah ai aj ak am an ao ap aq ar v7 y2 x0 au av aw ax v8 y3 x1 v9 y4 x2) 29) ∧
 brB (ag != 0) (
 ∀ h4, Adv [n0] [] e4 h4 → h4.heap[n1]? = some (.cells (Z0 ah ai aj ak am an ao ap aq ar v7 y2 x0 au av aw ax v8 y3 x1 v9 y4 x2) 29) →
 R (.agg (Z0 0 0 0 0 0 0 0 0 0 0 none 0 0 0 0 0 0 none 0 0 none 0 0)) h4)
 (
 Calls pP 80 #[.string cp] e4 fun e h5 => ∃ w1 y5 x3 dw, e = .returned (.tuple #[.slice w1 y5 x3, .int .i64 dw]) ∧ ya0 [n1] [(n0, 29)] [n0] e4 h5 ∧ ∃ ay az ba bb bc bd be bf bg bh dl ds dp bi bj bk bl w2 y6 x4 w3 y7 x5, h5.heap[n1]? = some (.cells (Z0 ay az ba bb bc bd be bf bg bh dl ds dp bi bj bk bl w2 y6 x4 w3 y7 x5) 29) ∧
 ∀ g0, Adv [n1] [] h5 g0 → g0.heap[n1]? = some (.cells (Z0 ay az ba bb bc bd be bf bg bh w1 y5 x3 bi bj bk bl w2 y6 x4 w3 y7 x5) 29) →
 Calls pP 81 #[.string z1] g0 fun e h6 => ∃ h8 h9 u0 u1 g3 g9 g6 g4 h1 g7 dx, e = .returned (.tuple #[(.agg (Z3 h8 h9 u0 u1 g3 g9 g6 g4 h1 g7)), .int .i64 dx]) ∧ ya0 [n1] [(n0, 29)] [n0] g0 h6 ∧ ∃ u2 u3 u4 u5 u6 u7 u9 v0 v1 v2 g5 h2 g8 dy dz ea eb dm dt dq dn du dr, h6.heap[n1]? = some (.cells (Z0 u2 u3 u4 u5 u6 u7 u9 v0 v1 v2 g5 h2 g8 dy dz ea eb dm dt dq dn du dr) 29) ∧
 ∀ h7, Adv [n0, n1] [] h6 h7 → h7.heap[n1]? = some (.cells (Z0 u2 u3 u4 u5 u6 u7 u9 v0 v1 v2 g5 h2 g8 h8 h9 u0 u1 g3 g9 g6 g4 h1 g7) 29) →
 R (.agg (Z0 u2 u3 u4 u5 u6 u7 u9 v0 v1 v2 g5 h2 g8 h8 h9 u0 u1 g3 g9 g6 g4 h1 g7)) h7)))) :
 yaL ynO (yCG 395 [0, 0, 1, 0, 1, 1, 1]) (yCH [1, 1, 1, 0, 1, 0] [] R) (yg9 s0 q0 q1 q2 q3 q4 q5 q6 q7 q8 q9 n0 n1 (i0, i1, i2, i3, i4, i5, i6, i7, i8, i9, j0, j1, r0, n2, n3, j2, j3, j4, j5, r1, n4, n5, r2, n6, n7)) w0 :=
 lrule (yg9 s0 q0 q1 q2 q3 q4 q5 q6 q7 q8 q9 n0 n1) (U25 I) h0 (by rintro m ⟨g2, d3, c3, c4, c5, c6, c7, c8, c9, d0, d1, d2, b0, b6, b3, b9, c0, c1, c2, b1, b7, b4, b2, b8, b5⟩ w h; exact ⟨by kernel_rfl, by kernel_rfl, fun js => Eq.mpr (by kernel_rfl) (hr m g2 d3 c3 c4 c5 c6 c7 c8 c9 d0 d1 d2 b0 b6 b3 b9 c0 c1 c2 b1 b7 b4 b2 b8 b5 w h)⟩)
theorem yD3 (h :
 ∀ b1, w.heap.size ≤ b1 →
 ∀ b2, w.heap.size ≤ b2 →
 ∀ w3, Adv [] [b2, b1] w w3 → w3.heap[b2]? = some (.cells (Z0 0 0 0 0 0 0 0 0 0 0 none 0 0 0 0 0 0 none 0 0 none 0 0) 29) →
 Calls pP 22 #[(.pointer (some ⟨b2, 0, none⟩))] w3 fun e w4 => ∃ p5 p6 p7 p8 p9 b0 b3 b4 b5 b6, e = .returned (.agg (Z4 p5 p6 p7 p8 p9 b0 b3 b4 b5 b6)) ∧ ya0 [b2] [(b1, 29)] [b1] w3 w4 ∧ ∃ b7 b8 b9 c0 c1 c2 c3 c4 c5 c6 a1 a7 a4 c7 c8 c9 d0 a2 a8 a5 a3 a9 a6, w4.heap[b2]? = some (.cells (Z0 b7 b8 b9 c0 c1 c2 c3 c4 c5 c6 a1 a7 a4 c7 c8 c9 d0 a2 a8 a5 a3 a9 a6) 29) ∧
 yaL ynO (yCG 395 [0, 0, 1, 0, 1, 1, 1]) (yCH [1, 1, 1, 0, 1, 0] [] R) (yg9 s0 p5 p6 p7 p8 p9 b0 b3 b4 b5 b6 b1 b2 (0, 0, b7, b8, b9, c0, c1, c2, c3, c4, c5, c6, a1, a7, a4, c7, c8, c9, d0, a2, a8, a5, a3, a9, a6)) w4) :
 CR pP 42 #[.string s0] w R :=
 yaA Tryz.wide_mixed (an := ynP) Tryz.func42 rfl rfl (by kernel_rfl) rfl (Eq.mpr (by kernel_rfl) h)
theorem yD4 {a1 : BA} (h :
 ∀ b1, w.heap.size ≤ b1 →
 ∀ w2, Adv [] [b1] w w2 →
 Calls pP 41 (Z2 a1 0 1048576) w2 fun e w3 => ∃ s4 x5 x6, e = .returned (.tuple (Z2 s4 x5 x6)) ∧ yaI [b1] w2 w3 ∧
 Calls pP 42 #[.string s4] w3 fun e w7 => ∃ x8 x9 b4 b5 b6 b7 b8 b9 c0 c1 a2 a9 a6 c2 c3 c4 c5 a3 b0 a7 a4 b2 a8, e = .returned (.agg (Z0 x8 x9 b4 b5 b6 b7 b8 b9 c0 c1 a2 a9 a6 c2 c3 c4 c5 a3 b0 a7 a4 b2 a8)) ∧ yaI [b1] w3 w7 ∧
 ∀ a5, w7.heap.size ≤ a5 →
 ∀ b3, Adv [] [a5] w7 b3 →
 Calls pP 10 #[(.agg (Z0 x8 x9 b4 b5 b6 b7 b8 b9 c0 c1 a2 a9 a6 c2 c3 c4 c5 a3 b0 a7 a4 b2 a8))] b3 fun e a0 => ∃ c6 d1, e = .returned (.tuple #[.string c6, .int .i64 d1]) ∧ yaI [b1, a5] b3 a0 ∧
 brB (x6 != 0) (
 ∀ c7, Adv [b1] [] a0 c7 →
 R (.tuple #[(.agg (Z0 0 0 0 0 0 0 0 0 0 0 none 0 0 0 0 0 0 none 0 0 none 0 0)), .int .i64 180]) c7)
 (
 brB (d1 != 0) (
 ∀ c8, Adv [b1] [] a0 c8 →
 R (.tuple #[(.agg (Z0 0 0 0 0 0 0 0 0 0 0 none 0 0 0 0 0 0 none 0 0 none 0 0)), .int .i64 180]) c8)
 (
 brB (!(c6.toList == a1.toList)) (
 ∀ c9, Adv [b1] [] a0 c9 →
 R (.tuple #[(.agg (Z0 0 0 0 0 0 0 0 0 0 0 none 0 0 0 0 0 0 none 0 0 none 0 0)), .int .i64 180]) c9)
 (
 ∀ d0, Adv [b1] [] a0 d0 →
 R (.tuple #[(.agg (Z0 x8 x9 b4 b5 b6 b7 b8 b9 c0 c1 a2 a9 a6 c2 c3 c4 c5 a3 b0 a7 a4 b2 a8)), .int .i64 0]) d0)))) :
 CR pP 17 #[.string a1] w R :=
 yaA Tryz.wide_mixed (an := []) Tryz.func17 rfl rfl (by kernel_rfl) rfl (Eq.mpr (by kernel_rfl) h)
theorem yD5 (h :
 ∀ b1, w.heap.size ≤ b1 →
 ∀ w2, Adv [] [b1] w w2 →
 Calls pP 9 #[(.agg (Z0 i0 i1 i2 i3 i4 i5 i6 i7 i8 i9 q0 n0 n1 j0 j1 j2 j3 q1 n2 n3 q2 n4 n5))] w2 fun e w3 => ∃ x4 x5 x6 x7 x8 x9 h2 h3 h4 h5 e3 f5 e9 h6 h7 h8 h9 e4 f6 f0 e5 f7 f1, e = .returned (.agg (Z0 x4 x5 x6 x7 x8 x9 h2 h3 h4 h5 e3 f5 e9 h6 h7 h8 h9 e4 f6 f0 e5 f7 f1)) ∧ yaI [b1] w2 w3 ∧
 ∀ d9, Adv [b1] [] w3 d9 →
 Calls pP 10 #[(.agg (Z0 x4 x5 x6 x7 x8 x9 h2 h3 h4 h5 e3 f5 e9 h6 h7 h8 h9 e4 f6 f0 e5 f7 f1))] d9 fun e a1 => ∃ a0 d4, e = .returned (.tuple #[.string a0, .int .i64 d4]) ∧ yaI [b1] d9 a1 ∧
 brB (d4 != 0) (
 brB (d4 != 0) (
 Calls pP 16 #[] a1 fun e g6 => ∃ g2, e = .returned (.bool g2) ∧ yaI [b1] a1 g6 ∧
 R (.bool g2) g6)
 (
 brB (decide ((a0.size : Int) > 0)) (
 Calls pP 16 #[] a1 fun e g7 => ∃ g3, e = .returned (.bool g3) ∧ yaI [b1] a1 g7 ∧
 R (.bool g3) g7)
 (
 R (.bool false) a1)))
 (
 brB (decide ((a0.size : Int) < 8)) (
 brB (d4 != 0) (
 Calls pP 16 #[] a1 fun e g8 => ∃ g4, e = .returned (.bool g4) ∧ yaI [b1] a1 g8 ∧
 R (.bool g4) g8)
 (
 brB (decide ((a0.size : Int) > 0)) (
 Calls pP 16 #[] a1 fun e g9 => ∃ g5, e = .returned (.bool g5) ∧ yaI [b1] a1 g9 ∧
 R (.bool g5) g9)
 (
 R (.bool false) a1)))
 (nz (IntKind.wrap .i64 ((a0.size : Int) - 3)) (
 slS a0 0 (IntKind.wrap .i64 (3 + (Int.tmod (ye8 .i64 j4 65535) (IntKind.wrap .i64 ((a0.size : Int) - 3))))) fun w8 =>
 ixS a0 (IntKind.wrap .i64 (3 + (Int.tmod (ye8 .i64 j4 65535) (IntKind.wrap .i64 ((a0.size : Int) - 3))))) fun x3 => nn (ye8 .i64 j5 7) (
 slS a0 (IntKind.wrap .i64 ((IntKind.wrap .i64 (3 + (Int.tmod (ye8 .i64 j4 65535) (IntKind.wrap .i64 ((a0.size : Int) - 3))))) + 1)) (a0.size) fun w9 =>
 ∀ h0, Adv [] [] a1 h0 →
 al h0 (.cells #[(.int .u8 (ydH .u8 x3 (IntKind.wrap .u8 (1 * 2 ^ (min (Int.toNat (ye8 .i64 j5 7)) 8)))))] 5) fun w0 h1 =>
 ∃ g1 d2, Sem.run pP (Go.convert 40 9 (.slice (some ⟨w0, 0, none⟩) 1 1)) h1 = .ok (.string g1) d2 ∧ yaI [b1] h1 d2 ∧
 yeZ w8 g1 fun x0 =>
 yeZ x0 w9 fun x1 =>
 Calls pP 17 #[.string x1] d2 fun e e0 => ∃ u0 u1 u2 u3 u4 u5 u6 u7 u9 v0 e6 f8 f2 v1 v2 v3 v4 e7 f9 f3 e8 g0 f4 v5, e = .returned (.tuple #[(.agg (Z0 u0 u1 u2 u3 u4 u5 u6 u7 u9 v0 e6 f8 f2 v1 v2 v3 v4 e7 f9 f3 e8 g0 f4)), .int .i64 v5]) ∧ yaI [b1] d2 e0 ∧
 ∀ d0, e0.heap.size ≤ d0 →
 slS a0 0 (IntKind.wrap .i64 (3 + (Int.tmod (ye8 .i64 j4 65535) (IntKind.wrap .i64 ((a0.size : Int) - 3))))) fun x2 =>
 ∀ e1, Adv [] [d0] e0 e1 →
 Calls pP 17 #[.string x2] e1 fun e d3 => ∃ y0 y1 y2 y3 y4 y5 y6 y7 y8 y9 v7 w5 w1 z0 z1 z2 z3 v8 w6 w4 v9 w7 v6 e2, e = .returned (.tuple #[(.agg (Z0 y0 y1 y2 y3 y4 y5 y6 y7 y8 y9 v7 w5 w1 z0 z1 z2 z3 v8 w6 w4 v9 w7 v6)), .int .i64 e2]) ∧ yaI [b1, d0] e1 d3 ∧
 ∀ b4, d3.heap.size ≤ b4 →
 brB (v5 == 180) (
 ∀ d1, Adv [] [b4] d3 d1 →
 Calls pP 15 #[(.agg (Z0 u0 u1 u2 u3 u4 u5 u6 u7 u9 v0 e6 f8 f2 v1 v2 v3 v4 e7 f9 f3 e8 g0 f4)), (.agg (Z0 0 0 0 0 0 0 0 0 0 0 none 0 0 0 0 0 0 none 0 0 none 0 0))] d1 fun e b5 => ∃ d5, e = .returned (.bool d5) ∧ yaI [b1, d0, b4] d1 b5 ∧
 brB d5 (
 brB (e2 == 180) (
 Calls pP 16 #[] b5 fun e d7 => ∃ d6, e = .returned (.bool d6) ∧ yaI [b1, d0, b4] b5 d7 ∧
 R (.bool d6) d7)
 (
 R (.bool false) b5))
 (
 R (.bool false) b5))
 (
 ∀ d8, Adv [] [b4] d3 d8 →
 R (.bool false) d8)))))) :
 CR pP 6 #[(.agg (Z0 i0 i1 i2 i3 i4 i5 i6 i7 i8 i9 q0 n0 n1 j0 j1 j2 j3 q1 n2 n3 q2 n4 n5)), .int .i64 j4, .int .i64 j5] w R :=
 yaA Tryz.wide_mixed (an := []) Tryz.func6 rfl rfl (by kernel_rfl) rfl (Eq.mpr (by kernel_rfl) h)
end
end Go.Proofs.YtkbcmppbjfpjmaaGreat
