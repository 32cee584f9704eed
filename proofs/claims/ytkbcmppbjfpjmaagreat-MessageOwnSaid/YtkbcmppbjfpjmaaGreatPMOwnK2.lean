/- Part 2 of the proof of PMOwn. -/
import Derived.Test.YtkbcmppbjfpjmaaGreatPMOwnK1
namespace Go.Proofs.YtkbcmppbjfpjmaaGreat
open Go Go.RowKit
set_option linter.all false
structure PRec where
 hk : Bool
 key : ByteArray
 tomb : Bool
 val : ByteArray
 deriving DecidableEq
structure PFound where
 off : Int
 r : PRec
 deriving DecidableEq
structure PPart where
 t : ByteArray
 n : Int
 deriving DecidableEq
structure PRep where
 e : Int
 off : Int
 n : Int
 gen : Int
 found : List PFound
 parts : List PPart
 deriving DecidableEq
structure Sl where
 a : Option Addr
 n : Nat
 c : Nat
def PRec.v (r : PRec) : Value := .agg #[.bool r.hk, .string r.key, .bool r.tomb, .string r.val]
def PFound.v (x : PFound) : Value := .agg #[.int .i64 x.off, .bool x.r.hk, .string x.r.key, .bool x.r.tomb, .string x.r.val]
def PPart.v (x : PPart) : Value := .agg #[.string x.t, .int .i64 x.n]
def yhT (x : PFound) : List Value := [.int .i64 x.off, .bool x.r.hk, .string x.r.key, .bool x.r.tomb, .string x.r.val]
def yi1 (x : PPart) : List Value := [.string x.t, .int .i64 x.n]
theorem yeB (x : PFound) : (yhT x).length = 5 := rfl
theorem yeC (x : PPart) : (yi1 x).length = 2 := rfl
def PRep.cs (r : PRep) (f p : Sl) : List Value := [.int .i64 r.e, .int .i64 r.off, .int .i64 r.n, .int .i64 r.gen, .slice f.a f.n f.c, .slice p.a p.n p.c]
def PRep.v (r : PRep) (f p : Sl) : Value := .agg #[.int .i64 r.e, .int .i64 r.off, .int .i64 r.n, .int .i64 r.gen, .slice f.a f.n f.c, .slice p.a p.n p.c]
structure RepAt (w : World) (r : PRep) (f p : Sl) : Prop where
 found : ybS w 5 yhT f.a f.n r.found
 parts : ybS w 2 yi1 p.a p.n r.parts
 lf : r.found.length ≤ 1000000
 lp : r.parts.length ≤ 1000000
structure RepOwn (w : World) (base : Nat) (r : PRep) (f p : Sl) : Prop where
 found : Row w base 55 5 yhT f.a f.n f.c r.found
 parts : Row w base 43 2 yi1 p.a p.n p.c r.parts
 lf : r.found.length ≤ 1000000
 lp : r.parts.length ≤ 1000000
theorem RepOwn.at {w : World} {base : Nat} {r : PRep} {f p : Sl} (h : RepOwn w base r f p) : RepAt w r f p := ⟨h.found.sl yeB, h.parts.sl yeC, h.lf, h.lp⟩
theorem RepAt.keep0 {w w' : World} {r : PRep} {f p : Sl} (h : RepAt w r f p) (M : Mod [] w w') : RepAt w' r f p := ⟨h.found.keep0 M, h.parts.keep0 M, h.lf, h.lp⟩
structure RepAtW (w : World) (r : PRep) (f p : Sl) : Prop where
 found : ybS w 5 yhT f.a f.n r.found
 parts : ybS w 2 yi1 p.a p.n r.parts
 lf : r.found.length ≤ 9223372036854775807
 lp : r.parts.length ≤ 9223372036854775807
theorem RepAtW.keep0 {w w' : World} {r : PRep} {f p : Sl} (h : RepAtW w r f p) (M : Mod [] w w') : RepAtW w' r f p := ⟨h.found.keep0 M, h.parts.keep0 M, h.lf, h.lp⟩
theorem RepAt.wide {w : World} {r : PRep} {f p : Sl} (h : RepAt w r f p) : RepAtW w r f p := ⟨h.found, h.parts, by have := h.lf; omega, by have := h.lp; omega⟩
theorem RepOwn.keep0 {w w' : World} {base : Nat} {r : PRep} {f p : Sl} (h : RepOwn w base r f p) (M : Mod [] w w') : RepOwn w' base r f p := ⟨h.found.keep0 M, h.parts.keep0 M, h.lf, h.lp⟩
theorem RepOwn.rebase {w : World} {base base' : Nat} {r : PRep} {f p : Sl} (h : RepOwn w base r f p) (hb : base' ≤ base) : RepOwn w base' r f p := ⟨h.found.rebase hb, h.parts.rebase hb, h.lf, h.lp⟩
theorem neF (x y : PFound) (o1 o2 : Operand) (w : World) : Sem.run pP (do eqGuard .neq 55 o1 o2 x.v y.v; Go.binOp .neq 55 x.v y.v) w = .ok (.bool (decide (x ≠ y))) w := by
 obtain ⟨a, b, c, d, e⟩ := x
 obtain ⟨a', b', c', d', e'⟩ := y
 simp [go_sem, Sem.run_bind, PFound.v]
 by_cases h1 : a = a' <;> by_cases h2 : b = b' <;> by_cases h3 : c = c' <;> by_cases h4 : d = d' <;> by_cases h5 : e = e' <;> simp [h1, h2, h3, h4, h5, yc1]
theorem neP (x y : PPart) (o1 o2 : Operand) (w : World) : Sem.run pP (do eqGuard .neq 43 o1 o2 x.v y.v; Go.binOp .neq 43 x.v y.v) w = .ok (.bool (decide (x ≠ y))) w := by
 obtain ⟨a, b⟩ := x
 obtain ⟨a', b'⟩ := y
 simp [go_sem, Sem.run_bind, PPart.v]
 by_cases h1 : a = a' <;> by_cases h2 : b = b' <;> simp [h1, h2, yc1]
section
set_option maxRecDepth 100000
variable {R : VWP} {w w0 : World} {m : Nat} {i0 i1 i2 i3 i4 i5 i6 i7 i8 i9 j0 j1 j2 j3 j4 j5 j6 j7 j8 j9 k0 k1 k2 k3 k4 k5 k6 k7 k8 k9 l0 l1 l2 l3 l4 l5 l6 l7 l8 l9 : Int} {s0 s1 s2 s3 s4 s5 s6 s7 s8 s9 t0 t1 t2 t3 t4 t5 t6 t7 t8 t9 : BA} {n0 n1 n2 n3 n4 n5 n6 n7 n8 n9 o0 o1 o2 o3 o4 o5 o6 o7 o8 o9 p0 p1 p2 p3 p4 p5 p6 p7 p8 p9 : Nat} {q0 q1 q2 q3 q4 q5 q6 q7 q8 q9 r0 r1 r2 r3 r4 r5 r6 r7 r8 r9 : OA} {B0 B1 B2 B3 B4 B5 B6 B7 B8 B9 : Bool} {M0 M1 M2 M3 : Option Nat} {V0 V1 V2 V3 V4 V5 : Value} {A0 A1 A2 : Addr}
abbrev hpC (w : World) (b : Nat) (c : Array Value) (T : TypeId) : Prop := w.heap[b]? = some (.cells c T)
abbrev Z0 (x0 x1 x2 x3 x4 x5 x6 x7 x8 x9 : Int) (x10 : OA) (x11 x12 : Nat) (x13 x14 x15 x16 : Int) (x17 : OA) (x18 x19 : Nat) (x20 : OA) (x21 x22 : Nat) : Array Value := #[.int .i64 x0, .int .i64 x1, .int .i64 x2, .int .i64 x3, .int .i64 x4, .int .i64 x5, .int .i64 x6, .int .i64 x7, .int .i64 x8, .int .i64 x9, .slice x10 x11 x12, .int .i64 x13, .int .i64 x14, .int .i64 x15, .int .i64 x16, .slice x17 x18 x19, .slice x20 x21 x22]
abbrev Z1 (x0 : Int) (x1 : BA) (x2 x3 x4 x5 x6 x7 : Int) (x8 : OA) (x9 x10 : Nat) (x11 x12 : BA) (x13 : Int) (x14 : Bool) (x15 : OA) (x16 x17 : Nat) : Array Value := #[.int .i64 x0, .string x1, .int .i64 x2, .int .i64 x3, .int .i64 x4, .int .i64 x5, .int .i64 x6, .int .i64 x7, .slice x8 x9 x10, .string x11, .string x12, .int .i64 x13, .bool x14, .slice x15 x16 x17]
abbrev Z2 (x0 : BA) (x1 x2 : Int) : Array Value := #[.string x0, .int .i64 x1, .int .i64 x2]
abbrev Z3 (x0 x1 x2 x3 : Int) (x4 : OA) (x5 x6 : Nat) (x7 : OA) (x8 x9 : Nat) : Array Value := #[.int .i64 x0, .int .i64 x1, .int .i64 x2, .int .i64 x3, .slice x4 x5 x6, .slice x7 x8 x9]
abbrev Z4 (x0 x1 x2 x3 x4 x5 x6 x7 x8 x9 : OA) : Array Value := #[.pointer x0, .pointer x1, .pointer x2, .pointer x3, .pointer x4, .pointer x5, .pointer x6, .pointer x7, .pointer x8, .pointer x9]
abbrev Z5 (x0 x1 x2 : Int) (x3 : BA) (x4 x5 x6 x7 x8 x9 : Int) (x10 : OA) (x11 x12 : Nat) (x13 x14 : BA) (x15 : Int) (x16 : Bool) (x17 : OA) (x18 x19 : Nat) : Array Value := #[.int .i64 x0, .int .i64 x1, .int .i64 x2, .string x3, .int .i64 x4, .int .i64 x5, .int .i64 x6, .int .i64 x7, .int .i64 x8, .int .i64 x9, .slice x10 x11 x12, .string x13, .string x14, .int .i64 x15, .bool x16, .slice x17 x18 x19]
abbrev Z6 (x0 : Int) (x1 : Bool) (x2 : BA) (x3 : Bool) (x4 : BA) : Array Value := #[.int .i64 x0, .bool x1, .string x2, .bool x3, .string x4]
abbrev Z7 (x0 : Bool) (x1 : BA) (x2 : Bool) (x3 : BA) : Array Value := #[.bool x0, .string x1, .bool x2, .string x3]
abbrev Z8 (x0 x1 x2 : Int) (x3 : OA) (x4 x5 : Nat) : Array Value := #[.int .i64 x0, .int .i64 x1, .int .i64 x2, .slice x3 x4 x5]
abbrev Z9 (x0 x1 x2 x3 : Int) : Array Value := #[.int .i64 x0, .int .i64 x1, .int .i64 x2, .int .i64 x3]
abbrev Z10 (x0 : OA) (x1 x2 : Int) : Array Value := #[.pointer x0, .int .i64 x1, .int .i64 x2]
theorem yIa (h :
 brB (decide (i0 ≥ 0)) (
 R (.bool (decide (i0 ≤ 1099511627776))) w)
 (
 R (.bool false) w)) :
 CR pP 94 #[.int .i64 i0] w R :=
 yaA Tryz.wide_mixed (an := []) Tryz.func94 rfl rfl (by kernel_rfl) rfl (Eq.mpr (by kernel_rfl) h)
theorem yIb (h :
 ∀ b1, w.heap.size ≤ b1 →
 brB (!B0) (
 brB (!(s0.toList == (⟨#[]⟩ : BA).toList)) (
 brB (!(s0.toList == (⟨#[]⟩ : BA).toList)) (
 ∀ w2, Adv [] [b1] w w2 →
 R (.int .i64 30) w2)
 (
 brB (decide ((s0.size : Int) > 64)) (
 brB (decide ((s0.size : Int) > 64)) (
 ∀ w3, Adv [] [b1] w w3 →
 R (.int .i64 2) w3)
 (
 ∀ w4, Adv [] [b1] w w4 →
 R (.int .i64 0) w4))
 (
 brB (decide ((s1.size : Int) > 512)) (
 ∀ w5, Adv [] [b1] w w5 →
 R (.int .i64 2) w5)
 (
 ∀ w6, Adv [] [b1] w w6 →
 R (.int .i64 0) w6))))
 (
 brB B1 (
 brB (!B0) (
 ∀ w7, Adv [] [b1] w w7 →
 R (.int .i64 30) w7)
 (
 brB (!(s1.toList == (⟨#[]⟩ : BA).toList)) (
 ∀ w8, Adv [] [b1] w w8 →
 R (.int .i64 30) w8)
 (
 brB (decide ((s0.size : Int) > 64)) (
 brB (decide ((s0.size : Int) > 64)) (
 ∀ w9, Adv [] [b1] w w9 →
 R (.int .i64 2) w9)
 (
 ∀ a4, Adv [] [b1] w a4 →
 R (.int .i64 0) a4))
 (
 brB (decide ((s1.size : Int) > 512)) (
 ∀ a5, Adv [] [b1] w a5 →
 R (.int .i64 2) a5)
 (
 ∀ a6, Adv [] [b1] w a6 →
 R (.int .i64 0) a6)))))
 (
 brB (decide ((s0.size : Int) > 64)) (
 brB (decide ((s0.size : Int) > 64)) (
 ∀ a7, Adv [] [b1] w a7 →
 R (.int .i64 2) a7)
 (
 ∀ a8, Adv [] [b1] w a8 →
 R (.int .i64 0) a8))
 (
 brB (decide ((s1.size : Int) > 512)) (
 ∀ a9, Adv [] [b1] w a9 →
 R (.int .i64 2) a9)
 (
 ∀ b0, Adv [] [b1] w b0 →
 R (.int .i64 0) b0)))))
 (
 brB B1 (
 brB (!B0) (
 ∀ b2, Adv [] [b1] w b2 →
 R (.int .i64 30) b2)
 (
 brB (!(s1.toList == (⟨#[]⟩ : BA).toList)) (
 ∀ b3, Adv [] [b1] w b3 →
 R (.int .i64 30) b3)
 (
 brB (decide ((s0.size : Int) > 64)) (
 brB (decide ((s0.size : Int) > 64)) (
 ∀ b4, Adv [] [b1] w b4 →
 R (.int .i64 2) b4)
 (
 ∀ b5, Adv [] [b1] w b5 →
 R (.int .i64 0) b5))
 (
 brB (decide ((s1.size : Int) > 512)) (
 ∀ b6, Adv [] [b1] w b6 →
 R (.int .i64 2) b6)
 (
 ∀ b7, Adv [] [b1] w b7 →
 R (.int .i64 0) b7)))))
 (
 brB (decide ((s0.size : Int) > 64)) (
 brB (decide ((s0.size : Int) > 64)) (
 ∀ b8, Adv [] [b1] w b8 →
 R (.int .i64 2) b8)
 (
 ∀ b9, Adv [] [b1] w b9 →
 R (.int .i64 0) b9))
 (
 brB (decide ((s1.size : Int) > 512)) (
 ∀ c0, Adv [] [b1] w c0 →
 R (.int .i64 2) c0)
 (
 ∀ c1, Adv [] [b1] w c1 →
 R (.int .i64 0) c1))))) :
 CR pP 95 #[(.agg (Z7 B0 s0 B1 s1))] w R :=
 yaA Tryz.wide_mixed (an := []) Tryz.func95 rfl rfl (by kernel_rfl) rfl (Eq.mpr (by kernel_rfl) h)
theorem yIc (h :
 ∀ b1, w.heap.size ≤ b1 →
 brB B1 (
 ∀ w2, Adv [] [b1] w w2 →
 R (.int .u8 (IntKind.wrap .u8 ((IntKind.wrap .u8 (0 + 2)) + 1))) w2)
 (
 brB B0 (
 ∀ w3, Adv [] [b1] w w3 →
 R (.int .u8 (IntKind.wrap .u8 (0 + 1))) w3)
 (
 ∀ w4, Adv [] [b1] w w4 →
 R (.int .u8 0) w4))) :
 CR pP 121 #[(.agg (Z7 B0 s0 B1 s1))] w R :=
 yaA Tryz.wide_mixed (an := []) Tryz.func121 rfl rfl (by kernel_rfl) rfl (Eq.mpr (by kernel_rfl) h)
theorem yId (h :
 brB (decide (i0 ≥ 0)) (
 R (.bool (decide (i0 ≤ 1099511627776))) w)
 (
 R (.bool false) w)) :
 CR pP 36 #[.int .i64 i0] w R :=
 yaA Tryz.wide_mixed (an := []) Tryz.func36 rfl rfl (by kernel_rfl) rfl (Eq.mpr (by kernel_rfl) h)
theorem yIe (h :
 ∀ b1, w.heap.size ≤ b1 →
 brB (!B0) (
 brB (decide ((s0.size : Int) > 0)) (
 ∀ w2, Adv [] [b1] w w2 →
 R (.int .i64 30) w2)
 (
 brB B1 (
 brB (!B0) (
 ∀ w3, Adv [] [b1] w w3 →
 R (.int .i64 30) w3)
 (
 brB B1 (
 brB (decide ((s1.size : Int) > 0)) (
 ∀ w4, Adv [] [b1] w w4 →
 R (.int .i64 30) w4)
 (
 brB (decide ((s0.size : Int) > 64)) (
 ∀ w5, Adv [] [b1] w w5 →
 R (.int .i64 2) w5)
 (
 brB (decide ((s1.size : Int) > 512)) (
 ∀ w6, Adv [] [b1] w w6 →
 R (.int .i64 2) w6)
 (
 ∀ w7, Adv [] [b1] w w7 →
 R (.int .i64 0) w7))))
 (
 brB (decide ((s0.size : Int) > 64)) (
 ∀ w8, Adv [] [b1] w w8 →
 R (.int .i64 2) w8)
 (
 brB (decide ((s1.size : Int) > 512)) (
 ∀ w9, Adv [] [b1] w w9 →
 R (.int .i64 2) w9)
 (
 ∀ a4, Adv [] [b1] w a4 →
 R (.int .i64 0) a4)))))
 (
 brB B1 (
 brB (decide ((s1.size : Int) > 0)) (
 ∀ a5, Adv [] [b1] w a5 →
 R (.int .i64 30) a5)
 (
 brB (decide ((s0.size : Int) > 64)) (
 ∀ a6, Adv [] [b1] w a6 →
 R (.int .i64 2) a6)
 (
 brB (decide ((s1.size : Int) > 512)) (
 ∀ a7, Adv [] [b1] w a7 →
 R (.int .i64 2) a7)
 (
 ∀ a8, Adv [] [b1] w a8 →
 R (.int .i64 0) a8))))
 (
 brB (decide ((s0.size : Int) > 64)) (
 ∀ a9, Adv [] [b1] w a9 →
 R (.int .i64 2) a9)
 (
 brB (decide ((s1.size : Int) > 512)) (
 ∀ b0, Adv [] [b1] w b0 →
 R (.int .i64 2) b0)
 (
 ∀ b2, Adv [] [b1] w b2 →
 R (.int .i64 0) b2))))))
 (
 brB B1 (
 brB (!B0) (
 ∀ b3, Adv [] [b1] w b3 →
 R (.int .i64 30) b3)
 (
 brB B1 (
 brB (decide ((s1.size : Int) > 0)) (
 ∀ b4, Adv [] [b1] w b4 →
 R (.int .i64 30) b4)
 (
 brB (decide ((s0.size : Int) > 64)) (
 ∀ b5, Adv [] [b1] w b5 →
 R (.int .i64 2) b5)
 (
 brB (decide ((s1.size : Int) > 512)) (
 ∀ b6, Adv [] [b1] w b6 →
 R (.int .i64 2) b6)
 (
 ∀ b7, Adv [] [b1] w b7 →
 R (.int .i64 0) b7))))
 (
 brB (decide ((s0.size : Int) > 64)) (
 ∀ b8, Adv [] [b1] w b8 →
 R (.int .i64 2) b8)
 (
 brB (decide ((s1.size : Int) > 512)) (
 ∀ b9, Adv [] [b1] w b9 →
 R (.int .i64 2) b9)
 (
 ∀ c0, Adv [] [b1] w c0 →
 R (.int .i64 0) c0)))))
 (
 brB B1 (
 brB (decide ((s1.size : Int) > 0)) (
 ∀ c1, Adv [] [b1] w c1 →
 R (.int .i64 30) c1)
 (
 brB (decide ((s0.size : Int) > 64)) (
 ∀ c2, Adv [] [b1] w c2 →
 R (.int .i64 2) c2)
 (
 brB (decide ((s1.size : Int) > 512)) (
 ∀ c3, Adv [] [b1] w c3 →
 R (.int .i64 2) c3)
 (
 ∀ c4, Adv [] [b1] w c4 →
 R (.int .i64 0) c4))))
 (
 brB (decide ((s0.size : Int) > 64)) (
 ∀ c5, Adv [] [b1] w c5 →
 R (.int .i64 2) c5)
 (
 brB (decide ((s1.size : Int) > 512)) (
 ∀ c6, Adv [] [b1] w c6 →
 R (.int .i64 2) c6)
 (
 ∀ c7, Adv [] [b1] w c7 →
 R (.int .i64 0) c7)))))) :
 CR pP 103 #[(.agg (Z7 B0 s0 B1 s1))] w R :=
 yaA Tryz.wide_mixed (an := []) Tryz.func103 rfl rfl (by kernel_rfl) rfl (Eq.mpr (by kernel_rfl) h)
def ywV : LA := ⟨[0, 0, 1, 0, 1, 1], [0, 3], [], 0, []⟩
def yA0 : List LA := [ywV]
abbrev yIB := dnF pP yA0 (code Tryz.f104)
abbrev yJA := yaO pP yA0 (code Tryz.f104)
abbrev yIC (p : List Nat) (K : List Kh) (R : VWP) := yaO pP yA0 (code Tryz.f104) p K (ya4 pP Tryz.f104 [] R)
def yhU (a0 : BA) : Int → List Value × List TB := fun a1 => ([.string a0, .int .i64 a1], [])
abbrev yoQ (a0 : BA) (I : Nat → Int → World → Prop) (m : Nat) : Kh := KG (yhU a0) (U1 I) m
theorem yA1 {I : Nat → Int → World → Prop} (m' : Nat) (h1 : m' < m) (h2 : I m' i0 w) : KS (yoQ s0 I m) (yhU s0 i0) w := ⟨m', h1, _, rfl, rfl, h2⟩
theorem yA2 (I : Nat → Int → World → Prop) (m0 : Nat) (h0 : I m0 i0 w0)
 (hr : ∀ m a1 w, I m a1 w →
 brB (decide (a1 < (s0.size : Int))) (
 ixS s0 a1 fun x1 =>
 brB (decide (x1 ≥ 97)) (
 brB (decide (x1 ≤ 122)) (
 KS (yoQ s0 I m) (yhU s0 (IntKind.wrap .i64 (a1 + 1))) w)
 (
 brB (decide (x1 ≥ 48)) (
 brB (decide (x1 ≤ 57)) (
 KS (yoQ s0 I m) (yhU s0 (IntKind.wrap .i64 (a1 + 1))) w)
 (
 brB (!(x1 == 45)) (
 R (.bool false) w)
 (
 KS (yoQ s0 I m) (yhU s0 (IntKind.wrap .i64 (a1 + 1))) w)))
 (
 brB (!(x1 == 45)) (
 R (.bool false) w)
 (
 KS (yoQ s0 I m) (yhU s0 (IntKind.wrap .i64 (a1 + 1))) w))))
 (
 brB (decide (x1 ≥ 48)) (
 brB (decide (x1 ≤ 57)) (
 KS (yoQ s0 I m) (yhU s0 (IntKind.wrap .i64 (a1 + 1))) w)
 (
 brB (!(x1 == 45)) (
 R (.bool false) w)
 (
 KS (yoQ s0 I m) (yhU s0 (IntKind.wrap .i64 (a1 + 1))) w)))
 (
 brB (!(x1 == 45)) (
 R (.bool false) w)
 (
 KS (yoQ s0 I m) (yhU s0 (IntKind.wrap .i64 (a1 + 1))) w))))
 (
 R (.bool true) w)) :
 yaJ ywV (yIB 396 [0, 0, 1, 0, 1, 1]) (yIC [1, 1, 0, 1, 0] [] R) (yhU s0 i0) w0 :=
 lrule (yhU s0) (U1 I) h0 (by rintro m a1 w h; exact ⟨by kernel_rfl, by kernel_rfl, fun js => Eq.mpr (by kernel_rfl) (hr m a1 w h)⟩)
theorem yIf (h :
 brB (decide ((s0.size : Int) < 1)) (
 R (.bool false) w)
 (
 brB (decide ((s0.size : Int) > 16)) (
 R (.bool false) w)
 (
 yaJ ywV (yIB 396 [0, 0, 1, 0, 1, 1]) (yIC [1, 1, 0, 1, 0] [] R) (yhU s0 0) w))) :
 CR pP 104 #[.string s0] w R :=
 yaA Tryz.wide_mixed (an := yA0) Tryz.func104 rfl rfl (by kernel_rfl) rfl (Eq.mpr (by kernel_rfl) h)
def ywW : LA := ⟨[0, 0, 1, 0, 1, 1], [0, 1, 5], [], 0, []⟩
def yA3 : List LA := [ywW]
abbrev yID := dnF pP yA3 (code Tryz.f76)
abbrev yJB := yaO pP yA3 (code Tryz.f76)
abbrev yIE (p : List Nat) (K : List Kh) (R : VWP) := yaO pP yA3 (code Tryz.f76) p K (ya4 pP Tryz.f76 [] R)
def ytZ (a0 : OA) (a4 a2 : Nat) (a1 : OA) (a5 a3 : Nat) : Int → List Value × List TB := fun a6 => ([.slice a0 a4 a2, .slice a1 a5 a3, .int .i64 a6], [])
abbrev yE5 (a0 : OA) (a4 a2 : Nat) (a1 : OA) (a5 a3 : Nat) (I : Nat → Int → World → Prop) (m : Nat) : Kh := KG (ytZ a0 a4 a2 a1 a5 a3) (U1 I) m
theorem yA4 {I : Nat → Int → World → Prop} (m' : Nat) (h1 : m' < m) (h2 : I m' i0 w) : KS (yE5 q0 n0 n1 q1 n2 n3 I m) (ytZ q0 n0 n1 q1 n2 n3 i0) w := ⟨m', h1, _, rfl, rfl, h2⟩
theorem yA5 {a2 : OA} {a3 : OA} (I : Nat → Int → World → Prop) (m0 : Nat) (h0 : I m0 i0 w0)
 (hr : ∀ m a0 w, I m a0 w →
 brB (decide (a0 < (n0 : Int))) (
 ixA a2 n0 a0 5 fun q1 =>
 yaF .i64 w q1 fun x2 => yaU w (Addr.add q1 1) fun t3 => yaP w (Addr.add q1 2) fun s4 => yaU w (Addr.add q1 3) fun t5 => yaP w (Addr.add q1 4) fun s6 =>
 ixA a3 n2 a0 5 fun q7 =>
 yaF .i64 w q7 fun x8 => yaU w (Addr.add q7 1) fun t9 => yaP w (Addr.add q7 2) fun a8 => yaU w (Addr.add q7 3) fun b0 => yaP w (Addr.add q7 4) fun a9 =>
 ∃ b1, (∀ w', Mod [] w w' → Sem.run pP (do eqGuard .neq 55 (.tmp 20) (.tmp 24) (.agg (Z6 x2 t3 s4 t5 s6)) (.agg (Z6 x8 t9 a8 b0 a9)); Go.binOp .neq 55 (.agg (Z6 x2 t3 s4 t5 s6)) (.agg (Z6 x8 t9 a8 b0 a9))) w' = .ok (.bool b1) w') ∧
 brB b1 (
 ∀ b2, Adv [] [] w b2 →
 R (.bool false) b2)
 (
 ∀ b3, Adv [] [] w b3 →
 KS (yE5 a2 n0 n1 a3 n2 n3 I m) (ytZ a2 n0 n1 a3 n2 n3 (IntKind.wrap .i64 (a0 + 1))) b3))
 (
 R (.bool true) w)) :
 yaJ ywW (yID 396 [0, 0, 1, 0, 1, 1]) (yIE [1, 1, 0, 1, 0] [] R) (ytZ a2 n0 n1 a3 n2 n3 i0) w0 :=
 lrule (ytZ a2 n0 n1 a3 n2 n3) (U1 I) h0 (by rintro m a0 w h; exact ⟨by kernel_rfl, by kernel_rfl, fun js => Eq.mpr (by kernel_rfl) (hr m a0 w h)⟩)
theorem yIg (h :
 brB ((n0 : Int) != (n2 : Int)) (
 R (.bool false) w)
 (
 yaJ ywW (yID 396 [0, 0, 1, 0, 1, 1]) (yIE [1, 1, 0, 1, 0] [] R) (ytZ q0 n0 n1 q1 n2 n3 0) w)) :
 CR pP 76 #[.slice q0 n0 n1, .slice q1 n2 n3] w R :=
 yaA Tryz.wide_mixed (an := yA3) Tryz.func76 rfl rfl (by kernel_rfl) rfl (Eq.mpr (by kernel_rfl) h)
def ywX : LA := ⟨[0, 0, 1, 0, 1, 1], [0, 1, 5], [], 0, []⟩
def yA6 : List LA := [ywX]
abbrev yIF := dnF pP yA6 (code Tryz.f77)
abbrev yJC := yaO pP yA6 (code Tryz.f77)
abbrev yIG (p : List Nat) (K : List Kh) (R : VWP) := yaO pP yA6 (code Tryz.f77) p K (ya4 pP Tryz.f77 [] R)
def yt0 (a0 : OA) (a4 a2 : Nat) (a1 : OA) (a5 a3 : Nat) : Int → List Value × List TB := fun a6 => ([.slice a0 a4 a2, .slice a1 a5 a3, .int .i64 a6], [])
abbrev yE6 (a0 : OA) (a4 a2 : Nat) (a1 : OA) (a5 a3 : Nat) (I : Nat → Int → World → Prop) (m : Nat) : Kh := KG (yt0 a0 a4 a2 a1 a5 a3) (U1 I) m
theorem yA7 {I : Nat → Int → World → Prop} (m' : Nat) (h1 : m' < m) (h2 : I m' i0 w) : KS (yE6 q0 n0 n1 q1 n2 n3 I m) (yt0 q0 n0 n1 q1 n2 n3 i0) w := ⟨m', h1, _, rfl, rfl, h2⟩
theorem yA8 {a2 : OA} {a3 : OA} (I : Nat → Int → World → Prop) (m0 : Nat) (h0 : I m0 i0 w0)
 (hr : ∀ m a0 w, I m a0 w →
 brB (decide (a0 < (n0 : Int))) (
 ixA a2 n0 a0 2 fun q1 =>
 yaP w q1 fun s2 => yaF .i64 w (Addr.add q1 1) fun x3 =>
 ixA a3 n2 a0 2 fun q4 =>
 yaP w q4 fun s5 => yaF .i64 w (Addr.add q4 1) fun x6 =>
 ∃ t7, (∀ w', Mod [] w w' → Sem.run pP (do eqGuard .neq 43 (.tmp 20) (.tmp 24) (.agg #[.string s2, .int .i64 x3]) (.agg #[.string s5, .int .i64 x6]); Go.binOp .neq 43 (.agg #[.string s2, .int .i64 x3]) (.agg #[.string s5, .int .i64 x6])) w' = .ok (.bool t7) w') ∧
 brB t7 (
 ∀ w8, Adv [] [] w w8 →
 R (.bool false) w8)
 (
 ∀ w9, Adv [] [] w w9 →
 KS (yE6 a2 n0 n1 a3 n2 n3 I m) (yt0 a2 n0 n1 a3 n2 n3 (IntKind.wrap .i64 (a0 + 1))) w9))
 (
 R (.bool true) w)) :
 yaJ ywX (yIF 396 [0, 0, 1, 0, 1, 1]) (yIG [1, 1, 0, 1, 0] [] R) (yt0 a2 n0 n1 a3 n2 n3 i0) w0 :=
 lrule (yt0 a2 n0 n1 a3 n2 n3) (U1 I) h0 (by rintro m a0 w h; exact ⟨by kernel_rfl, by kernel_rfl, fun js => Eq.mpr (by kernel_rfl) (hr m a0 w h)⟩)
theorem yIh (h :
 brB ((n0 : Int) != (n2 : Int)) (
 R (.bool false) w)
 (
 yaJ ywX (yIF 396 [0, 0, 1, 0, 1, 1]) (yIG [1, 1, 0, 1, 0] [] R) (yt0 q0 n0 n1 q1 n2 n3 0) w)) :
 CR pP 77 #[.slice q0 n0 n1, .slice q1 n2 n3] w R :=
 yaA Tryz.wide_mixed (an := yA6) Tryz.func77 rfl rfl (by kernel_rfl) rfl (Eq.mpr (by kernel_rfl) h)
theorem yIi (h :
 ∀ b1, w.heap.size ≤ b1 →
 ∀ b2, w.heap.size ≤ b2 →
 brB (i0 == i4) (
 brB (i1 == i5) (
 brB (i2 == i6) (
 brB (i3 == i7) (
 ∀ w3, Adv [] [b2, b1] w w3 →
 Calls pP 76 #[.slice q0 n0 n1, .slice q2 n4 n5] w3 fun e w4 => ∃ t5, e = .returned (.bool t5) ∧ yaI [b1, b2] w3 w4 ∧
 brB t5 (
 Calls pP 77 #[.slice q1 n2 n3, .slice q3 n6 n7] w4 fun e w6 => ∃ t7, e = .returned (.bool t7) ∧ yaI [b1, b2] w4 w6 ∧
 R (.bool t7) w6)
 (
 R (.bool false) w4))
 (
 ∀ w8, Adv [] [b2, b1] w w8 →
 R (.bool false) w8))
 (
 ∀ w9, Adv [] [b2, b1] w w9 →
 R (.bool false) w9))
 (
 ∀ c2, Adv [] [b2, b1] w c2 →
 R (.bool false) c2))
 (
 ∀ c3, Adv [] [b2, b1] w c3 →
 R (.bool false) c3)) :
 CR pP 40 #[(.agg (Z3 i0 i1 i2 i3 q0 n0 n1 q1 n2 n3)), (.agg (Z3 i4 i5 i6 i7 q2 n4 n5 q3 n6 n7))] w R :=
 yaA Tryz.wide_mixed (an := []) Tryz.func40 rfl rfl (by kernel_rfl) rfl (Eq.mpr (by kernel_rfl) h)
def ywY : LA := ⟨[0, 0, 1, 0, 1, 1], [0, 1, 12, 13], [], 0, []⟩
def yA9 : List LA := [ywY]
abbrev yIH := dnF pP yA9 (code Tryz.f73)
abbrev yJD := yaO pP yA9 (code Tryz.f73)
abbrev yII (p : List Nat) (K : List Kh) (R : VWP) := yaO pP yA9 (code Tryz.f73) p K (ya4 pP Tryz.f73 [] R)
def yt1 (a2 : OA) (a6 a4 : Nat) (a3 : OA) (a7 a5 : Nat) (a0 : Int) : Int → List Value × List TB := fun a1 => ([.slice a2 a6 a4, .slice a3 a7 a5, .int .i64 a0, .int .i64 a1], [])
abbrev yE7 (a1 : OA) (a5 a3 : Nat) (a2 : OA) (a6 a4 : Nat) (a0 : Int) (I : Nat → Int → World → Prop) (m : Nat) : Kh := KG (yt1 a1 a5 a3 a2 a6 a4 a0) (U1 I) m
theorem yBa {I : Nat → Int → World → Prop} (m' : Nat) (h1 : m' < m) (h2 : I m' i1 w) : KS (yE7 q0 n0 n1 q1 n2 n3 i0 I m) (yt1 q0 n0 n1 q1 n2 n3 i0 i1) w := ⟨m', h1, _, rfl, rfl, h2⟩
theorem yBb {a2 : OA} {a3 : OA} (I : Nat → Int → World → Prop) (m0 : Nat) (h0 : I m0 i1 w0)
 (hr : ∀ m a0 w, I m a0 w →
 brB (decide (a0 < i0)) (
 ixA a2 n0 a0 5 fun q1 =>
 yaF .i64 w q1 fun x2 => yaU w (Addr.add q1 1) fun t3 => yaP w (Addr.add q1 2) fun s4 => yaU w (Addr.add q1 3) fun t5 => yaP w (Addr.add q1 4) fun s6 =>
 ixA a3 n2 a0 5 fun q7 =>
 yaF .i64 w q7 fun x8 => yaU w (Addr.add q7 1) fun t9 => yaP w (Addr.add q7 2) fun a9 => yaU w (Addr.add q7 3) fun b1 => yaP w (Addr.add q7 4) fun b0 =>
 ∃ b2, (∀ w', Mod [] w w' → Sem.run pP (do eqGuard .neq 55 (.tmp 19) (.tmp 23) (.agg (Z6 x2 t3 s4 t5 s6)) (.agg (Z6 x8 t9 a9 b1 b0)); Go.binOp .neq 55 (.agg (Z6 x2 t3 s4 t5 s6)) (.agg (Z6 x8 t9 a9 b1 b0))) w' = .ok (.bool b2) w') ∧
 brB b2 (
 ∀ b3, Adv [] [] w b3 →
 R (.bool false) b3)
 (
 ∀ b4, Adv [] [] w b4 →
 KS (yE7 a2 n0 n1 a3 n2 n3 i0 I m) (yt1 a2 n0 n1 a3 n2 n3 i0 (IntKind.wrap .i64 (a0 + 1))) b4))
 (
 R (.bool true) w)) :
 yaJ ywY (yIH 396 [0, 0, 1, 0, 1, 1]) (yII [1, 1, 0, 1, 0] [] R) (yt1 a2 n0 n1 a3 n2 n3 i0 i1) w0 :=
 lrule (yt1 a2 n0 n1 a3 n2 n3 i0) (U1 I) h0 (by rintro m a0 w h; exact ⟨by kernel_rfl, by kernel_rfl, fun js => Eq.mpr (by kernel_rfl) (hr m a0 w h)⟩)
theorem yIj (h :
 brB ((n0 : Int) != (n2 : Int)) (
 R (.bool false) w)
 (
 yaJ ywY (yIH 396 [0, 0, 1, 0, 1, 1]) (yII [1, 1, 0, 1, 0] [] R) (yt1 q0 n0 n1 q1 n2 n3 (n0 : Int) 0) w)) :
 CR pP 73 #[.slice q0 n0 n1, .slice q1 n2 n3] w R :=
 yaA Tryz.wide_mixed (an := yA9) Tryz.func73 rfl rfl (by kernel_rfl) rfl (Eq.mpr (by kernel_rfl) h)
def yp5 : LA := ⟨[0, 0, 1, 0, 1, 1], [0, 1, 12, 13], [], 0, []⟩
def yr0 : List LA := [yp5]
abbrev yE8 := dnF pP yr0 (code Tryz.f74)
abbrev yI2 := yaO pP yr0 (code Tryz.f74)
abbrev yE9 (p : List Nat) (K : List Kh) (R : VWP) := yaO pP yr0 (code Tryz.f74) p K (ya4 pP Tryz.f74 [] R)
def ykF (a2 : OA) (a6 a4 : Nat) (a3 : OA) (a7 a5 : Nat) (a0 : Int) : Int → List Value × List TB := fun a1 => ([.slice a2 a6 a4, .slice a3 a7 a5, .int .i64 a0, .int .i64 a1], [])
abbrev yB3 (a1 : OA) (a5 a3 : Nat) (a2 : OA) (a6 a4 : Nat) (a0 : Int) (I : Nat → Int → World → Prop) (m : Nat) : Kh := KG (ykF a1 a5 a3 a2 a6 a4 a0) (U1 I) m
theorem ywZ {I : Nat → Int → World → Prop} (m' : Nat) (h1 : m' < m) (h2 : I m' i1 w) : KS (yB3 q0 n0 n1 q1 n2 n3 i0 I m) (ykF q0 n0 n1 q1 n2 n3 i0 i1) w := ⟨m', h1, _, rfl, rfl, h2⟩
theorem yw0 {a2 : OA} {a3 : OA} (I : Nat → Int → World → Prop) (m0 : Nat) (h0 : I m0 i1 w0)
 (hr : ∀ m a0 w, I m a0 w →
 brB (decide (a0 < i0)) (
 ixA a2 n0 a0 2 fun q1 =>
 yaP w q1 fun s2 => yaF .i64 w (Addr.add q1 1) fun x3 =>
 ixA a3 n2 a0 2 fun q4 =>
 yaP w q4 fun s5 => yaF .i64 w (Addr.add q4 1) fun x6 =>
 ∃ t7, (∀ w', Mod [] w w' → Sem.run pP (do eqGuard .neq 43 (.tmp 19) (.tmp 23) (.agg #[.string s2, .int .i64 x3]) (.agg #[.string s5, .int .i64 x6]); Go.binOp .neq 43 (.agg #[.string s2, .int .i64 x3]) (.agg #[.string s5, .int .i64 x6])) w' = .ok (.bool t7) w') ∧
 brB t7 (
 ∀ w8, Adv [] [] w w8 →
 R (.bool false) w8)
 (
 ∀ w9, Adv [] [] w w9 →
 KS (yB3 a2 n0 n1 a3 n2 n3 i0 I m) (ykF a2 n0 n1 a3 n2 n3 i0 (IntKind.wrap .i64 (a0 + 1))) w9))
 (
 R (.bool true) w)) :
 yaJ yp5 (yE8 396 [0, 0, 1, 0, 1, 1]) (yE9 [1, 1, 0, 1, 0] [] R) (ykF a2 n0 n1 a3 n2 n3 i0 i1) w0 :=
 lrule (ykF a2 n0 n1 a3 n2 n3 i0) (U1 I) h0 (by rintro m a0 w h; exact ⟨by kernel_rfl, by kernel_rfl, fun js => Eq.mpr (by kernel_rfl) (hr m a0 w h)⟩)
theorem yFa (h :
 brB ((n0 : Int) != (n2 : Int)) (
 R (.bool false) w)
 (
 yaJ yp5 (yE8 396 [0, 0, 1, 0, 1, 1]) (yE9 [1, 1, 0, 1, 0] [] R) (ykF q0 n0 n1 q1 n2 n3 (n0 : Int) 0) w)) :
 CR pP 74 #[.slice q0 n0 n1, .slice q1 n2 n3] w R :=
 yaA Tryz.wide_mixed (an := yr0) Tryz.func74 rfl rfl (by kernel_rfl) rfl (Eq.mpr (by kernel_rfl) h)
theorem yFb (h :
 ∀ b1, w.heap.size ≤ b1 →
 ∀ b2, w.heap.size ≤ b2 →
 brB (i0 == i4) (
 brB (i1 == i5) (
 brB (i2 == i6) (
 brB (i3 == i7) (
 ∀ w3, Adv [] [b2, b1] w w3 →
 Calls pP 73 #[.slice q0 n0 n1, .slice q2 n4 n5] w3 fun e w4 => ∃ t5, e = .returned (.bool t5) ∧ yaI [b1, b2] w3 w4 ∧
 brB t5 (
 Calls pP 74 #[.slice q1 n2 n3, .slice q3 n6 n7] w4 fun e w6 => ∃ t7, e = .returned (.bool t7) ∧ yaI [b1, b2] w4 w6 ∧
 R (.bool t7) w6)
 (
 R (.bool false) w4))
 (
 ∀ w8, Adv [] [b2, b1] w w8 →
 R (.bool false) w8))
 (
 ∀ w9, Adv [] [b2, b1] w w9 →
 R (.bool false) w9))
 (
 ∀ c2, Adv [] [b2, b1] w c2 →
 R (.bool false) c2))
 (
 ∀ c3, Adv [] [b2, b1] w c3 →
 R (.bool false) c3)) :
 CR pP 38 #[(.agg (Z3 i0 i1 i2 i3 q0 n0 n1 q1 n2 n3)), (.agg (Z3 i4 i5 i6 i7 q2 n4 n5 q3 n6 n7))] w R :=
 yaA Tryz.wide_mixed (an := []) Tryz.func38 rfl rfl (by kernel_rfl) rfl (Eq.mpr (by kernel_rfl) h)
theorem yFc {a2 a1 : Nat} (h :
 brB (Option.isNone q0) (
 R (.slice none 0 0) w)
 (
 al w (.cells #[] 55) fun b1 w2 =>
 ycN pP (Builtin.append_ #[24, 24] 24 #[(.slice (some ⟨b1, 0, none⟩) 0 0), .slice q0 a2 a1]) w2 fun a4 n5 c6 w3 =>
 R (.slice a4 n5 c6) w3)) :
 CR pP 50 #[.slice q0 a2 a1] w R :=
 yaA Tryz.wide_mixed (an := []) Tryz.func50 rfl rfl (by kernel_rfl) rfl (Eq.mpr (by kernel_rfl) h)
theorem yFd {a2 a1 : Nat} (h :
 brB (Option.isNone q0) (
 R (.slice none 0 0) w)
 (
 al w (.cells #[] 43) fun b1 w2 =>
 ycN pP (Builtin.append_ #[25, 25] 25 #[(.slice (some ⟨b1, 0, none⟩) 0 0), .slice q0 a2 a1]) w2 fun a4 n5 c6 w3 =>
 R (.slice a4 n5 c6) w3)) :
 CR pP 51 #[.slice q0 a2 a1] w R :=
 yaA Tryz.wide_mixed (an := []) Tryz.func51 rfl rfl (by kernel_rfl) rfl (Eq.mpr (by kernel_rfl) h)
theorem yFe {a0 : BA} (h :
 brB (!(a0.toList == (⟨#[]⟩ : BA).toList)) (
 brB (decide ((a0.size : Int) ≤ 16)) (
 Calls pP 120 #[.string a0, (.func (.func 119) #[] #[])] w fun e w1 => ∃ t2, e = .returned (.bool t2) ∧
 R (.bool (!t2)) w1)
 (
 R (.bool false) w))
 (
 R (.bool false) w)) :
 CR pP 96 #[.string a0] w R :=
 yaA Tryz.wide_mixed (an := []) Tryz.func96 rfl rfl (by kernel_rfl) rfl (Eq.mpr (by kernel_rfl) h)
theorem yFf (h :
 brB (decide (i0 < 97)) (
 brB (decide (i0 < 48)) (
 R (.bool (i0 != 45)) w)
 (
 brB (decide (i0 > 57)) (
 R (.bool (i0 != 45)) w)
 (
 R (.bool false) w)))
 (
 brB (decide (i0 > 122)) (
 brB (decide (i0 < 48)) (
 R (.bool (i0 != 45)) w)
 (
 brB (decide (i0 > 57)) (
 R (.bool (i0 != 45)) w)
 (
 R (.bool false) w)))
 (
 R (.bool false) w))) :
 CR pP 119 #[.int .i32 i0] w R :=
 yaA Tryz.wide_mixed (an := []) Tryz.func119 rfl rfl (by kernel_rfl) rfl (Eq.mpr (by kernel_rfl) h)
def ygT : LA := ⟨[1, 1], [1, 3], [(1, 0, 0)], 1, []⟩
def yp6 : LA := ⟨[0, 0, 1, 0, 1, 1, 1], [1, 3, 4, 28, 29, 30], [(1, 0, 0)], 1, []⟩
def ymA : LA := ⟨[0, 0, 1, 0, 1, 1, 1, 1], [1, 3, 4, 49, 50, 51], [(1, 0, 0)], 1, []⟩
def yr1 : List LA := [ygT, yp6, ymA]
abbrev yj4 := dnF pP yr1 (code Tryz.f57)
abbrev yIk := yaO pP yr1 (code Tryz.f57)
abbrev ymB (p : List Nat) (K : List Kh) (R : VWP) := yaO pP yr1 (code Tryz.f57) p K (ya4 pP Tryz.f57 [] R)
def ykG : Bool × Nat × Int × Int × Int × Int × (Option Addr) × Nat × Nat × (Option Addr) × Nat × Nat → List Value × List TB := fun (b0, bm0, a6, a7, a8, a9, a0, a4, a2, a1, a5, a3) => ([(.pointer (some ⟨bm0, 0, none⟩)), .bool b0], [⟨bm0, 27, [.int .i64 a6, .int .i64 a7, .int .i64 a8, .int .i64 a9, .slice a0 a4 a2, .slice a1 a5 a3], false⟩])
def ygB (b0 : OA) (b2 b1 : Nat) (b3 : Int) (bm0 : Nat) (a6 a7 a8 a9 : Int) (a0 : OA) (a4 a2 : Nat) (a1 : OA) (a5 a3 : Nat) : Bool × Bool × Int → List Value × List TB := fun (b5, b6, b4) => ([(.pointer (some ⟨bm0, 0, none⟩)), .bool b5, .bool b6, .slice b0 b2 b1, .int .i64 b3, .int .i64 b4], [⟨bm0, 27, [.int .i64 a6, .int .i64 a7, .int .i64 a8, .int .i64 a9, .slice a0 a4 a2, .slice a1 a5 a3], false⟩])
def yfE (b0 : OA) (b2 b1 : Nat) (b3 : Int) (bm0 : Nat) (a6 a7 a8 a9 : Int) (a0 : OA) (a4 a2 : Nat) (a1 : OA) (a5 a3 : Nat) : Bool × Bool × Int → List Value × List TB := fun (b5, b6, b4) => ([(.pointer (some ⟨bm0, 0, none⟩)), .bool b5, .bool b6, .slice b0 b2 b1, .int .i64 b3, .int .i64 b4], [⟨bm0, 27, [.int .i64 a6, .int .i64 a7, .int .i64 a8, .int .i64 a9, .slice a0 a4 a2, .slice a1 a5 a3], false⟩])
def yB4 (b0 : Bool) (bm0 : Nat) (a6 a7 a8 a9 : Int) (a1 : OA) (a0 a2 : Nat) (a3 : OA) (a5 a4 : Nat) (R : VWP) (w : World) : Prop :=
 yaJ yp6 (yj4 395 [0, 0, 1, 0, 1, 1, 1]) (ymB [1, 1, 1, 0, 1, 0] [] R) (ygB a1 a0 a2 (a0 : Int) bm0 a6 a7 a8 a9 a1 a0 a2 a3 a5 a4 (b0, false, 0)) w
theorem yh3 (J : Bool → Nat → Int → Int → Int → Int → Option Addr → Nat → Nat → Option Addr → Nat → Nat → World → Prop) (h0 : J B0 n0 i0 i1 i2 i3 q0 n1 n2 q1 n3 n4 w0)
 (hr : ∀ c0 bm0 a6 a7 a8 a9 a0 a4 a2 a1 a5 a3 w, J c0 bm0 a6 a7 a8 a9 a0 a4 a2 a1 a5 a3 w → yB4 c0 bm0 a6 a7 a8 a9 a0 a4 a2 a1 a5 a3 R w) :
 yiX ygT ((yj4 398 [1, 1]) (ymB [1] [] R)) (ykG (B0, n0, i0, i1, i2, i3, q0, n1, n2, q1, n3, n4)) w0 :=
 crule (ykG) (V12 J) h0 (by rintro ⟨c0, bm0, a6, a7, a8, a9, a0, a4, a2, a1, a5, a3⟩ w h; exact ⟨by kernel_rfl, by kernel_rfl, fun js => Eq.mpr (by kernel_rfl) (hr c0 bm0 a6 a7 a8 a9 a0 a4 a2 a1 a5 a3 w h)⟩)
abbrev yoR (b0 : OA) (b2 b1 : Nat) (b3 : Int) (bm0 : Nat) (a6 a7 a8 a9 : Int) (a0 : OA) (a4 a2 : Nat) (a1 : OA) (a5 a3 : Nat) (I : Nat → Bool → Bool → Int → World → Prop) (m : Nat) : Kh := KG (ygB b0 b2 b1 b3 bm0 a6 a7 a8 a9 a0 a4 a2 a1 a5 a3) (U3 I) m
theorem ygC {I : Nat → Bool → Bool → Int → World → Prop} (m' : Nat) (h1 : m' < m) (h2 : I m' B0 B1 i5 w) : KS (yoR q0 n0 n1 i0 n2 i1 i2 i3 i4 q1 n3 n4 q2 n5 n6 I m) (ygB q0 n0 n1 i0 n2 i1 i2 i3 i4 q1 n3 n4 q2 n5 n6 (B0, B1, i5)) w := ⟨m', h1, _, rfl, rfl, h2⟩
theorem yw1 (I : Nat → Bool → Bool → Int → World → Prop) (m0 : Nat) (h0 : I m0 B0 B1 i5 w0)
 (hr : ∀ m b8 b6 b4 w, I m b8 b6 b4 w →
 brB (decide (b4 < i0)) (
 ixA q0 n0 b4 5 fun b7 =>
 yaF .i64 w b7 fun d5 => yaU w (Addr.add b7 1) fun c8 => yaP w (Addr.add b7 2) fun c6 => yaU w (Addr.add b7 3) fun c9 => yaP w (Addr.add b7 4) fun c7 =>
 ∀ b5, w.heap.size ≤ b5 →
 brB b8 (
 ∀ c4, Adv [] [b5] w c4 →
 Calls pP 94 #[.int .i64 d5] c4 fun e b9 => ∃ c1, e = .returned (.bool c1) ∧ yaI [n2, b5] c4 b9 ∧
 brB b6 (
 KS (yoR q0 n0 n1 i0 n2 i1 i2 i3 i4 q1 n3 n4 q2 n5 n6 I m) (ygB q0 n0 n1 i0 n2 i1 i2 i3 i4 q1 n3 n4 q2 n5 n6 (c1, true, (IntKind.wrap .i64 (b4 + 1)))) b9)
 (
 Calls pP 95 #[(.agg (Z7 c8 c6 c9 c7))] b9 fun e d0 => ∃ d3, e = .returned (.int .i64 d3) ∧ yaI [n2, b5] b9 d0 ∧
 KS (yoR q0 n0 n1 i0 n2 i1 i2 i3 i4 q1 n3 n4 q2 n5 n6 I m) (ygB q0 n0 n1 i0 n2 i1 i2 i3 i4 q1 n3 n4 q2 n5 n6 (c1, (d3 != 0), (IntKind.wrap .i64 (b4 + 1)))) d0))
 (
 brB b6 (
 ∀ d1, Adv [] [b5] w d1 →
 KS (yoR q0 n0 n1 i0 n2 i1 i2 i3 i4 q1 n3 n4 q2 n5 n6 I m) (ygB q0 n0 n1 i0 n2 i1 i2 i3 i4 q1 n3 n4 q2 n5 n6 (false, true, (IntKind.wrap .i64 (b4 + 1)))) d1)
 (
 ∀ c5, Adv [] [b5] w c5 →
 Calls pP 95 #[(.agg (Z7 c8 c6 c9 c7))] c5 fun e d2 => ∃ d4, e = .returned (.int .i64 d4) ∧ yaI [n2, b5] c5 d2 ∧
 KS (yoR q0 n0 n1 i0 n2 i1 i2 i3 i4 q1 n3 n4 q2 n5 n6 I m) (ygB q0 n0 n1 i0 n2 i1 i2 i3 i4 q1 n3 n4 q2 n5 n6 (false, (d4 != 0), (IntKind.wrap .i64 (b4 + 1)))) d2)))
 (
 yaJ ymA (yj4 394 [0, 0, 1, 0, 1, 1, 1, 1]) (ymB [1, 1, 1, 1, 0, 1, 0] [] R) (yfE q2 n5 n6 (n5 : Int) n2 i1 i2 i3 i4 q1 n3 n4 q2 n5 n6 (b8, b6, 0)) w)) :
 yaJ yp6 (yj4 395 [0, 0, 1, 0, 1, 1, 1]) (ymB [1, 1, 1, 0, 1, 0] [] R) (ygB q0 n0 n1 i0 n2 i1 i2 i3 i4 q1 n3 n4 q2 n5 n6 (B0, B1, i5)) w0 :=
 lrule (ygB q0 n0 n1 i0 n2 i1 i2 i3 i4 q1 n3 n4 q2 n5 n6) (U3 I) h0 (by rintro m ⟨b8, b6, b4⟩ w h; exact ⟨by kernel_rfl, by kernel_rfl, fun js => Eq.mpr (by kernel_rfl) (hr m b8 b6 b4 w h)⟩)
abbrev yoS (b0 : OA) (b2 b1 : Nat) (b3 : Int) (bm0 : Nat) (a6 a7 a8 a9 : Int) (a0 : OA) (a4 a2 : Nat) (a1 : OA) (a5 a3 : Nat) (I : Nat → Bool → Bool → Int → World → Prop) (m : Nat) : Kh := KG (yfE b0 b2 b1 b3 bm0 a6 a7 a8 a9 a0 a4 a2 a1 a5 a3) (U3 I) m
theorem ygD {I : Nat → Bool → Bool → Int → World → Prop} (m' : Nat) (h1 : m' < m) (h2 : I m' B0 B1 i5 w) : KS (yoS q0 n0 n1 i0 n2 i1 i2 i3 i4 q1 n3 n4 q2 n5 n6 I m) (yfE q0 n0 n1 i0 n2 i1 i2 i3 i4 q1 n3 n4 q2 n5 n6 (B0, B1, i5)) w := ⟨m', h1, _, rfl, rfl, h2⟩
theorem yw2 (I : Nat → Bool → Bool → Int → World → Prop) (m0 : Nat) (h0 : I m0 B0 B1 i5 w0)
 (hr : ∀ m b7 b6 b4 w, I m b7 b6 b4 w →
 brB (decide (b4 < i0)) (
 ixA q0 n0 b4 2 fun c5 =>
 yaP w c5 fun c6 => yaF .i64 w (Addr.add c5 1) fun d2 =>
 ∀ b5, w.heap.size ≤ b5 →
 brB b7 (
 ∀ c3, Adv [] [b5] w c3 →
 Calls pP 94 #[.int .i64 d2] c3 fun e b8 => ∃ c0, e = .returned (.bool c0) ∧ yaI [n2, b5] c3 b8 ∧
 brB b6 (
 KS (yoS q0 n0 n1 i0 n2 i1 i2 i3 i4 q1 n3 n4 q2 n5 n6 I m) (yfE q0 n0 n1 i0 n2 i1 i2 i3 i4 q1 n3 n4 q2 n5 n6 (c0, true, (IntKind.wrap .i64 (b4 + 1)))) b8)
 (
 Calls pP 96 #[.string c6] b8 fun e c9 => ∃ c7, e = .returned (.bool c7) ∧ yaI [n2, b5] b8 c9 ∧
 KS (yoS q0 n0 n1 i0 n2 i1 i2 i3 i4 q1 n3 n4 q2 n5 n6 I m) (yfE q0 n0 n1 i0 n2 i1 i2 i3 i4 q1 n3 n4 q2 n5 n6 (c0, (!c7), (IntKind.wrap .i64 (b4 + 1)))) c9))
 (
 brB b6 (
 ∀ d0, Adv [] [b5] w d0 →
 KS (yoS q0 n0 n1 i0 n2 i1 i2 i3 i4 q1 n3 n4 q2 n5 n6 I m) (yfE q0 n0 n1 i0 n2 i1 i2 i3 i4 q1 n3 n4 q2 n5 n6 (false, true, (IntKind.wrap .i64 (b4 + 1)))) d0)
 (
 ∀ c4, Adv [] [b5] w c4 →
 Calls pP 96 #[.string c6] c4 fun e d1 => ∃ c8, e = .returned (.bool c8) ∧ yaI [n2, b5] c4 d1 ∧
 KS (yoS q0 n0 n1 i0 n2 i1 i2 i3 i4 q1 n3 n4 q2 n5 n6 I m) (yfE q0 n0 n1 i0 n2 i1 i2 i3 i4 q1 n3 n4 q2 n5 n6 (false, (!c8), (IntKind.wrap .i64 (b4 + 1)))) d1)))
 (
 brB (!b7) (
 R (.int .i64 1) w)
 (
 brB (decide ((n3 : Int) > 64)) (
 R (.int .i64 2) w)
 (
 brB (decide ((n5 : Int) > 64)) (
 R (.int .i64 2) w)
 (
 brB b6 (
 R (.int .i64 40) w)
 (
 R (.int .i64 0) w)))))) :
 yaJ ymA (yj4 394 [0, 0, 1, 0, 1, 1, 1, 1]) (ymB [1, 1, 1, 1, 0, 1, 0] [] R) (yfE q0 n0 n1 i0 n2 i1 i2 i3 i4 q1 n3 n4 q2 n5 n6 (B0, B1, i5)) w0 :=
 lrule (yfE q0 n0 n1 i0 n2 i1 i2 i3 i4 q1 n3 n4 q2 n5 n6) (U3 I) h0 (by rintro m ⟨b7, b6, b4⟩ w h; exact ⟨by kernel_rfl, by kernel_rfl, fun js => Eq.mpr (by kernel_rfl) (hr m b7 b6 b4 w h)⟩)
theorem yFg (h :
 ∀ b1, w.heap.size ≤ b1 →
 ∀ w2, Adv [] [b1] w w2 →
 Calls pP 94 #[.int .i64 i0] w2 fun e w3 => ∃ t4, e = .returned (.bool t4) ∧ yaI [b1] w2 w3 ∧
 brB t4 (
 Calls pP 94 #[.int .i64 i1] w3 fun e w5 => ∃ t6, e = .returned (.bool t6) ∧ yaI [b1] w3 w5 ∧
 brB t6 (
 Calls pP 94 #[.int .i64 i2] w5 fun e w7 => ∃ t8, e = .returned (.bool t8) ∧ yaI [b1] w5 w7 ∧
 brB t8 (
 Calls pP 94 #[.int .i64 i3] w7 fun e w9 => ∃ b0, e = .returned (.bool b0) ∧ yaI [b1] w7 w9 ∧
 yiX ygT ((yj4 398 [1, 1]) (ymB [1] [] R)) (ykG (b0, b1, i0, i1, i2, i3, q0, n0, n1, q1, n2, n3)) w9)
 (
 yiX ygT ((yj4 398 [1, 1]) (ymB [1] [] R)) (ykG (false, b1, i0, i1, i2, i3, q0, n0, n1, q1, n2, n3)) w7))
 (
 yiX ygT ((yj4 398 [1, 1]) (ymB [1] [] R)) (ykG (false, b1, i0, i1, i2, i3, q0, n0, n1, q1, n2, n3)) w5))
 (
 yiX ygT ((yj4 398 [1, 1]) (ymB [1] [] R)) (ykG (false, b1, i0, i1, i2, i3, q0, n0, n1, q1, n2, n3)) w3)) :
 CR pP 57 #[(.agg (Z3 i0 i1 i2 i3 q0 n0 n1 q1 n2 n3))] w R :=
 yaA Tryz.wide_mixed (an := yr1) Tryz.func57 rfl rfl (by kernel_rfl) rfl (Eq.mpr (by kernel_rfl) h)
def ygU : LA := ⟨[1, 1], [1, 3], [(1, 0, 0)], 1, []⟩
def yp7 : LA := ⟨[0, 0, 1, 0, 1, 1], [1, 3, 4], [(1, 0, 0)], 1, []⟩
def ymC : LA := ⟨[0, 0, 1, 0, 1, 1, 1], [1, 3, 5], [(1, 0, 0)], 1, []⟩
def yp8 : LA := ⟨[0, 0, 1, 0, 1, 1, 1, 1, 1, 1], [1, 6], [(1, 0, 0)], 1, []⟩
def ymD : LA := ⟨[0, 0, 1, 0, 1, 1, 1, 1, 1, 1, 1], [1, 7], [(1, 0, 0)], 1, []⟩
def yr2 : List LA := [ygU, yp7, ymC, yp8, ymD]
abbrev yfO := dnF pP yr2 (code Tryz.f65)
abbrev yFh := yaO pP yr2 (code Tryz.f65)
abbrev ygV (p : List Nat) (K : List Kh) (R : VWP) := yaO pP yr2 (code Tryz.f65) p K (ya4 pP Tryz.f65 [] R)
def ykH : Bool × Nat × Int × Int × Int × Int × (Option Addr) × Nat × Nat × (Option Addr) × Nat × Nat → List Value × List TB := fun (b0, bm0, a6, a7, a8, a9, a0, a4, a2, a1, a5, a3) => ([(.pointer (some ⟨bm0, 0, none⟩)), .bool b0], [⟨bm0, 27, [.int .i64 a6, .int .i64 a7, .int .i64 a8, .int .i64 a9, .slice a0 a4 a2, .slice a1 a5 a3], false⟩])
def yi2 (bm0 : Nat) (a6 a7 a8 a9 : Int) (a0 : OA) (a4 a2 : Nat) (a1 : OA) (a5 a3 : Nat) : Bool × Int → List Value × List TB := fun (b0, b1) => ([(.pointer (some ⟨bm0, 0, none⟩)), .bool b0, .int .i64 b1], [⟨bm0, 27, [.int .i64 a6, .int .i64 a7, .int .i64 a8, .int .i64 a9, .slice a0 a4 a2, .slice a1 a5 a3], false⟩])
def yhN (bm0 : Nat) (a6 a7 a8 a9 : Int) (a0 : OA) (a4 a2 : Nat) (a1 : OA) (a5 a3 : Nat) : Bool × Int → List Value × List TB := fun (b0, b1) => ([(.pointer (some ⟨bm0, 0, none⟩)), .bool b0, .int .i64 b1], [⟨bm0, 27, [.int .i64 a6, .int .i64 a7, .int .i64 a8, .int .i64 a9, .slice a0 a4 a2, .slice a1 a5 a3], false⟩])
def ykI (bm0 : Nat) (a6 a7 a8 a9 : Int) (a0 : OA) (a4 a2 : Nat) (a1 : OA) (a5 a3 : Nat) : Int → List Value × List TB := fun b0 => ([(.pointer (some ⟨bm0, 0, none⟩)), .int .i64 b0], [⟨bm0, 27, [.int .i64 a6, .int .i64 a7, .int .i64 a8, .int .i64 a9, .slice a0 a4 a2, .slice a1 a5 a3], false⟩])
def yi3 (bm0 : Nat) (a6 a7 a8 a9 : Int) (a0 : OA) (a4 a2 : Nat) (a1 : OA) (a5 a3 : Nat) : Int → List Value × List TB := fun b0 => ([(.pointer (some ⟨bm0, 0, none⟩)), .int .i64 b0], [⟨bm0, 27, [.int .i64 a6, .int .i64 a7, .int .i64 a8, .int .i64 a9, .slice a0 a4 a2, .slice a1 a5 a3], false⟩])
def yw3 (b0 : Bool) (bm0 : Nat) (a6 a7 a8 a9 : Int) (a0 : OA) (a4 a2 : Nat) (a1 : OA) (a5 a3 : Nat) (R : VWP) (w : World) : Prop :=
 yaJ yp7 (yfO 396 [0, 0, 1, 0, 1, 1]) (ygV [1, 1, 0, 1, 0] [] R) (yi2 bm0 a6 a7 a8 a9 a0 a4 a2 a1 a5 a3 (b0, 0)) w
theorem yh4 (J : Bool → Nat → Int → Int → Int → Int → Option Addr → Nat → Nat → Option Addr → Nat → Nat → World → Prop) (h0 : J B0 n0 i0 i1 i2 i3 q0 n1 n2 q1 n3 n4 w0)
 (hr : ∀ c0 bm0 a6 a7 a8 a9 a0 a4 a2 a1 a5 a3 w, J c0 bm0 a6 a7 a8 a9 a0 a4 a2 a1 a5 a3 w → yw3 c0 bm0 a6 a7 a8 a9 a0 a4 a2 a1 a5 a3 R w) :
 yiX ygU ((yfO 398 [1, 1]) (ygV [1] [] R)) (ykH (B0, n0, i0, i1, i2, i3, q0, n1, n2, q1, n3, n4)) w0 :=
 crule (ykH) (V12 J) h0 (by rintro ⟨c0, bm0, a6, a7, a8, a9, a0, a4, a2, a1, a5, a3⟩ w h; exact ⟨by kernel_rfl, by kernel_rfl, fun js => Eq.mpr (by kernel_rfl) (hr c0 bm0 a6 a7 a8 a9 a0 a4 a2 a1 a5 a3 w h)⟩)
abbrev yw4 (bm0 : Nat) (a6 a7 a8 a9 : Int) (a0 : OA) (a4 a2 : Nat) (a1 : OA) (a5 a3 : Nat) (I : Nat → Bool → Int → World → Prop) (m : Nat) : Kh := KG (yi2 bm0 a6 a7 a8 a9 a0 a4 a2 a1 a5 a3) (U2 I) m
theorem yoT {I : Nat → Bool → Int → World → Prop} (m' : Nat) (h1 : m' < m) (h2 : I m' B0 i4 w) : KS (yw4 n0 i0 i1 i2 i3 q0 n1 n2 q1 n3 n4 I m) (yi2 n0 i0 i1 i2 i3 q0 n1 n2 q1 n3 n4 (B0, i4)) w := ⟨m', h1, _, rfl, rfl, h2⟩
theorem yw5 (I : Nat → Bool → Int → World → Prop) (m0 : Nat) (h0 : I m0 B0 i4 w0)
 (hr : ∀ m b1 b0 w, I m b1 b0 w →
 brB (decide (b0 < (n1 : Int))) (
 brB b1 (
 ixA q0 n1 b0 5 fun b6 =>
 yaF .i64 w b6 fun b7 =>
 Calls pP 36 #[.int .i64 b7] w fun e b5 => ∃ b4, e = .returned (.bool b4) ∧ yaI [n0] w b5 ∧
 KS (yw4 n0 i0 i1 i2 i3 q0 n1 n2 q1 n3 n4 I m) (yi2 n0 i0 i1 i2 i3 q0 n1 n2 q1 n3 n4 (b4, (IntKind.wrap .i64 (b0 + 1)))) b5)
 (
 KS (yw4 n0 i0 i1 i2 i3 q0 n1 n2 q1 n3 n4 I m) (yi2 n0 i0 i1 i2 i3 q0 n1 n2 q1 n3 n4 (false, (IntKind.wrap .i64 (b0 + 1)))) w))
 (
 yaJ ymC (yfO 395 [0, 0, 1, 0, 1, 1, 1]) (ygV [1, 1, 1, 0, 1, 0] [] R) (yhN n0 i0 i1 i2 i3 q0 n1 n2 q1 n3 n4 (b1, 0)) w)) :
 yaJ yp7 (yfO 396 [0, 0, 1, 0, 1, 1]) (ygV [1, 1, 0, 1, 0] [] R) (yi2 n0 i0 i1 i2 i3 q0 n1 n2 q1 n3 n4 (B0, i4)) w0 :=
 lrule (yi2 n0 i0 i1 i2 i3 q0 n1 n2 q1 n3 n4) (U2 I) h0 (by rintro m ⟨b1, b0⟩ w h; exact ⟨by kernel_rfl, by kernel_rfl, fun js => Eq.mpr (by kernel_rfl) (hr m b1 b0 w h)⟩)
abbrev yw6 (bm0 : Nat) (a6 a7 a8 a9 : Int) (a0 : OA) (a4 a2 : Nat) (a1 : OA) (a5 a3 : Nat) (I : Nat → Bool → Int → World → Prop) (m : Nat) : Kh := KG (yhN bm0 a6 a7 a8 a9 a0 a4 a2 a1 a5 a3) (U2 I) m
theorem yoU {I : Nat → Bool → Int → World → Prop} (m' : Nat) (h1 : m' < m) (h2 : I m' B0 i4 w) : KS (yw6 n0 i0 i1 i2 i3 q0 n1 n2 q1 n3 n4 I m) (yhN n0 i0 i1 i2 i3 q0 n1 n2 q1 n3 n4 (B0, i4)) w := ⟨m', h1, _, rfl, rfl, h2⟩
theorem yw7 (I : Nat → Bool → Int → World → Prop) (m0 : Nat) (h0 : I m0 B0 i4 w0)
 (hr : ∀ m b1 b0 w, I m b1 b0 w →
 brB (decide (b0 < (n3 : Int))) (
 brB b1 (
 ixA q1 n3 b0 2 fun b6 =>
 yaF .i64 w (Addr.add b6 1) fun b7 =>
 Calls pP 36 #[.int .i64 b7] w fun e b5 => ∃ b4, e = .returned (.bool b4) ∧ yaI [n0] w b5 ∧
 KS (yw6 n0 i0 i1 i2 i3 q0 n1 n2 q1 n3 n4 I m) (yhN n0 i0 i1 i2 i3 q0 n1 n2 q1 n3 n4 (b4, (IntKind.wrap .i64 (b0 + 1)))) b5)
 (
 KS (yw6 n0 i0 i1 i2 i3 q0 n1 n2 q1 n3 n4 I m) (yhN n0 i0 i1 i2 i3 q0 n1 n2 q1 n3 n4 (false, (IntKind.wrap .i64 (b0 + 1)))) w))
 (
 brB (!b1) (
 R (.int .i64 1) w)
 (
 brB (decide ((n1 : Int) > 64)) (
 R (.int .i64 2) w)
 (
 brB (decide ((n3 : Int) > 64)) (
 R (.int .i64 2) w)
 (
 yaJ yp8 (yfO 392 [0, 0, 1, 0, 1, 1, 1, 1, 1, 1]) (ygV [1, 1, 1, 1, 1, 1, 0, 1, 0] [] R) (ykI n0 i0 i1 i2 i3 q0 n1 n2 q1 n3 n4 0) w))))) :
 yaJ ymC (yfO 395 [0, 0, 1, 0, 1, 1, 1]) (ygV [1, 1, 1, 0, 1, 0] [] R) (yhN n0 i0 i1 i2 i3 q0 n1 n2 q1 n3 n4 (B0, i4)) w0 :=
 lrule (yhN n0 i0 i1 i2 i3 q0 n1 n2 q1 n3 n4) (U2 I) h0 (by rintro m ⟨b1, b0⟩ w h; exact ⟨by kernel_rfl, by kernel_rfl, fun js => Eq.mpr (by kernel_rfl) (hr m b1 b0 w h)⟩)
abbrev yB5 (bm0 : Nat) (a6 a7 a8 a9 : Int) (a0 : OA) (a4 a2 : Nat) (a1 : OA) (a5 a3 : Nat) (I : Nat → Int → World → Prop) (m : Nat) : Kh := KG (ykI bm0 a6 a7 a8 a9 a0 a4 a2 a1 a5 a3) (U1 I) m
theorem yw8 {I : Nat → Int → World → Prop} (m' : Nat) (h1 : m' < m) (h2 : I m' i4 w) : KS (yB5 n0 i0 i1 i2 i3 q0 n1 n2 q1 n3 n4 I m) (ykI n0 i0 i1 i2 i3 q0 n1 n2 q1 n3 n4 i4) w := ⟨m', h1, _, rfl, rfl, h2⟩
theorem yw9 (I : Nat → Int → World → Prop) (m0 : Nat) (h0 : I m0 i4 w0)
 (hr : ∀ m b0 w, I m b0 w →
 brB (decide (b0 < (n1 : Int))) (
 ixA q0 n1 b0 5 fun b1 =>
 yaU w (Addr.add b1 1) fun b7 => yaP w (Addr.add (Addr.add b1 1) 1) fun b5 => yaU w (Addr.add (Addr.add b1 1) 2) fun b8 => yaP w (Addr.add (Addr.add b1 1) 3) fun b6 =>
 Calls pP 103 #[(.agg (Z7 b7 b5 b8 b6))] w fun e b2 => ∃ b4, e = .returned (.int .i64 b4) ∧ yaI [n0] w b2 ∧
 brB (b4 != 0) (
 R (.int .i64 40) b2)
 (
 KS (yB5 n0 i0 i1 i2 i3 q0 n1 n2 q1 n3 n4 I m) (ykI n0 i0 i1 i2 i3 q0 n1 n2 q1 n3 n4 (IntKind.wrap .i64 (b0 + 1))) b2))
 (
 yaJ ymD (yfO 391 [0, 0, 1, 0, 1, 1, 1, 1, 1, 1, 1]) (ygV [1, 1, 1, 1, 1, 1, 1, 0, 1, 0] [] R) (yi3 n0 i0 i1 i2 i3 q0 n1 n2 q1 n3 n4 0) w)) :
 yaJ yp8 (yfO 392 [0, 0, 1, 0, 1, 1, 1, 1, 1, 1]) (ygV [1, 1, 1, 1, 1, 1, 0, 1, 0] [] R) (ykI n0 i0 i1 i2 i3 q0 n1 n2 q1 n3 n4 i4) w0 :=
 lrule (ykI n0 i0 i1 i2 i3 q0 n1 n2 q1 n3 n4) (U1 I) h0 (by rintro m b0 w h; exact ⟨by kernel_rfl, by kernel_rfl, fun js => Eq.mpr (by kernel_rfl) (hr m b0 w h)⟩)
abbrev yB6 (bm0 : Nat) (a6 a7 a8 a9 : Int) (a0 : OA) (a4 a2 : Nat) (a1 : OA) (a5 a3 : Nat) (I : Nat → Int → World → Prop) (m : Nat) : Kh := KG (yi3 bm0 a6 a7 a8 a9 a0 a4 a2 a1 a5 a3) (U1 I) m
theorem yxA {I : Nat → Int → World → Prop} (m' : Nat) (h1 : m' < m) (h2 : I m' i4 w) : KS (yB6 n0 i0 i1 i2 i3 q0 n1 n2 q1 n3 n4 I m) (yi3 n0 i0 i1 i2 i3 q0 n1 n2 q1 n3 n4 i4) w := ⟨m', h1, _, rfl, rfl, h2⟩
theorem yxB (I : Nat → Int → World → Prop) (m0 : Nat) (h0 : I m0 i4 w0)
 (hr : ∀ m b0 w, I m b0 w →
 brB (decide (b0 < (n3 : Int))) (
 ixA q1 n3 b0 2 fun b4 =>
 yaP w b4 fun b5 =>
 Calls pP 104 #[.string b5] w fun e b1 => ∃ b3, e = .returned (.bool b3) ∧ yaI [n0] w b1 ∧
 brB (!b3) (
 R (.int .i64 40) b1)
 (
 KS (yB6 n0 i0 i1 i2 i3 q0 n1 n2 q1 n3 n4 I m) (yi3 n0 i0 i1 i2 i3 q0 n1 n2 q1 n3 n4 (IntKind.wrap .i64 (b0 + 1))) b1))
 (
 R (.int .i64 0) w)) :
 yaJ ymD (yfO 391 [0, 0, 1, 0, 1, 1, 1, 1, 1, 1, 1]) (ygV [1, 1, 1, 1, 1, 1, 1, 0, 1, 0] [] R) (yi3 n0 i0 i1 i2 i3 q0 n1 n2 q1 n3 n4 i4) w0 :=
 lrule (yi3 n0 i0 i1 i2 i3 q0 n1 n2 q1 n3 n4) (U1 I) h0 (by rintro m b0 w h; exact ⟨by kernel_rfl, by kernel_rfl, fun js => Eq.mpr (by kernel_rfl) (hr m b0 w h)⟩)
theorem yFi (h :
 ∀ b1, w.heap.size ≤ b1 →
 ∀ w2, Adv [] [b1] w w2 →
 Calls pP 36 #[.int .i64 i0] w2 fun e w3 => ∃ t4, e = .returned (.bool t4) ∧ yaI [b1] w2 w3 ∧
 brB t4 (
 Calls pP 36 #[.int .i64 i1] w3 fun e w5 => ∃ t6, e = .returned (.bool t6) ∧ yaI [b1] w3 w5 ∧
 brB t6 (
 Calls pP 36 #[.int .i64 i2] w5 fun e w7 => ∃ t8, e = .returned (.bool t8) ∧ yaI [b1] w5 w7 ∧
 brB t8 (
 Calls pP 36 #[.int .i64 i3] w7 fun e w9 => ∃ b0, e = .returned (.bool b0) ∧ yaI [b1] w7 w9 ∧
 yiX ygU ((yfO 398 [1, 1]) (ygV [1] [] R)) (ykH (b0, b1, i0, i1, i2, i3, q0, n0, n1, q1, n2, n3)) w9)
 (
 yiX ygU ((yfO 398 [1, 1]) (ygV [1] [] R)) (ykH (false, b1, i0, i1, i2, i3, q0, n0, n1, q1, n2, n3)) w7))
 (
 yiX ygU ((yfO 398 [1, 1]) (ygV [1] [] R)) (ykH (false, b1, i0, i1, i2, i3, q0, n0, n1, q1, n2, n3)) w5))
 (
 yiX ygU ((yfO 398 [1, 1]) (ygV [1] [] R)) (ykH (false, b1, i0, i1, i2, i3, q0, n0, n1, q1, n2, n3)) w3)) :
 CR pP 65 #[(.agg (Z3 i0 i1 i2 i3 q0 n0 n1 q1 n2 n3))] w R :=
 yaA Tryz.wide_mixed (an := yr2) Tryz.func65 rfl rfl (by kernel_rfl) rfl (Eq.mpr (by kernel_rfl) h)
end
def num (n : Int) : Bool := decide (0 ≤ n ∧ n ≤ 1099511627776)
theorem ycI (n : Int) (w : World) : Calls pP 94 #[.int .i64 n] w fun e w' => e = .returned (.bool (num n)) ∧ w' = w :=
 yaQ (yIa (yaC (fun h => ⟨by simp [num]; omega, rfl⟩) (fun h => ⟨by simp [num]; omega, rfl⟩)))
theorem yfP (n : Int) (w : World) : Calls pP 36 #[.int .i64 n] w fun e w' => e = .returned (.bool (num n)) ∧ w' = w :=
 yaQ (yId (yaC (fun h => ⟨by simp [num]; omega, rfl⟩) (fun h => ⟨by simp [num]; omega, rfl⟩)))
def yEH (hk tomb : Bool) (k v : Nat) : Int :=
 if (!hk && decide (k ≠ 0)) || (tomb && (!hk || decide (v ≠ 0))) then 30 else if k > 64 ∨ v > 512 then 2 else 0
def ygE (r : PRec) : Int := yEH r.hk r.tomb r.key.size r.val.size
theorem yeD (r : PRec) (w : World) : Calls pP 95 #[r.v] w fun e w' => e = .returned (.int .i64 (ygE r)) ∧ Mod [] w w' := by
 obtain ⟨hk, key, tomb, val⟩ := r
 refine yaQ (yIb ?_)
 intro b1 f1
 have e1 : (!(key.toList == (⟨#[]⟩ : ByteArray).toList)) = decide (key.size ≠ 0) := by rw [yf9]; simp [yl9]
 have e2 : (!(val.toList == (⟨#[]⟩ : ByteArray).toList)) = decide (val.size ≠ 0) := by rw [yf9]; simp [yl9]
 rw [e1, e2]
 clear e1 e2
 unfold ygE
 generalize key.size = k
 generalize val.size = v
 repeat' (first | refine yaB (fun _ => ?_) (fun _ => ?_) | (intro w' A))
 all_goals
  refine ⟨congrArg (Value.int .i64) ?_, Adv.mod (by assumption)⟩
  unfold yEH
  cases hk <;> cases tomb <;> simp at * <;> (repeat' split) <;> omega
theorem yp9 (r : PRec) (w : World) : Calls pP 103 #[r.v] w fun e w' => e = .returned (.int .i64 (ygE r)) ∧ Mod [] w w' := by
 obtain ⟨hk, key, tomb, val⟩ := r
 refine yaQ (yIe ?_)
 intro b1 f1
 unfold ygE
 generalize key.size = k
 generalize val.size = v
 repeat' (first | refine yaB (fun _ => ?_) (fun _ => ?_) | (intro w' A))
 all_goals
  refine ⟨congrArg (Value.int .i64) ?_, Adv.mod (by assumption)⟩
  unfold yEH
  cases hk <;> cases tomb <;> simp at * <;> (repeat' split) <;> omega
def okC (c : Int) : Bool := decide (97 ≤ c ∧ c ≤ 122) || decide (48 ≤ c ∧ c ≤ 57) || decide (c = 45)
def ybU (s : ByteArray) : Bool := decide (1 ≤ s.size ∧ s.size ≤ 16) && s.data.toList.all fun b => okC b.toNat
theorem ydX {s : ByteArray} {k : Nat} (h : k < s.size) : ∃ b : UInt8, s.data.toList[k]? = some b ∧ yn8 s k = b.toNat := by
 have h' : k < s.data.toList.length := by simpa using h
 exact ⟨s.data.toList[k], List.getElem?_eq_getElem h', by rw [yn8, List.getD_eq_getElem?_getD, List.getElem?_eq_getElem h']; rfl⟩
theorem yBc (s : ByteArray) (w : World) : Calls pP 104 #[.string s] w fun e w' => e = .returned (.bool (ybU s)) ∧ w' = w := by
  refine yaQ (yIf ?_)
  refine yaC (fun h => ⟨by simp [ybU]; omega, rfl⟩) fun g1 => ?_
  refine yaC (fun h => ⟨by simp [ybU]; omega, rfl⟩) fun g2 => ?_
  refine yA2 (fun mm x w' => ∃ k : Nat, x = k ∧ k ≤ s.size ∧ ((s.data.toList.take k).all fun b => okC b.toNat) = true ∧ w' = w ∧ mm = s.size - k) s.size ⟨0, rfl, by omega, by simp, rfl, rfl⟩ ?_
  rintro mm x w' ⟨k, rfl, hk, ha, rfl, rfl⟩
  refine yaC (fun hlt => ?_) fun hge => ?_
  · have hk' : k < s.size := by omega
    obtain ⟨b, hb, hv⟩ := ydX hk'
    refine ⟨by omega, by omega, ?_⟩
    rw [Int.toNat_natCast, hv]
    have bad : okC b.toNat = false → ybU s = false := fun h => by
      have : (s.data.toList.all fun b => okC b.toNat) = false := by
        rw [List.all_eq_false]
        exact ⟨b, List.mem_of_getElem? hb, by simp [h]⟩
      simp only [ybU, this, Bool.and_false]
    have good : okC b.toNat = true → ((s.data.toList.take (k + 1)).all fun b => okC b.toNat) = true := fun h => by
      rw [List.take_add_one, hb]
      simp at ha ⊢
      exact ⟨ha, h⟩
    repeat' (first | refine yaB (fun _ => ?_) (fun _ => ?_) | (intro w' A))
    all_goals first
      | (refine yA1 (s.size - (k + 1)) (by omega) ⟨k + 1, by rw [yaG (by omega) (by omega)]; omega, by omega, good ?_, rfl, rfl⟩
         simp [okC] at *
         omega)
      | (refine ⟨congrArg Value.bool (bad ?_).symm, rfl⟩
         simp [okC] at *
         omega)
  · have hk : k = s.size := by omega
    subst hk
    refine ⟨?_, rfl⟩
    rw [List.take_of_length_le (by simp)] at ha
    simp only [ybU, ha, Bool.and_true]
    rw [decide_eq_true (by omega)]
theorem yb4 {α : Type} {l1 l2 : List α} {k : Nat} {x : α} (ht : l1.take k = l2.take k) (h1 : l1[k]? = some x) (h2 : l2[k]? = some x) : l1.take (k + 1) = l2.take (k + 1) := by
 rw [List.take_add_one, List.take_add_one, ht, h1, h2]
theorem yFj {w : World} {a1 a2 : Option Addr} {n1 c1 n2 c2 : Nat} {l1 l2 : List PFound} (h1 : ybS w 5 yhT a1 n1 l1) (h2 : ybS w 5 yhT a2 n2 l2) (hl : l1.length ≤ 1000000) :
  Calls pP 73 #[.slice a1 n1 c1, .slice a2 n2 c2] w fun e w' => e = .returned (.bool (decide (l1 = l2))) ∧ Mod [] w w' := by
 refine yaQ (yIj ?_)
 have e1 := h1.1
 have e2 := h2.1
 refine yaB (fun h => ⟨congrArg Value.bool (decide_eq_false fun e => ?_).symm, Mod.refl _⟩) fun h => ?_
 ·subst e
  rw [e1, e2] at h
  simp at h
 have hlen : l1.length = l2.length := by
  simp at h
  omega
 refine yBb (fun mm x w' => ∃ k : Nat, x = k ∧ k ≤ l1.length ∧ l1.take k = l2.take k ∧ Mod [] w w' ∧ mm = l1.length - k) l1.length ⟨0, rfl, by omega, by simp, Mod.refl _, rfl⟩ ?_
 rintro mm x w1 ⟨k, rfl, hk, ht, M, rfl⟩
 refine yaC (fun hlt => ?_) fun hge => ?_
 ·have g1 : k < l1.length := by omega
  have g2 : k < l2.length := by omega
  obtain ⟨x, hx⟩ : ∃ x, l1[k]? = some x := ⟨_, List.getElem?_eq_getElem g1⟩
  obtain ⟨y, hy⟩ : ∃ y, l2[k]? = some y := ⟨_, List.getElem?_eq_getElem g2⟩
  refine (h1.keep0 M).ix hx fun q hq => yaD (by simpa [add_zero] using hq 0 _ rfl) (yaM (hq 1 _ rfl) (yaH (hq 2 _ rfl) (yaM (hq 3 _ rfl) (yaH (hq 4 _ rfl) ?_))))
  refine (h2.keep0 M).ix hy fun q hq => yaD (by simpa [add_zero] using hq 0 _ rfl) (yaM (hq 1 _ rfl) (yaH (hq 2 _ rfl) (yaM (hq 3 _ rfl) (yaH (hq 4 _ rfl) ?_))))
  refine ⟨_, fun w' _ => neF x y _ _ w', ?_⟩
  refine yaC (fun hne => ?_) fun heq => ?_
  ·intro w2 A2
   refine ⟨congrArg Value.bool (decide_eq_false fun e => hne ?_).symm, M.go0 A2.mod (by simp)⟩
   subst e
   rw [hx] at hy
   exact Option.some.inj hy
  ·intro w2 A2
   have he : x = y := Decidable.not_not.1 heq
   subst he
   exact yBa (l1.length - (k + 1)) (by omega) ⟨k + 1, by rw [yaG (by omega) (by omega)]; omega, by omega, yb4 ht hx hy, M.go0 A2.mod (by simp), rfl⟩
 ·have hk : k = l1.length := by omega
  subst hk
  rw [List.take_length, hlen, List.take_length] at ht
  exact ⟨congrArg Value.bool (decide_eq_true ht).symm, M⟩
theorem yxC {w : World} {a1 a2 : Option Addr} {n1 c1 n2 c2 : Nat} {l1 l2 : List PFound} (h1 : ybS w 5 yhT a1 n1 l1) (h2 : ybS w 5 yhT a2 n2 l2) (hl : l1.length ≤ 1000000) :
  Calls pP 76 #[.slice a1 n1 c1, .slice a2 n2 c2] w fun e w' => e = .returned (.bool (decide (l1 = l2))) ∧ Mod [] w w' := by
 refine yaQ (yIg ?_)
 have e1 := h1.1
 have e2 := h2.1
 refine yaB (fun h => ⟨congrArg Value.bool (decide_eq_false fun e => ?_).symm, Mod.refl _⟩) fun h => ?_
 ·subst e
  rw [e1, e2] at h
  simp at h
 have hlen : l1.length = l2.length := by
  simp at h
  omega
 refine yA5 (fun mm x w' => ∃ k : Nat, x = k ∧ k ≤ l1.length ∧ l1.take k = l2.take k ∧ Mod [] w w' ∧ mm = l1.length - k) l1.length ⟨0, rfl, by omega, by simp, Mod.refl _, rfl⟩ ?_
 rintro mm x w1 ⟨k, rfl, hk, ht, M, rfl⟩
 refine yaC (fun hlt => ?_) fun hge => ?_
 ·have g1 : k < l1.length := by omega
  have g2 : k < l2.length := by omega
  obtain ⟨x, hx⟩ : ∃ x, l1[k]? = some x := ⟨_, List.getElem?_eq_getElem g1⟩
  obtain ⟨y, hy⟩ : ∃ y, l2[k]? = some y := ⟨_, List.getElem?_eq_getElem g2⟩
  refine (h1.keep0 M).ix hx fun q hq => yaD (by simpa [add_zero] using hq 0 _ rfl) (yaM (hq 1 _ rfl) (yaH (hq 2 _ rfl) (yaM (hq 3 _ rfl) (yaH (hq 4 _ rfl) ?_))))
  refine (h2.keep0 M).ix hy fun q hq => yaD (by simpa [add_zero] using hq 0 _ rfl) (yaM (hq 1 _ rfl) (yaH (hq 2 _ rfl) (yaM (hq 3 _ rfl) (yaH (hq 4 _ rfl) ?_))))
  refine ⟨_, fun w' _ => neF x y _ _ w', ?_⟩
  refine yaC (fun hne => ?_) fun heq => ?_
  ·intro w2 A2
   refine ⟨congrArg Value.bool (decide_eq_false fun e => hne ?_).symm, M.go0 A2.mod (by simp)⟩
   subst e
   rw [hx] at hy
   exact Option.some.inj hy
  ·intro w2 A2
   have he : x = y := Decidable.not_not.1 heq
   subst he
   exact yA4 (l1.length - (k + 1)) (by omega) ⟨k + 1, by rw [yaG (by omega) (by omega)]; omega, by omega, yb4 ht hx hy, M.go0 A2.mod (by simp), rfl⟩
 ·have hk : k = l1.length := by omega
  subst hk
  rw [List.take_length, hlen, List.take_length] at ht
  exact ⟨congrArg Value.bool (decide_eq_true ht).symm, M⟩
theorem yFk {w : World} {a1 a2 : Option Addr} {n1 c1 n2 c2 : Nat} {l1 l2 : List PPart} (h1 : ybS w 2 yi1 a1 n1 l1) (h2 : ybS w 2 yi1 a2 n2 l2) (hl : l1.length ≤ 1000000) :
  Calls pP 74 #[.slice a1 n1 c1, .slice a2 n2 c2] w fun e w' => e = .returned (.bool (decide (l1 = l2))) ∧ Mod [] w w' := by
 refine yaQ (yFa ?_)
 have e1 := h1.1
 have e2 := h2.1
 refine yaB (fun h => ⟨congrArg Value.bool (decide_eq_false fun e => ?_).symm, Mod.refl _⟩) fun h => ?_
 ·subst e
  rw [e1, e2] at h
  simp at h
 have hlen : l1.length = l2.length := by
  simp at h
  omega
 refine yw0 (fun mm x w' => ∃ k : Nat, x = k ∧ k ≤ l1.length ∧ l1.take k = l2.take k ∧ Mod [] w w' ∧ mm = l1.length - k) l1.length ⟨0, rfl, by omega, by simp, Mod.refl _, rfl⟩ ?_
 rintro mm x w1 ⟨k, rfl, hk, ht, M, rfl⟩
 refine yaC (fun hlt => ?_) fun hge => ?_
 ·have g1 : k < l1.length := by omega
  have g2 : k < l2.length := by omega
  obtain ⟨x, hx⟩ : ∃ x, l1[k]? = some x := ⟨_, List.getElem?_eq_getElem g1⟩
  obtain ⟨y, hy⟩ : ∃ y, l2[k]? = some y := ⟨_, List.getElem?_eq_getElem g2⟩
  refine (h1.keep0 M).ix hx fun q hq => yaH (by simpa [add_zero] using hq 0 _ rfl) (yaD (hq 1 _ rfl) ?_)
  refine (h2.keep0 M).ix hy fun q hq => yaH (by simpa [add_zero] using hq 0 _ rfl) (yaD (hq 1 _ rfl) ?_)
  refine ⟨_, fun w' _ => neP x y _ _ w', ?_⟩
  refine yaC (fun hne => ?_) fun heq => ?_
  ·intro w2 A2
   refine ⟨congrArg Value.bool (decide_eq_false fun e => hne ?_).symm, M.go0 A2.mod (by simp)⟩
   subst e
   rw [hx] at hy
   exact Option.some.inj hy
  ·intro w2 A2
   have he : x = y := Decidable.not_not.1 heq
   subst he
   exact ywZ (l1.length - (k + 1)) (by omega) ⟨k + 1, by rw [yaG (by omega) (by omega)]; omega, by omega, yb4 ht hx hy, M.go0 A2.mod (by simp), rfl⟩
 ·have hk : k = l1.length := by omega
  subst hk
  rw [List.take_length, hlen, List.take_length] at ht
  exact ⟨congrArg Value.bool (decide_eq_true ht).symm, M⟩
theorem yxD {w : World} {a1 a2 : Option Addr} {n1 c1 n2 c2 : Nat} {l1 l2 : List PPart} (h1 : ybS w 2 yi1 a1 n1 l1) (h2 : ybS w 2 yi1 a2 n2 l2) (hl : l1.length ≤ 1000000) :
  Calls pP 77 #[.slice a1 n1 c1, .slice a2 n2 c2] w fun e w' => e = .returned (.bool (decide (l1 = l2))) ∧ Mod [] w w' := by
 refine yaQ (yIh ?_)
 have e1 := h1.1
 have e2 := h2.1
 refine yaB (fun h => ⟨congrArg Value.bool (decide_eq_false fun e => ?_).symm, Mod.refl _⟩) fun h => ?_
 ·subst e
  rw [e1, e2] at h
  simp at h
 have hlen : l1.length = l2.length := by
  simp at h
  omega
 refine yA8 (fun mm x w' => ∃ k : Nat, x = k ∧ k ≤ l1.length ∧ l1.take k = l2.take k ∧ Mod [] w w' ∧ mm = l1.length - k) l1.length ⟨0, rfl, by omega, by simp, Mod.refl _, rfl⟩ ?_
 rintro mm x w1 ⟨k, rfl, hk, ht, M, rfl⟩
 refine yaC (fun hlt => ?_) fun hge => ?_
 ·have g1 : k < l1.length := by omega
  have g2 : k < l2.length := by omega
  obtain ⟨x, hx⟩ : ∃ x, l1[k]? = some x := ⟨_, List.getElem?_eq_getElem g1⟩
  obtain ⟨y, hy⟩ : ∃ y, l2[k]? = some y := ⟨_, List.getElem?_eq_getElem g2⟩
  refine (h1.keep0 M).ix hx fun q hq => yaH (by simpa [add_zero] using hq 0 _ rfl) (yaD (hq 1 _ rfl) ?_)
  refine (h2.keep0 M).ix hy fun q hq => yaH (by simpa [add_zero] using hq 0 _ rfl) (yaD (hq 1 _ rfl) ?_)
  refine ⟨_, fun w' _ => neP x y _ _ w', ?_⟩
  refine yaC (fun hne => ?_) fun heq => ?_
  ·intro w2 A2
   refine ⟨congrArg Value.bool (decide_eq_false fun e => hne ?_).symm, M.go0 A2.mod (by simp)⟩
   subst e
   rw [hx] at hy
   exact Option.some.inj hy
  ·intro w2 A2
   have he : x = y := Decidable.not_not.1 heq
   subst he
   exact yA7 (l1.length - (k + 1)) (by omega) ⟨k + 1, by rw [yaG (by omega) (by omega)]; omega, by omega, yb4 ht hx hy, M.go0 A2.mod (by simp), rfl⟩
 ·have hk : k = l1.length := by omega
  subst hk
  rw [List.take_length, hlen, List.take_length] at ht
  exact ⟨congrArg Value.bool (decide_eq_true ht).symm, M⟩
theorem yFl (r r' : PRep) : decide (r = r') = (decide (r.e = r'.e) && decide (r.off = r'.off) && decide (r.n = r'.n) && decide (r.gen = r'.gen) && decide (r.found = r'.found) && decide (r.parts = r'.parts)) := by
 obtain ⟨a, b, c, d, e, f⟩ := r
 obtain ⟨a', b', c', d', e', f'⟩ := r'
 rw [Bool.eq_iff_iff]
 simp [and_assoc]
theorem yBd {w : World} {r r' : PRep} {f p f' p' : Sl} (h : RepAt w r f p) (h' : RepAt w r' f' p') :
  Calls pP 38 #[r.v f p, r'.v f' p'] w fun e w' => e = .returned (.bool (decide (r = r'))) ∧ Mod [] w w' := by
 rw [yFl]
 refine yaQ (yFb ?_)
 intro b1 f1 b2 f2
 refine yaB (fun g1 => ?_) (fun g1 => ?_)
 rotate_left
 ·intro w1 A1; simp at g1; exact ⟨by simp [g1], A1.mod⟩
 refine yaB (fun g2 => ?_) (fun g2 => ?_)
 rotate_left
 ·intro w1 A1; simp at g2; exact ⟨by simp [g2], A1.mod⟩
 refine yaB (fun g3 => ?_) (fun g3 => ?_)
 rotate_left
 ·intro w1 A1; simp at g3; exact ⟨by simp [g3], A1.mod⟩
 refine yaB (fun g4 => ?_) (fun g4 => ?_)
 rotate_left
 ·intro w1 A1; simp at g4; exact ⟨by simp [g4], A1.mod⟩
 simp at g1 g2 g3 g4
 intro w1 A1
 refine (yFj (h.keep0 A1.mod).found (h'.keep0 A1.mod).found h.lf).mono ?_
 rintro e w2 ⟨rfl, M2⟩
 refine ⟨_, rfl, yaI.of0 M2, ?_⟩
 have M := A1.mod.go0 M2 (by simp)
 refine yaB (fun g5 => ?_) (fun g5 => ?_)
 ·refine (yFk (h.keep0 M).parts (h'.keep0 M).parts h.lp).mono ?_
  rintro e w3 ⟨rfl, M3⟩
  refine ⟨_, rfl, yaI.of0 M3, ?_, M.go0 M3 (by simp)⟩
  simp at g5
  simp [g1, g2, g3, g4, g5]
 ·refine ⟨?_, M⟩
  simp at g5
  simp [g5]
theorem yxE {w : World} {r r' : PRep} {f p f' p' : Sl} (h : RepAt w r f p) (h' : RepAt w r' f' p') :
  Calls pP 40 #[r.v f p, r'.v f' p'] w fun e w' => e = .returned (.bool (decide (r = r'))) ∧ Mod [] w w' := by
 rw [yFl]
 refine yaQ (yIi ?_)
 intro b1 f1 b2 f2
 refine yaB (fun g1 => ?_) (fun g1 => ?_)
 rotate_left
 ·intro w1 A1; simp at g1; exact ⟨by simp [g1], A1.mod⟩
 refine yaB (fun g2 => ?_) (fun g2 => ?_)
 rotate_left
 ·intro w1 A1; simp at g2; exact ⟨by simp [g2], A1.mod⟩
 refine yaB (fun g3 => ?_) (fun g3 => ?_)
 rotate_left
 ·intro w1 A1; simp at g3; exact ⟨by simp [g3], A1.mod⟩
 refine yaB (fun g4 => ?_) (fun g4 => ?_)
 rotate_left
 ·intro w1 A1; simp at g4; exact ⟨by simp [g4], A1.mod⟩
 simp at g1 g2 g3 g4
 intro w1 A1
 refine (yxC (h.keep0 A1.mod).found (h'.keep0 A1.mod).found h.lf).mono ?_
 rintro e w2 ⟨rfl, M2⟩
 refine ⟨_, rfl, yaI.of0 M2, ?_⟩
 have M := A1.mod.go0 M2 (by simp)
 refine yaB (fun g5 => ?_) (fun g5 => ?_)
 ·refine (yxD (h.keep0 M).parts (h'.keep0 M).parts h.lp).mono ?_
  rintro e w3 ⟨rfl, M3⟩
  refine ⟨_, rfl, yaI.of0 M3, ?_, M.go0 M3 (by simp)⟩
  simp at g5
  simp [g1, g2, g3, g4, g5]
 ·refine ⟨?_, M⟩
  simp at g5
  simp [g5]
theorem yDo : (Tryz.prog.info? 55).map (fun i => (i.zero, i.size, i.bytes)) = some (some (.agg #[.int .i64 0, .bool false, .string ByteArray.empty, .bool false, .string ByteArray.empty]), 5, 56) := by kernel_rfl
theorem yBe : (Tryz.prog.info? 43).map (fun i => (i.zero, i.size, i.bytes)) = some (some (.agg #[.string ByteArray.empty, .int .i64 0]), 2, 24) := by kernel_rfl
theorem ymE (x : PFound) : ∀ u ∈ yhT x, u.oneCell' = true := by simp [yhT, Value.oneCell']
theorem yh5 (x : PPart) : ∀ u ∈ yi1 x, u.oneCell' = true := by simp [yi1, Value.oneCell']
theorem yxF {w : World} {s : Sl} {l : List PFound} (h : ybS w 5 yhT s.a s.n l) (hl : l.length ≤ 1000000) :
  Calls pP 50 #[.slice s.a s.n s.c] w fun e w' => ∃ v, e = .returned v ∧ ∃ s' : Sl, v = .slice s'.a s'.n s'.c ∧ Row w' w.heap.size 55 5 yhT s'.a s'.n s'.c l ∧ Mod [] w w' := by
 refine yFc ?_
 refine yaB (fun h0 => ?_) fun _ => ?_
 ·have hl0 : l = [] := by
   cases l with
   | nil => rfl
   | cons x r => obtain ⟨ad, ha, _⟩ := h.2 0 x rfl; rw [ha] at h0; cases h0
  subst hl0
  exact ⟨⟨none, 0, 0⟩, rfl, Row.nil .., Mod.refl _⟩
 ·refine ycZ fun b w1 c1 M1 f1 => ?_
  obtain ⟨i0, hi, hz0, hz1, hz2⟩ := info_parts yDo
  refine ydK (Row.fresh c1 f1) Tryz.underlying24 hi hz0 hz1 hz2 rfl (by decide) (h.keep0 M1) yeB ymE (by simp; omega) (by simp; unfold maxLen; omega) M1.size fun a' n' c' w2 hR hM => ?_
  exact ⟨⟨a', n', c'⟩, rfl, by simpa using hR, M1.go0 (hM [b] (by simp)) (by simpa using f1)⟩
theorem yxG {w : World} {s : Sl} {l : List PPart} (h : ybS w 2 yi1 s.a s.n l) (hl : l.length ≤ 1000000) :
  Calls pP 51 #[.slice s.a s.n s.c] w fun e w' => ∃ v, e = .returned v ∧ ∃ s' : Sl, v = .slice s'.a s'.n s'.c ∧ Row w' w.heap.size 43 2 yi1 s'.a s'.n s'.c l ∧ Mod [] w w' := by
 refine yFd ?_
 refine yaB (fun h0 => ?_) fun _ => ?_
 ·have hl0 : l = [] := by
   cases l with
   | nil => rfl
   | cons x r => obtain ⟨ad, ha, _⟩ := h.2 0 x rfl; rw [ha] at h0; cases h0
  subst hl0
  exact ⟨⟨none, 0, 0⟩, rfl, Row.nil .., Mod.refl _⟩
 ·refine ycZ fun b w1 c1 M1 f1 => ?_
  obtain ⟨i0, hi, hz0, hz1, hz2⟩ := info_parts yBe
  refine ydK (Row.fresh c1 f1) Tryz.underlying25 hi hz0 hz1 hz2 rfl (by decide) (h.keep0 M1) yeC yh5 (by simp; omega) (by simp; unfold maxLen; omega) M1.size fun a' n' c' w2 hR hM => ?_
  exact ⟨⟨a', n', c'⟩, rfl, by simpa using hR, M1.go0 (hM [b] (by simp)) (by simpa using f1)⟩
def ok0 (r : PRep) : Bool := num r.e && num r.off && num r.n && num r.gen
def okF (x : PFound) : Bool := num x.off
def yxH (x : PFound) : Bool := ygE x.r != 0
def okP (x : PPart) : Bool := num x.n
def yDp (x : PPart) : Bool := !ybU x.t
def yfA (r : PRep) : Int :=
 if (ok0 r && r.found.all okF && r.parts.all okP) = false then 1 else if r.found.length > 64 then 2 else if r.parts.length > 64 then 2 else if (r.found.any yxH || r.parts.any yDp) = true then 40 else 0
theorem yb5 {α : Type} {p : α → Bool} {l : List α} {k : Nat} {x : α} (hx : l[k]? = some x) : (l.take (k + 1)).all p = ((l.take k).all p && p x) := by
 rw [List.take_add_one, hx]; simp
theorem yeE {α : Type} {p : α → Bool} {l : List α} {k : Nat} {x : α} (hx : l[k]? = some x) : (l.take (k + 1)).any p = ((l.take k).any p || p x) := by
 rw [List.take_add_one, hx]; simp
theorem yB7 {b : Bool} (h : (!b) = true) : b = false := by cases b <;> simp_all
theorem yAJ {b : Bool} (h : (!b) = false) : b = true := by cases b <;> simp_all
def yr3 : Prop := ∀ (s : ByteArray) (w : World), Calls pP 96 #[.string s] w fun e w' => e = .returned (.bool (ybU s)) ∧ Mod [] w w'
theorem yqA (hN : yr3) {w0 w : World} {bm : Nat} {r : PRep} {f p : Sl} (h : RepAtW w0 r f p) (M : Mod [] w0 w) (hb : bm < w.heap.size) {t3 t4 : Bool} (h3 : t3 = (ok0 r && r.found.all okF)) (h4 : t4 = r.found.any yxH) :
  yaJ ymA (yj4 394 [0, 0, 1, 0, 1, 1, 1, 1]) (yIk [1, 1, 1, 1, 0, 1, 0] [] (ya4 pP Tryz.f57 [] fun v w' => v = .int .i64 (yfA r) ∧ Mod [] w0 w'))
   (yfE p.a p.n p.c (p.n : Int) bm r.e r.off r.n r.gen f.a f.n f.c p.a p.n p.c (t3, t4, 0)) w := by
 have e5 := h.parts.1
 have e4 := h.found.1
 have hl := h.lp
 refine yw2 (fun mm t3 t4 x w' => ∃ k : Nat, x = k ∧ k ≤ r.parts.length ∧ t3 = (ok0 r && r.found.all okF && (r.parts.take k).all okP) ∧ t4 = (r.found.any yxH || (r.parts.take k).any yDp) ∧ Mod [] w0 w' ∧ mm = r.parts.length - k) r.parts.length ⟨0, rfl, by omega, by simp [h3], by simp [h4], M, rfl⟩ ?_
 rintro mm t3 t4 x w1 ⟨k, rfl, hk, rfl, rfl, M1, rfl⟩
 refine yaC (fun hlt => ?_) fun hge => ?_
 ·have g1 : k < r.parts.length := by omega
  obtain ⟨x, hx⟩ : ∃ x, r.parts[k]? = some x := ⟨_, List.getElem?_eq_getElem g1⟩
  have ek : IntKind.wrap .i64 ((k : Int) + 1) = ((k + 1 : Nat) : Int) := by rw [yaG (by omega) (by omega)]; omega
  refine (h.keep0 M1).parts.ix hx fun q hq => yaH (by simpa [add_zero] using hq 0 _ rfl) (yaD (hq 1 _ rfl) ?_)
  intro b2 f2
  refine yaB (fun g3 => ?_) (fun g3 => ?_)
  ·intro w2 A2
   refine (ycI x.n w2).mono ?_
   rintro e w3 ⟨rfl, rfl⟩
   refine ⟨_, rfl, yaI.of0 (Mod.refl _), ?_⟩
   refine yaB (fun g4 => ?_) (fun g4 => ?_)
   ·exact ygD (r.parts.length - (k + 1)) (by omega) ⟨k + 1, ek, by omega, by rw [yb5 hx, ← Bool.and_assoc, g3]; rfl, by rw [yeE hx, ← Bool.or_assoc, g4]; rfl, M1.go0 A2.mod (by simp), rfl⟩
   ·refine (hN x.t w3).mono ?_
    rintro e w4 ⟨rfl, M4⟩
    refine ⟨_, rfl, yaI.of0 M4, ?_⟩
    exact ygD (r.parts.length - (k + 1)) (by omega) ⟨k + 1, ek, by omega, by rw [yb5 hx, ← Bool.and_assoc, g3]; rfl, by rw [yeE hx, ← Bool.or_assoc, g4]; rfl, (M1.go0 A2.mod (by simp)).go0 M4 (by simp), rfl⟩
  ·refine yaB (fun g4 => ?_) (fun g4 => ?_)
   ·intro w2 A2
    exact ygD (r.parts.length - (k + 1)) (by omega) ⟨k + 1, ek, by omega, by rw [yb5 hx, ← Bool.and_assoc, g3]; rfl, by rw [yeE hx, ← Bool.or_assoc, g4]; rfl, M1.go0 A2.mod (by simp), rfl⟩
   ·intro w2 A2
    refine (hN x.t w2).mono ?_
    rintro e w4 ⟨rfl, M4⟩
    refine ⟨_, rfl, yaI.of0 M4, ?_⟩
    exact ygD (r.parts.length - (k + 1)) (by omega) ⟨k + 1, ek, by omega, by rw [yb5 hx, ← Bool.and_assoc, g3]; rfl, by rw [yeE hx, ← Bool.or_assoc, g4]; rfl, (M1.go0 A2.mod (by simp)).go0 M4 (by simp), rfl⟩
 ·have hk : k = r.parts.length := by omega
  subst hk
  rw [List.take_length]
  unfold yfA
  refine yaB (fun g1 => ⟨by rw [if_pos (yB7 g1)], M1⟩) fun g1 => ?_
  rw [if_neg (by rw [yAJ g1]; decide)]
  refine yaC (fun g2 => ⟨by rw [if_pos (by omega)], M1⟩) fun g2 => ?_
  rw [if_neg (by omega)]
  refine yaC (fun g3 => ⟨by rw [if_pos (by omega)], M1⟩) fun g3 => ?_
  rw [if_neg (by omega)]
  refine yaB (fun g4 => ⟨by rw [if_pos g4], M1⟩) fun g4 => ?_
  exact ⟨by rw [if_neg (by rw [g4]; decide)], M1⟩
theorem ye2 (hN : yr3) {w0 w : World} {bm : Nat} {r : PRep} {f p : Sl} (h : RepAtW w0 r f p) (M : Mod [] w0 w) (hb : bm < w.heap.size) {t : Bool} (ht : t = ok0 r) :
  yB4 t bm r.e r.off r.n r.gen f.a f.n f.c p.a p.n p.c (fun v w' => v = .int .i64 (yfA r) ∧ Mod [] w0 w') w := by
 have e4 := h.found.1
 have hl := h.lf
 refine yw1 (fun mm t3 t4 x w' => ∃ k : Nat, x = k ∧ k ≤ r.found.length ∧ t3 = (ok0 r && (r.found.take k).all okF) ∧ t4 = (r.found.take k).any yxH ∧ Mod [] w0 w' ∧ bm < w'.heap.size ∧ mm = r.found.length - k) r.found.length ⟨0, rfl, by omega, by simp [ht], by simp, M, hb, rfl⟩ ?_
 rintro mm t3 t4 x w1 ⟨k, rfl, hk, rfl, rfl, M1, hb1, rfl⟩
 refine yaC (fun hlt => ?_) fun hge => ?_
 ·have g1 : k < r.found.length := by omega
  obtain ⟨x, hx⟩ : ∃ x, r.found[k]? = some x := ⟨_, List.getElem?_eq_getElem g1⟩
  have ek : IntKind.wrap .i64 ((k : Int) + 1) = ((k + 1 : Nat) : Int) := by rw [yaG (by omega) (by omega)]; omega
  refine (h.keep0 M1).found.ix hx fun q hq => yaD (by simpa [add_zero] using hq 0 _ rfl) (yaM (hq 1 _ rfl) (yaH (hq 2 _ rfl) (yaM (hq 3 _ rfl) (yaH (hq 4 _ rfl) ?_))))
  intro b2 f2
  have fin : ∀ {w'}, Mod [] w0 w' → w1.heap.size ≤ w'.heap.size → ∃ k' : Nat, IntKind.wrap .i64 ((k : Int) + 1) = k' ∧ k' ≤ r.found.length ∧ (ok0 r && (r.found.take k).all okF && okF x) = (ok0 r && (r.found.take k').all okF) ∧ ((r.found.take k).any yxH || yxH x) = (r.found.take k').any yxH ∧ Mod [] w0 w' ∧ bm < w'.heap.size ∧ r.found.length - (k + 1) = r.found.length - k' :=
   fun {w'} hM hs => ⟨k + 1, ek, by omega, by rw [yb5 hx, ← Bool.and_assoc], by rw [yeE hx], hM, by omega, rfl⟩
  refine yaB (fun g3 => ?_) (fun g3 => ?_)
  ·intro w2 A2
   have s2 := A2.mod.size
   refine (ycI x.off w2).mono ?_
   rintro e w3 ⟨rfl, rfl⟩
   refine ⟨_, rfl, yaI.of0 (Mod.refl _), ?_⟩
   refine yaB (fun g4 => ?_) (fun g4 => ?_)
   ·have := fin (M1.go0 A2.mod (by simp)) s2
    rw [g3, g4, Bool.true_and, Bool.true_or] at this
    exact ygC (r.found.length - (k + 1)) (by omega) this
   ·refine (yeD x.r w3).mono ?_
    rintro e w4 ⟨rfl, M4⟩
    have s4 := M4.size
    refine ⟨_, rfl, yaI.of0 M4, ?_⟩
    have := fin ((M1.go0 A2.mod (by simp)).go0 M4 (by simp)) (by omega)
    rw [g3, g4, Bool.true_and, Bool.false_or] at this
    exact ygC (r.found.length - (k + 1)) (by omega) this
  ·refine yaB (fun g4 => ?_) (fun g4 => ?_)
   ·intro w2 A2
    have := fin (M1.go0 A2.mod (by simp)) A2.mod.size
    rw [g3, g4, Bool.false_and, Bool.true_or] at this
    exact ygC (r.found.length - (k + 1)) (by omega) this
   ·intro w2 A2
    have s2 := A2.mod.size
    refine (yeD x.r w2).mono ?_
    rintro e w4 ⟨rfl, M4⟩
    have s4 := M4.size
    refine ⟨_, rfl, yaI.of0 M4, ?_⟩
    have := fin ((M1.go0 A2.mod (by simp)).go0 M4 (by simp)) (by omega)
    rw [g3, g4, Bool.false_and, Bool.false_or] at this
    exact ygC (r.found.length - (k + 1)) (by omega) this
 ·have hk : k = r.found.length := by omega
  subst hk
  rw [List.take_length]
  exact yqA hN h M1 hb1 rfl rfl
theorem yxI (hN : yr3) {w : World} {r : PRep} {f p : Sl} (h : RepAtW w r f p) :
  Calls pP 57 #[r.v f p] w fun e w' => e = .returned (.int .i64 (yfA r)) ∧ Mod [] w w' := by
 refine yaQ (yFg ?_)
 intro b1 f1 w1 A1
 have l1 := A1.lt b1 (by simp)
 refine (ycI _ _).mono ?_
 rintro e w2 ⟨rfl, rfl⟩
 refine ⟨_, rfl, yaI.of0 (Mod.refl _), yaB (fun g1 => ?_) (fun g1 => ?_)⟩
 rotate_left
 ·refine yh3 (fun t bm x0 x1 x2 x3 a4 n4 c4 a5 n5 c5 w' => t = ok0 r ∧ bm < w'.heap.size ∧ x0 = r.e ∧ x1 = r.off ∧ x2 = r.n ∧ x3 = r.gen ∧ a4 = f.a ∧ n4 = f.n ∧ c4 = f.c ∧ a5 = p.a ∧ n5 = p.n ∧ c5 = p.c ∧ Mod [] w w') ⟨by simp [ok0, g1], l1, rfl, rfl, rfl, rfl, rfl, rfl, rfl, rfl, rfl, rfl, A1.mod⟩ ?_
  rintro t bm x0 x1 x2 x3 a4 n4 c4 a5 n5 c5 w' ⟨ht, hb, rfl, rfl, rfl, rfl, rfl, rfl, rfl, rfl, rfl, rfl, M⟩
  exact ye2 hN h M hb ht
 refine (ycI _ _).mono ?_
 rintro e w2 ⟨rfl, rfl⟩
 refine ⟨_, rfl, yaI.of0 (Mod.refl _), yaB (fun g2 => ?_) (fun g2 => ?_)⟩
 rotate_left
 ·refine yh3 (fun t bm x0 x1 x2 x3 a4 n4 c4 a5 n5 c5 w' => t = ok0 r ∧ bm < w'.heap.size ∧ x0 = r.e ∧ x1 = r.off ∧ x2 = r.n ∧ x3 = r.gen ∧ a4 = f.a ∧ n4 = f.n ∧ c4 = f.c ∧ a5 = p.a ∧ n5 = p.n ∧ c5 = p.c ∧ Mod [] w w') ⟨by simp [ok0, g2], l1, rfl, rfl, rfl, rfl, rfl, rfl, rfl, rfl, rfl, rfl, A1.mod⟩ ?_
  rintro t bm x0 x1 x2 x3 a4 n4 c4 a5 n5 c5 w' ⟨ht, hb, rfl, rfl, rfl, rfl, rfl, rfl, rfl, rfl, rfl, rfl, M⟩
  exact ye2 hN h M hb ht
 refine (ycI _ _).mono ?_
 rintro e w2 ⟨rfl, rfl⟩
 refine ⟨_, rfl, yaI.of0 (Mod.refl _), yaB (fun g3 => ?_) (fun g3 => ?_)⟩
 rotate_left
 ·refine yh3 (fun t bm x0 x1 x2 x3 a4 n4 c4 a5 n5 c5 w' => t = ok0 r ∧ bm < w'.heap.size ∧ x0 = r.e ∧ x1 = r.off ∧ x2 = r.n ∧ x3 = r.gen ∧ a4 = f.a ∧ n4 = f.n ∧ c4 = f.c ∧ a5 = p.a ∧ n5 = p.n ∧ c5 = p.c ∧ Mod [] w w') ⟨by simp [ok0, g3], l1, rfl, rfl, rfl, rfl, rfl, rfl, rfl, rfl, rfl, rfl, A1.mod⟩ ?_
  rintro t bm x0 x1 x2 x3 a4 n4 c4 a5 n5 c5 w' ⟨ht, hb, rfl, rfl, rfl, rfl, rfl, rfl, rfl, rfl, rfl, rfl, M⟩
  exact ye2 hN h M hb ht
 refine (ycI _ _).mono ?_
 rintro e w2 ⟨rfl, rfl⟩
 refine ⟨_, rfl, yaI.of0 (Mod.refl _), ?_⟩
 refine yh3 (fun t bm x0 x1 x2 x3 a4 n4 c4 a5 n5 c5 w' => t = ok0 r ∧ bm < w'.heap.size ∧ x0 = r.e ∧ x1 = r.off ∧ x2 = r.n ∧ x3 = r.gen ∧ a4 = f.a ∧ n4 = f.n ∧ c4 = f.c ∧ a5 = p.a ∧ n5 = p.n ∧ c5 = p.c ∧ Mod [] w w') ⟨by simp [ok0, g1, g2, g3], l1, rfl, rfl, rfl, rfl, rfl, rfl, rfl, rfl, rfl, rfl, A1.mod⟩ ?_
 rintro t bm x0 x1 x2 x3 a4 n4 c4 a5 n5 c5 w' ⟨ht, hb, rfl, rfl, rfl, rfl, rfl, rfl, rfl, rfl, rfl, rfl, M⟩
 exact ye2 hN h M hb ht
end Go.Proofs.YtkbcmppbjfpjmaaGreat
namespace Go.Proofs
open Go.Shelf
shelf_lay LaysGw.n17 Ggw 17 at Tryz as Tryz.layCF
end Go.Proofs
namespace Go.Proofs.YtkbcmppbjfpjmaaGreat
open Go Go.RowKit
set_option linter.unusedVariables false
set_option linter.unusedSimpArgs false
theorem yFm (c : Int) (w : World) : Calls pP 119 #[.int .i32 c] w fun e w' => e = .returned (.bool (!okC c)) ∧ w' = w := by
 refine yaQ (yFf ?_)
 repeat' (first | refine yaB (fun _ => ?_) (fun _ => ?_) | (intro w' A))
 all_goals
  refine ⟨congrArg Value.bool ?_, rfl⟩
  rw [Bool.eq_iff_iff]
  simp [okC] at *
  try omega
theorem yr4 (s : ByteArray) : ∀ (f pos : Nat), s.size ≤ pos + f → (0 ≤ Lib.idxFuncFrom (fun x => !okC x) true s f pos ↔ ∃ i b, pos ≤ i ∧ s.data.toList[i]? = some b ∧ okC (b.toNat : Int) = false)
 | 0, pos, h => by
  constructor
  ·intro h; simp [Lib.idxFuncFrom] at h
  ·rintro ⟨i, b, h1, h2, _⟩
   have := (List.getElem?_eq_some_iff.1 h2).1
   simp at this; omega
 | f + 1, pos, h => by
  unfold Lib.idxFuncFrom
  split
  ·rename_i hp
   have hd : s.data.toList[pos]? = some s[pos] := by
    rw [List.getElem?_eq_getElem (by simpa using hp)]; rfl
   by_cases ha : (s[pos]).toNat < 128
   ·rw [decode_ascii s pos hp ha]
    have ih := yr4 s f (pos + 1) (by omega)
    by_cases ho : okC ((s[pos]).toNat : Int) = true
    ·simp only [ho, Bool.not_true]
     rw [if_neg (by decide), ih]
     constructor
     ·rintro ⟨i, b, h1, h2, h3⟩; exact ⟨i, b, by omega, h2, h3⟩
     ·rintro ⟨i, b, h1, h2, h3⟩
      refine ⟨i, b, ?_, h2, h3⟩
      rcases Nat.lt_or_ge pos i with h4 | h4
      ·exact h4
      ·have : i = pos := by omega
       subst this
       rw [hd] at h2; cases h2
       rw [ho] at h3; cases h3
    ·have ho' : okC ((s[pos]).toNat : Int) = false := by simpa using ho
     simp only [ho', Bool.not_false]
     rw [if_pos trivial]
     exact ⟨fun _ => ⟨pos, _, Nat.le_refl _, hd, ho'⟩, fun _ => by omega⟩
   ·have h1 := decode_high s pos hp (by omega)
    have ho : okC ((Utf8.decode s pos).1 : Int) = false := by simp [okC]; omega
    have ho' : okC ((s[pos]).toNat : Int) = false := by simp [okC]; omega
    simp only [ho, Bool.not_false]
    rw [if_pos trivial]
    exact ⟨fun _ => ⟨pos, _, Nat.le_refl _, hd, ho'⟩, fun _ => by omega⟩
  ·rename_i hp
   constructor
   ·intro h; simp at h
   ·rintro ⟨i, b, h1, h2, _⟩
    have := (List.getElem?_eq_some_iff.1 h2).1
    simp at this; omega
theorem yqB : yr3 := by
 intro s w
 refine yaQ (yFe ?_)
 rw [yf9]
 refine yaB (fun g1 => ?_) (fun g1 => ⟨?_, Mod.refl _⟩)
 rotate_left
 ·have g1 := yAJ g1
  have h0 := (yl9 s).1 (of_decide_eq_true g1)
  simp [ybU, h0]
 have h1 : s.size ≠ 0 := fun e => by rw [decide_eq_true ((yl9 s).2 e)] at g1; cases g1
 refine yaC (fun g2 => ?_) (fun g2 => ⟨by simp [ybU]; omega, Mod.refl _⟩)
 have hC := Any.strings_ContainsFunc_grows Tryz.layCF 119 #[] (enters_of Tryz.func119 (by kernel_rfl) rfl) (fun x => !okC x) s w
  (fun W x _ _ => (yFm (x : Int) W).mono fun e w' ⟨h, h'⟩ => ⟨h, by rw [h']; exact Below.refl _ _⟩)
 refine hC.mono ?_
 rintro e w1 ⟨rfl, hb⟩
 refine ⟨_, rfl, ?_, Mod.of_below hb⟩
 refine congrArg Value.bool ?_
 have ho := yr4 s s.size 0 (by omega)
 rw [Bool.eq_iff_iff]
 simp only [ybU, Bool.not_eq_true', decide_eq_false_iff_not, Bool.and_eq_true, decide_eq_true_eq, List.all_eq_true]
 unfold Lib.idxFunc
 rw [ho]
 constructor
 ·intro h
  refine ⟨by omega, fun b hb => ?_⟩
  obtain ⟨i, hi⟩ := List.getElem?_of_mem hb
  by_cases hk : okC (b.toNat : Int) = true
  ·exact hk
  ·exact absurd ⟨i, b, Nat.zero_le _, hi, by simpa using hk⟩ h
 ·rintro ⟨_, h⟩ ⟨i, b, _, hi, hk⟩
  rw [h b (List.mem_of_getElem? hi)] at hk; cases hk
end Go.Proofs.YtkbcmppbjfpjmaaGreat
namespace Go.Proofs.YtkbcmppbjfpjmaaGreat
open Go Go.RowKit
set_option linter.all false
section
set_option maxRecDepth 100000
variable {R : VWP} {w w0 : World} {m : Nat} {i0 i1 i2 i3 i4 i5 i6 i7 i8 i9 j0 j1 j2 j3 j4 j5 j6 j7 j8 j9 k0 k1 k2 k3 k4 k5 k6 k7 k8 k9 l0 l1 l2 l3 l4 l5 l6 l7 l8 l9 : Int} {s0 s1 s2 s3 s4 s5 s6 s7 s8 s9 t0 t1 t2 t3 t4 t5 t6 t7 t8 t9 : BA} {n0 n1 n2 n3 n4 n5 n6 n7 n8 n9 o0 o1 o2 o3 o4 o5 o6 o7 o8 o9 p0 p1 p2 p3 p4 p5 p6 p7 p8 p9 : Nat} {q0 q1 q2 q3 q4 q5 q6 q7 q8 q9 r0 r1 r2 r3 r4 r5 r6 r7 r8 r9 : OA} {B0 B1 B2 B3 B4 B5 B6 B7 B8 B9 : Bool} {M0 M1 M2 M3 : Option Nat} {V0 V1 V2 V3 V4 V5 : Value} {A0 A1 A2 : Addr}
theorem yFn {a0 : BA} (h :
 Calls pP 24 #[(.int .u64 (IntKind.wrap .u64 (a0.size : Int)))] w fun e w1 => ∃ s2, e = .returned (.string s2) ∧
 yfC s2 a0 fun s3 =>
 R (.string s3) w1) :
 CR pP 28 #[.string a0] w R :=
 yaA Tryz.wide_mixed (an := []) Tryz.func28 rfl rfl (by kernel_rfl) rfl (Eq.mpr (by kernel_rfl) h)
theorem yFo {a3 : BA} {a1 : BA} (h :
 ∀ b1, w.heap.size ≤ b1 →
 ∀ w2, Adv [] [b1] w w2 →
 Calls pP 121 #[(.agg (Z7 B0 a3 B1 a1))] w2 fun e w3 => ∃ x4, e = .returned (.int .u8 x4) ∧ yaI [b1] w2 w3 ∧
 al w3 (.cells #[.int .u8 x4] 5) fun b5 w6 =>
 ∃ s7 w8, Sem.run pP (Go.convert 40 9 (.slice (some ⟨b5, 0, none⟩) 1 1)) w6 = .ok (.string s7) w8 ∧ yaI [b1] w6 w8 ∧
 brB B0 (
 Calls pP 28 #[.string a3] w8 fun e w9 => ∃ a4, e = .returned (.string a4) ∧ yaI [b1] w8 w9 ∧
 yfC s7 a4 fun a5 =>
 brB (!B1) (
 Calls pP 28 #[.string a1] w9 fun e a8 => ∃ a6, e = .returned (.string a6) ∧ yaI [b1] w9 a8 ∧
 yfC a5 a6 fun b0 =>
 R (.string b0) a8)
 (
 R (.string a5) w9))
 (
 brB (!B1) (
 Calls pP 28 #[.string a1] w8 fun e a9 => ∃ a7, e = .returned (.string a7) ∧ yaI [b1] w8 a9 ∧
 yfC s7 a7 fun b2 =>
 R (.string b2) a9)
 (
 R (.string s7) w8))) :
 CR pP 97 #[(.agg (Z7 B0 a3 B1 a1))] w R :=
 yaA Tryz.wide_mixed (an := []) Tryz.func97 rfl rfl (by kernel_rfl) rfl (Eq.mpr (by kernel_rfl) h)
theorem yFp {a1 : BA} {a3 : BA} (h :
 ∀ b1, w.heap.size ≤ b1 →
 ∀ w2, Adv [] [b1] w w2 →
 Calls pP 95 #[(.agg (Z7 B0 a1 B1 a3))] w2 fun e w3 => ∃ x4, e = .returned (.int .i64 x4) ∧ yaI [b1] w2 w3 ∧
 brB (x4 != 0) (
 R (.tuple #[(.string (⟨#[]⟩ : BA)), .int .i64 x4]) w3)
 (
 Calls pP 97 #[(.agg (Z7 B0 a1 B1 a3))] w3 fun e w5 => ∃ s6, e = .returned (.string s6) ∧ yaI [b1] w3 w5 ∧
 R (.tuple #[.string s6, .int .i64 0]) w5)) :
 CR pP 59 #[(.agg (Z7 B0 a1 B1 a3))] w R :=
 yaA Tryz.wide_mixed (an := []) Tryz.func59 rfl rfl (by kernel_rfl) rfl (Eq.mpr (by kernel_rfl) h)
theorem yFq (h :
 ∀ w1, Adv [] [] w w1 →
 yaF .i64 w1 A1 fun x2 =>
 Calls pP 24 #[(.int .u64 (IntKind.wrap .u64 x2))] w1 fun e w3 => ∃ s4, e = .returned (.string s4) ∧
 Calls pP 23 #[(.pointer (some A0)), .string s4] w3 fun e w5 => ∃ x6 v7, e = .returned (.tuple #[.int .i64 x6, v7]) ∧
 R (.tuple #[]) w5) :
 CR pP 58 #[(.pointer (some A0)), (.pointer (some A1))] w R :=
 yaA Tryz.wide_mixed (an := []) Tryz.func58 rfl rfl (by kernel_rfl) rfl (Eq.mpr (by kernel_rfl) h)
theorem yFr (h :
 ∀ w1, Adv [] [] w w1 →
 yaP w1 A1 fun s2 =>
 Calls pP 28 #[.string s2] w1 fun e w3 => ∃ s4, e = .returned (.string s4) ∧
 Calls pP 23 #[(.pointer (some A0)), .string s4] w3 fun e w5 => ∃ x6 v7, e = .returned (.tuple #[.int .i64 x6, v7]) ∧
 R (.tuple #[]) w5) :
 CR pP 160 #[(.pointer (some A0)), (.pointer (some A1))] w R :=
 yaA Tryz.wide_mixed (an := []) Tryz.func160 rfl rfl (by kernel_rfl) rfl (Eq.mpr (by kernel_rfl) h)
theorem yFs (h :
 ∀ w1, Adv [] [] w w1 →
 Calls pP 160 #[(.pointer (some A1)), (.pointer (some A0))] w1 fun e w2 => e = .returned (.tuple #[]) ∧
 ∀ w3, Adv [] [] w2 w3 →
 Calls pP 58 #[(.pointer (some A1)), (.pointer (some (Addr.add A0 1)))] w3 fun e w4 => e = .returned (.tuple #[]) ∧
 R (.tuple #[]) w4) :
 CR pP 60 #[(.iface 101 (.pointer (some A1))), (.pointer (some A0))] w R :=
 yaA Tryz.wide_mixed (an := []) Tryz.func60 rfl rfl (by kernel_rfl) rfl (Eq.mpr (by kernel_rfl) h)
def yqC : LA := ⟨[0, 0, 1, 0, 1, 1, 1], [1, 5, 33, 34, 35], [(1, 0, 0), (5, 1, 0)], 2, [1]⟩
def yqD : LA := ⟨[0, 0, 1, 0, 1, 1, 1, 1], [1, 5, 43, 44, 45], [(1, 0, 0), (5, 1, 0)], 2, [1]⟩
def yqE : LA := ⟨[0, 0, 1, 0, 1, 1, 1, 1, 1, 1, 1], [5, 70, 71, 72], [(5, 1, 0)], 3, [1, 2]⟩
def yr5 : List LA := [yqC, yqD, yqE]
abbrev yt2 := dnF pP yr5 (code Tryz.f26)
abbrev yI3 := yaO pP yr5 (code Tryz.f26)
abbrev yt3 (p : List Nat) (K : List Kh) (R : VWP) := yaO pP yr5 (code Tryz.f26) p K (ya4 pP Tryz.f26 [] R)
def ykJ (b4 : OA) (b6 b5 bm0 : Nat) (b0 b1 b2 b3 : Int) (a0 : OA) (a6 a3 : Nat) (a1 : OA) (a7 a4 bm1 : Nat) : Int × (Option Addr) × (Option Addr) × Nat × Nat → List Value × List TB := fun (b7, a9, a2, a8, a5) => ([(.pointer (some ⟨bm0, 0, none⟩)), (.pointer (some ⟨bm1, 0, none⟩)), .slice b4 b6 b5, (.int .i64 (5 : Int)), .int .i64 b7], [⟨bm0, 27, [.int .i64 b0, .int .i64 b1, .int .i64 b2, .int .i64 b3, .slice a0 a6 a3, .slice a1 a7 a4], false⟩, ⟨bm1, 103, [.pointer a9, .slice a2 a8 a5], true⟩])
def ykK (b4 : OA) (b6 b5 : Nat) (b7 : Int) (bm0 : Nat) (b0 b1 b2 b3 : Int) (a0 : OA) (a6 a3 : Nat) (a1 : OA) (a7 a4 bm1 : Nat) : Int × (Option Addr) × (Option Addr) × Nat × Nat → List Value × List TB := fun (b8, a9, a2, a8, a5) => ([(.pointer (some ⟨bm0, 0, none⟩)), (.pointer (some ⟨bm1, 0, none⟩)), .slice b4 b6 b5, .int .i64 b7, .int .i64 b8], [⟨bm0, 27, [.int .i64 b0, .int .i64 b1, .int .i64 b2, .int .i64 b3, .slice a0 a6 a3, .slice a1 a7 a4], false⟩, ⟨bm1, 103, [.pointer a9, .slice a2 a8 a5], true⟩])
def ykL (b5 : OA) (b7 b6 : Nat) (b8 : Int) (bm0 : Nat) (b0 b1 b2 b3 : Int) (a0 : OA) (a6 a3 : Nat) (a1 : OA) (a7 a4 bm1 bm2 : Nat) : Int × (Option Addr) × (Option Addr) × Nat × Nat × Int → List Value × List TB := fun (b9, a9, a2, a8, a5, b4) => ([(.pointer (some ⟨bm1, 0, none⟩)), .slice b5 b7 b6, .int .i64 b8, .int .i64 b9], [⟨bm0, 27, [.int .i64 b0, .int .i64 b1, .int .i64 b2, .int .i64 b3, .slice a0 a6 a3, .slice a1 a7 a4], false⟩, ⟨bm1, 103, [.pointer a9, .slice a2 a8 a5], true⟩, ⟨bm2, 3, [.int .i64 b4], true⟩])
abbrev yB8 (b0 : OA) (b2 b1 bm0 : Nat) (a6 a7 a8 a9 : Int) (a0 : OA) (a4 a2 : Nat) (a1 : OA) (a5 a3 bm1 : Nat) (I : Nat → Int → Option Addr → Option Addr → Nat → Nat → World → Prop) (m : Nat) : Kh := KG (ykJ b0 b2 b1 bm0 a6 a7 a8 a9 a0 a4 a2 a1 a5 a3 bm1) (U5 I) m
theorem yxJ {I : Nat → Int → Option Addr → Option Addr → Nat → Nat → World → Prop} (m' : Nat) (h1 : m' < m) (h2 : I m' i4 q3 q4 n8 n9 w) : KS (yB8 q0 n0 n1 n2 i0 i1 i2 i3 q1 n3 n4 q2 n5 n6 n7 I m) (ykJ q0 n0 n1 n2 i0 i1 i2 i3 q1 n3 n4 q2 n5 n6 n7 (i4, q3, q4, n8, n9)) w := ⟨m', h1, _, rfl, rfl, h2⟩
theorem yxK {b5 : OA} {a1 : OA} {a7 : OA} {c1 b7 : OA} (I : Nat → Int → Option Addr → Option Addr → Nat → Nat → World → Prop) (m0 : Nat) (h0 : I m0 i4 c1 b7 n8 n9 w0)
 (hr : ∀ m b4 a6 a2 a5 a4 w, I m b4 a6 a2 a5 a4 w →
 w.heap[n7]? = some (.cells #[.pointer a6, .slice a2 a5 a4] 103) →
 brB (decide (b4 < (5 : Int))) (
 ixA b5 n0 b4 1 fun q9 =>
 yaF .i64 w q9 fun d0 =>
 ∀ b8, w.heap.size ≤ b8 →
 ∀ c3, Adv [] [b8] w c3 → c3.heap[n7]? = some (.cells #[.pointer a6, .slice a2 a5 a4] 103) →
 c3.heap[b8]? = some (.cells #[.int .i64 d0] 3) →
 Calls pP 58 #[(.pointer (some ⟨n7, 0, none⟩)), (.pointer (some ⟨b8, 0, none⟩))] c3 fun e c4 => e = .returned (.tuple #[]) ∧ yaZ [n7, b8] [(n2, 27)] [n2] c3 c4 ∧ ∃ c9 c6 c8 c7, c4.heap[n7]? = some (.cells #[.pointer c9, .slice c6 c8 c7] 103) ∧ ∃ d1, c4.heap[b8]? = some (.cells #[.int .i64 d1] 3) ∧
 KS (yB8 b5 n0 n1 n2 i0 i1 i2 i3 a1 n3 n4 a7 n5 n6 n7 I m) (ykJ b5 n0 n1 n2 i0 i1 i2 i3 a1 n3 n4 a7 n5 n6 n7 ((IntKind.wrap .i64 (b4 + 1)), c9, c6, c8, c7)) c4)
 (
 yaJ yqD (yt2 394 [0, 0, 1, 0, 1, 1, 1, 1]) (yt3 [1, 1, 1, 1, 0, 1, 0] [] R) (ykK a1 n3 n4 (n3 : Int) n2 i0 i1 i2 i3 a1 n3 n4 a7 n5 n6 n7 (0, a6, a2, a5, a4)) w)) :
 yaJ yqC (yt2 395 [0, 0, 1, 0, 1, 1, 1]) (yt3 [1, 1, 1, 0, 1, 0] [] R) (ykJ b5 n0 n1 n2 i0 i1 i2 i3 a1 n3 n4 a7 n5 n6 n7 (i4, c1, b7, n8, n9)) w0 :=
 lrule (ykJ b5 n0 n1 n2 i0 i1 i2 i3 a1 n3 n4 a7 n5 n6 n7) (U5 I) h0 (by rintro m ⟨b4, a6, a2, a5, a4⟩ w h; exact ⟨by kernel_rfl, by kernel_rfl, fun js => Eq.mpr (by kernel_rfl) (hr m b4 a6 a2 a5 a4 w h)⟩)
abbrev yB9 (b0 : OA) (b2 b1 : Nat) (b3 : Int) (bm0 : Nat) (a6 a7 a8 a9 : Int) (a0 : OA) (a4 a2 : Nat) (a1 : OA) (a5 a3 bm1 : Nat) (I : Nat → Int → Option Addr → Option Addr → Nat → Nat → World → Prop) (m : Nat) : Kh := KG (ykK b0 b2 b1 b3 bm0 a6 a7 a8 a9 a0 a4 a2 a1 a5 a3 bm1) (U5 I) m
theorem yxL {I : Nat → Int → Option Addr → Option Addr → Nat → Nat → World → Prop} (m' : Nat) (h1 : m' < m) (h2 : I m' i5 q3 q4 n8 n9 w) : KS (yB9 q0 n0 n1 i0 n2 i1 i2 i3 i4 q1 n3 n4 q2 n5 n6 n7 I m) (ykK q0 n0 n1 i0 n2 i1 i2 i3 i4 q1 n3 n4 q2 n5 n6 n7 (i5, q3, q4, n8, n9)) w := ⟨m', h1, _, rfl, rfl, h2⟩
theorem yxM (I : Nat → Int → Option Addr → Option Addr → Nat → Nat → World → Prop) (m0 : Nat) (h0 : I m0 i5 q3 q4 n8 n9 w0)
 (hr : ∀ m b5 a6 a2 a5 a4 w, I m b5 a6 a2 a5 a4 w →
 w.heap[n7]? = some (.cells #[.pointer a6, .slice a2 a5 a4] 103) →
 brB (decide (b5 < i0)) (
 ixA q0 n0 b5 5 fun c5 =>
 yaF .i64 w c5 fun g8 => yaU w (Addr.add c5 1) fun g1 => yaP w (Addr.add c5 2) fun f5 => yaU w (Addr.add c5 3) fun g2 => yaP w (Addr.add c5 4) fun f6 =>
 ∀ b4, w.heap.size ≤ b4 →
 ∀ c6, Adv [] [b4] w c6 → c6.heap[n7]? = some (.cells #[.pointer a6, .slice a2 a5 a4] 103) →
 c6.heap[b4]? = some (.cells (Z6 g8 g1 f5 g2 f6) 55) →
 Calls pP 58 #[(.pointer (some ⟨n7, 0, none⟩)), (.pointer (some ⟨b4, 0, none⟩))] c6 fun e c7 => e = .returned (.tuple #[]) ∧ yaZ [n7, b4] [(n2, 27)] [n2] c6 c7 ∧ ∃ f3 e7 f1 e9, c7.heap[n7]? = some (.cells #[.pointer f3, .slice e7 f1 e9] 103) ∧ ∃ g9 e4 e1 e5 e2, c7.heap[b4]? = some (.cells (Z6 g9 e4 e1 e5 e2) 55) ∧
 Calls pP 59 #[(.agg (Z7 e4 e1 e5 e2))] c7 fun e c8 => ∃ e3 h1, e = .returned (.tuple #[.string e3, .int .i64 h1]) ∧ yaZ [n7, b4] [(n2, 27)] [n2] c7 c8 ∧ ∃ f4 e8 f2 f0, c8.heap[n7]? = some (.cells #[.pointer f4, .slice e8 f2 f0] 103) ∧ ∃ h2 g3 f7 g4 f8, c8.heap[b4]? = some (.cells (Z6 h2 g3 f7 g4 f8) 55) ∧
 Calls pP 23 #[(.pointer (some ⟨n7, 0, none⟩)), .string e3] c8 fun e d0 => ∃ h3 g7, e = .returned (.tuple #[.int .i64 h3, g7]) ∧ yaZ [n7, b4] [(n2, 27)] [n2] c8 d0 ∧ ∃ d9 d3 d7 d5, d0.heap[n7]? = some (.cells #[.pointer d9, .slice d3 d7 d5] 103) ∧ ∃ h4 g5 f9 g6 g0, d0.heap[b4]? = some (.cells (Z6 h4 g5 f9 g6 g0) 55) ∧
 KS (yB9 q0 n0 n1 i0 n2 i1 i2 i3 i4 q1 n3 n4 q2 n5 n6 n7 I m) (ykK q0 n0 n1 i0 n2 i1 i2 i3 i4 q1 n3 n4 q2 n5 n6 n7 ((IntKind.wrap .i64 (b5 + 1)), d9, d3, d7, d5)) d0)
 (
 ∀ b7, w.heap.size ≤ b7 →
 ∀ c9, Adv [] [b7] w c9 → c9.heap[n7]? = some (.cells #[.pointer a6, .slice a2 a5 a4] 103) →
 c9.heap[b7]? = some (.cells #[(.int .i64 (n5 : Int))] 3) →
 Calls pP 58 #[(.pointer (some ⟨n7, 0, none⟩)), (.pointer (some ⟨b7, 0, none⟩))] c9 fun e d1 => e = .returned (.tuple #[]) ∧ yaZ [n7, b7] [(n2, 27)] [n2] c9 d1 ∧ ∃ e0 d4 d8 d6, d1.heap[n7]? = some (.cells #[.pointer e0, .slice d4 d8 d6] 103) ∧ ∃ e6, d1.heap[b7]? = some (.cells #[.int .i64 e6] 3) ∧
 yaJ yqE (yt2 391 [0, 0, 1, 0, 1, 1, 1, 1, 1, 1, 1]) (yt3 [1, 1, 1, 1, 1, 1, 1, 0, 1, 0] [] R) (ykL q2 n5 n6 (n5 : Int) n2 i1 i2 i3 i4 q1 n3 n4 q2 n5 n6 n7 b7 (0, e0, d4, d8, d6, e6)) d1)) :
 yaJ yqD (yt2 394 [0, 0, 1, 0, 1, 1, 1, 1]) (yt3 [1, 1, 1, 1, 0, 1, 0] [] R) (ykK q0 n0 n1 i0 n2 i1 i2 i3 i4 q1 n3 n4 q2 n5 n6 n7 (i5, q3, q4, n8, n9)) w0 :=
 lrule (ykK q0 n0 n1 i0 n2 i1 i2 i3 i4 q1 n3 n4 q2 n5 n6 n7) (U5 I) h0 (by rintro m ⟨b5, a6, a2, a5, a4⟩ w h; exact ⟨by kernel_rfl, by kernel_rfl, fun js => Eq.mpr (by kernel_rfl) (hr m b5 a6 a2 a5 a4 w h)⟩)
abbrev yCa (b0 : OA) (b2 b1 : Nat) (b3 : Int) (bm0 : Nat) (a6 a7 a8 a9 : Int) (a0 : OA) (a4 a2 : Nat) (a1 : OA) (a5 a3 bm1 bm2 : Nat) (I : Nat → Int → Option Addr → Option Addr → Nat → Nat → Int → World → Prop) (m : Nat) : Kh := KG (ykL b0 b2 b1 b3 bm0 a6 a7 a8 a9 a0 a4 a2 a1 a5 a3 bm1 bm2) (U6 I) m
theorem yxN {I : Nat → Int → Option Addr → Option Addr → Nat → Nat → Int → World → Prop} (m' : Nat) (h1 : m' < m) (h2 : I m' i5 q3 q4 n9 o0 i6 w) : KS (yCa q0 n0 n1 i0 n2 i1 i2 i3 i4 q1 n3 n4 q2 n5 n6 n7 n8 I m) (ykL q0 n0 n1 i0 n2 i1 i2 i3 i4 q1 n3 n4 q2 n5 n6 n7 n8 (i5, q3, q4, n9, o0, i6)) w := ⟨m', h1, _, rfl, rfl, h2⟩
theorem yxO (I : Nat → Int → Option Addr → Option Addr → Nat → Nat → Int → World → Prop) (m0 : Nat) (h0 : I m0 i5 q3 q4 n9 o0 i6 w0)
 (hr : ∀ m b5 a3 a0 a2 a1 a4 w, I m b5 a3 a0 a2 a1 a4 w →
 w.heap[n7]? = some (.cells #[.pointer a3, .slice a0 a2 a1] 103) →
 w.heap[n8]? = some (.cells #[.int .i64 a4] 3) →
 brB (decide (b5 < i0)) (
 ixA q0 n0 b5 2 fun d4 =>
 yaP w d4 fun e1 => yaF .i64 w (Addr.add d4 1) fun e3 =>
 ∀ c0, w.heap.size ≤ c0 →
 ∀ c4, Adv [] [c0] w c4 → c4.heap[n7]? = some (.cells #[.pointer a3, .slice a0 a2 a1] 103) →
 c4.heap[n8]? = some (.cells #[.int .i64 a4] 3) →
 c4.heap[c0]? = some (.cells #[.string e1, .int .i64 e3] 43) →
 Calls pP 60 #[(.iface 101 (.pointer (some ⟨n7, 0, none⟩))), (.pointer (some ⟨c0, 0, none⟩))] c4 fun e c7 => e = .returned (.tuple #[]) ∧ yaZ [n7, n8, c0] [(n2, 27)] [n2] c4 c7 ∧ ∃ d3 d0 d2 d1, c7.heap[n7]? = some (.cells #[.pointer d3, .slice d0 d2 d1] 103) ∧ ∃ d6, c7.heap[n8]? = some (.cells #[.int .i64 d6] 3) ∧ ∃ e2 e4, c7.heap[c0]? = some (.cells #[.string e2, .int .i64 e4] 43) ∧
 KS (yCa q0 n0 n1 i0 n2 i1 i2 i3 i4 q1 n3 n4 q2 n5 n6 n7 n8 I m) (ykL q0 n0 n1 i0 n2 i1 i2 i3 i4 q1 n3 n4 q2 n5 n6 n7 n8 ((IntKind.wrap .i64 (b5 + 1)), d3, d0, d2, d1, d6)) c7)
 (
 Calls pP 27 #[(.pointer (some ⟨n7, 0, none⟩))] w fun e c8 => ∃ d5, e = .returned (.string d5) ∧ yaZ [n7, n8] [(n2, 27)] [n2] w c8 ∧ ∃ e0 d7 d9 d8, c8.heap[n7]? = some (.cells #[.pointer e0, .slice d7 d9 d8] 103) ∧ ∃ e5, c8.heap[n8]? = some (.cells #[.int .i64 e5] 3) ∧
 R (.tuple #[.string d5, .int .i64 0]) c8)) :
 yaJ yqE (yt2 391 [0, 0, 1, 0, 1, 1, 1, 1, 1, 1, 1]) (yt3 [1, 1, 1, 1, 1, 1, 1, 0, 1, 0] [] R) (ykL q0 n0 n1 i0 n2 i1 i2 i3 i4 q1 n3 n4 q2 n5 n6 n7 n8 (i5, q3, q4, n9, o0, i6)) w0 :=
 lrule (ykL q0 n0 n1 i0 n2 i1 i2 i3 i4 q1 n3 n4 q2 n5 n6 n7 n8) (U6 I) h0 (by rintro m ⟨b5, a3, a0, a2, a1, a4⟩ w h; exact ⟨by kernel_rfl, by kernel_rfl, fun js => Eq.mpr (by kernel_rfl) (hr m b5 a3 a0 a2 a1 a4 w h)⟩)
theorem yFt (h :
 ∀ b1, w.heap.size ≤ b1 →
 ∀ w2, Adv [] [b1] w w2 →
 Calls pP 57 #[(.agg (Z3 i0 i1 i2 i3 q0 n0 n1 q1 n2 n3))] w2 fun e w3 => ∃ x4, e = .returned (.int .i64 x4) ∧ yaI [b1] w2 w3 ∧
 brB (x4 != 0) (
 R (.tuple #[(.string (⟨#[]⟩ : BA)), .int .i64 x4]) w3)
 (
 ∀ b5, w3.heap.size ≤ b5 →
 ∀ w6, Adv [] [b5] w3 w6 →
 al w6 (.cells #[.int .i64 i0, .int .i64 i1, .int .i64 i2, .int .i64 i3, (.int .i64 (n0 : Int))] 3) fun b7 w8 =>
 ∀ b0, Adv [] [] w8 b0 → b0.heap[b5]? = some (.cells #[.pointer none, .slice none 0 0] 103) →
 yaJ yqC (yt2 395 [0, 0, 1, 0, 1, 1, 1]) (yt3 [1, 1, 1, 0, 1, 0] [] R) (ykJ (some ⟨b7, 0, none⟩) 5 5 b1 i0 i1 i2 i3 q0 n0 n1 q1 n2 n3 b5 (0, none, none, 0, 0)) b0)) :
 CR pP 26 #[(.agg (Z3 i0 i1 i2 i3 q0 n0 n1 q1 n2 n3))] w R :=
 yaA Tryz.wide_mixed (an := yr5) Tryz.func26 rfl rfl (by kernel_rfl) rfl (Eq.mpr (by kernel_rfl) h)
end
def bs (l : List UInt8) : ByteArray := ⟨l.toArray⟩
theorem yaE (l : List UInt8) : (bs l).size = l.length := by simp [bs, ByteArray.size]
theorem yi4 (a : List UInt8) (s : ByteArray) : bs a ++ s = bs (a ++ s.data.toList) := by
 apply ByteArray.ext
 simp [bs, ByteArray.data_append]
theorem ybH (a b : List UInt8) : bs a ++ bs b = bs (a ++ b) := by rw [yi4]; simp [bs]
theorem yaN (n : Nat) (hn : n < 18446744073709551616) : 1 ≤ (yaL n).length ∧ (yaL n).length ≤ 10 := by
 have := ye1 9 n (by omega)
 simp [yaL]; omega
def ybP (s : ByteArray) : List UInt8 := yaL s.size ++ s.data.toList
theorem ya0 (s : ByteArray) (hs : s.size ≤ 4611686018427387904) : 1 ≤ (ybP s).length ∧ (ybP s).length ≤ s.size + 10 := by
 have h := yaN s.size (by omega)
 have e : (ybP s).length = (yaL s.size).length + s.size := by rw [ybP, List.length_append, Array.length_toList]; rfl
 omega
theorem ygF {n : Nat} (hn : n < 18446744073709551616) : IntKind.wrap .u64 (n : Int) = (n : Int) := by rw [IntKind.wrap_u64]; omega
theorem yb6 (s : ByteArray) (hs : s.size ≤ 4611686018427387904) (w : World) : Calls pP 28 #[.string s] w fun e w' => e = .returned (.string (bs (ybP s))) ∧ Mod [] w w' := by
 refine yaQ (yFn ?_)
 rw [ygF (by omega)]
 refine (yi0 s.size (by omega) w).mono ?_
 rintro e w1 ⟨rfl, M1⟩
 have h2 := ywU s.size (by omega)
 exact ⟨_, rfl, by omega, congrArg Value.string (yi4 _ _), M1⟩
def yfQ (r : PRec) : UInt8 := if r.tomb then 3 else if r.hk then 1 else 0
theorem yDq (r : PRec) (w : World) : Calls pP 121 #[r.v] w fun e w' => e = .returned (.int .u8 ((yfQ r).toNat : Int)) ∧ Mod [] w w' := by
 obtain ⟨hk, key, tomb, val⟩ := r
 refine yaQ (yIc ?_)
 intro b1 f1
 refine yaB (fun h => ?_) fun h => ?_
 ·intro w1 A1; subst h; exact ⟨rfl, A1.mod⟩
 ·subst h
  refine yaB (fun h => ?_) fun h => ?_
  ·intro w1 A1; subst h; exact ⟨rfl, A1.mod⟩
  ·intro w1 A1; subst h; exact ⟨rfl, A1.mod⟩
def yfR (r : PRec) : List UInt8 := [yfQ r] ++ (if r.hk then ybP r.key else []) ++ (if r.tomb then [] else ybP r.val)
theorem ye3 {r : PRec} (h : ygE r = 0) : r.key.size ≤ 64 ∧ r.val.size ≤ 512 := by
 unfold ygE yEH at h
 split at h
 ·omega
 ·split at h <;> omega
theorem yxP (r : PRec) (hr : ygE r = 0) (w : World) : Calls pP 97 #[r.v] w fun e w' => e = .returned (.string (bs (yfR r))) ∧ Mod [] w w' := by
 obtain ⟨hk, vs⟩ := ye3 hr
 refine yaQ (yFo ?_)
 intro b1 f1 w1 A1
 refine (yDq r w1).mono ?_
 rintro e w2 ⟨rfl, M2⟩
 refine ⟨_, rfl, yaI.of0 M2, ?_⟩
 have N2 := A1.mod.go0 M2 (by simp)
 refine ycZ fun b3 w3 c3 M3 f3 => ?_
 have N3 := N2.go0 M3 (by simp)
 have hcv := run_convert_bytes_back (P := pP) w3 40 9 5 ⟨b3, 0, none⟩ 1 [yfQ r] Tryz.underlying40 Tryz.underlying5 Tryz.underlying9 fun j hj => by
  simp at hj; subst hj
  rw [ya1, yaY c3]; rfl
 refine ⟨_, _, hcv, yaI.of0 (Mod.refl _), ?_⟩
 obtain ⟨h1, key, h3, val⟩ := r
 have e0 : (⟨[yfQ ⟨h1, key, h3, val⟩].toArray⟩ : ByteArray) = bs [yfQ ⟨h1, key, h3, val⟩] := rfl
 rw [e0]
 simp only at hk vs
 have l1 : (ybP key).length ≤ 74 := by have := ya0 key (by omega); omega
 have l2 : (ybP val).length ≤ 522 := by have := ya0 val (by omega); omega
 refine yaB (fun g1 => ?_) fun g1 => ?_
 ·subst g1
  refine (yb6 key (by omega) w3).mono ?_
  rintro e w4 ⟨rfl, M4⟩
  refine ⟨_, rfl, yaI.of0 M4, by simp only [yaE]; simp; omega, ?_⟩
  rw [ybH]
  refine yaB (fun g2 => ?_) fun g2 => ?_
  ·have g2 : h3 = false := yB7 g2
   subst g2
   refine (yb6 val (by omega) w4).mono ?_
   rintro e w5 ⟨rfl, M5⟩
   refine ⟨_, rfl, yaI.of0 M5, by simp only [yaE]; simp; omega, ?_⟩
   exact ⟨by rw [ybH]; simp [yfR], (N3.go0 M4 (by simp)).go0 M5 (by simp)⟩
  ·have g2 : h3 = true := yAJ g2
   subst g2
   exact ⟨by simp [yfR], N3.go0 M4 (by simp)⟩
 ·subst g1
  refine yaB (fun g2 => ?_) fun g2 => ?_
  ·have g2 : h3 = false := yB7 g2
   subst g2
   refine (yb6 val (by omega) w3).mono ?_
   rintro e w5 ⟨rfl, M5⟩
   refine ⟨_, rfl, yaI.of0 M5, by simp only [yaE]; simp; omega, ?_⟩
   exact ⟨by rw [ybH]; simp [yfR], N3.go0 M5 (by simp)⟩
  ·have g2 : h3 = true := yAJ g2
   subst g2
   exact ⟨by simp [yfR], N3⟩
theorem yh6 {r : PRec} (hr : ygE r = 0) : (yfR r).length ≤ 600 := by
 obtain ⟨hk, vs⟩ := ye3 hr
 have l1 : (ybP r.key).length ≤ 74 := by have := ya0 r.key (by omega); omega
 have l2 : (ybP r.val).length ≤ 522 := by have := ya0 r.val (by omega); omega
 unfold yfR
 split <;> split <;> simp <;> omega
theorem yxQ (r : PRec) (w : World) : Calls pP 59 #[r.v] w fun e w' => e = .returned (.tuple #[.string (if ygE r = 0 then bs (yfR r) else bs []), .int .i64 (ygE r)]) ∧ Mod [] w w' := by
 refine yaQ (yFp ?_)
 intro b1 f1 w1 A1
 refine (yeD r w1).mono ?_
 rintro e w2 ⟨rfl, M2⟩
 refine ⟨_, rfl, yaI.of0 M2, ?_⟩
 have N2 := A1.mod.go0 M2 (by simp)
 refine yaB (fun g1 => ?_) fun g1 => ?_
 ·have g : ¬ ygE r = 0 := by simpa using g1
  rw [if_neg g]; exact ⟨rfl, N2⟩
 ·have g : ygE r = 0 := by simpa using g1
  refine (yxP r g w2).mono ?_
  rintro e w3 ⟨rfl, M3⟩
  refine ⟨_, rfl, yaI.of0 M3, ?_, N2.go0 M3 (by simp)⟩
  rw [if_pos g, g]
theorem BTw : BT 103 := ⟨by kernel_rfl, by decide⟩
abbrev Bd (B b : Nat) (l : List UInt8) (w : World) : Prop := Lib.IsBuilderF 103 5 B b (Lib.byteCells l) w
structure Wr (B b : Nat) (w w' : World) : Prop where
 bel : Below B w w'
 oth : Lib.OthersKept 5 (some b) w w'
theorem Wr.of0 {B b : Nat} {w w' : World} (M : Mod [] w w') (hB : B ≤ w.heap.size) : Wr B b w w' :=
 ⟨⟨M.os, M.tape, M.output, M.size, fun k hk => M.block k (by omega) (by simp)⟩, fun k o hk _ _ => M.keep0 hk⟩
theorem Wr.trans {B b : Nat} {x y z : World} (h : Wr B b x y) (k : Wr B b y z) : Wr B b x z := ⟨h.bel.trans k.bel, h.oth.trans k.oth⟩
theorem Bd.keep0 {B b : Nat} {l : List UInt8} {w w' : World} (h : Bd B b l w) (M : Mod [] w w') : Bd B b l w' := by
 have one : ∀ {p bs}, Lib.BuilderAtF 103 5 B b p bs w → Lib.BuilderAtF 103 5 B b p bs w' := by
  rintro p bs ⟨hB, v, hb, ⟨hl, ho⟩, hne⟩
  refine ⟨hB, v, M.keep0 hb, ⟨hl, ?_⟩, hne⟩
  rcases ho with ho | ⟨g, cap, cur, fz, hv, hg, hh, r⟩
  ·exact .inl ho
  ·exact .inr ⟨g, cap, cur, fz, hv, hg, M.keep0 hh, r⟩
 exact h.elim (fun x => .inl (one x)) (fun x => .inr (one x))
theorem Bd.lt {B b : Nat} {l : List UInt8} {w : World} (h : Bd B b l w) : B ≤ b ∧ b < w.heap.size := h.elim (fun x => ⟨x.1, x.lt⟩) (fun x => ⟨x.1, x.lt⟩)
theorem Bd.cells {B b : Nat} {l : List UInt8} {w : World} (h : Bd B b l w) : ∃ (p a : Option Addr) (n c : Nat), w.heap[b]? = some (.cells #[.pointer p, .slice a n c] 103) := by
 have one : ∀ {p bs}, Lib.BuilderAtF 103 5 B b (.pointer p) bs w → ∃ (p a : Option Addr) (n c : Nat), w.heap[b]? = some (.cells #[.pointer p, .slice a n c] 103) := by
  rintro p bs ⟨hB, v, hb, ⟨hl, ho⟩, hne⟩
  rcases ho with ⟨rfl, _⟩ | ⟨g, cap, cur, fz, rfl, hg, hh, r⟩
  ·exact ⟨_, _, _, _, hb⟩
  ·exact ⟨_, _, _, _, hb⟩
 exact h.elim one one
theorem yBf {B b : Nat} {l l2 : List UInt8} {w : World} (h : Bd B b l w) (hlen : l.length + l2.length ≤ 100000000000) (hB : B ≤ w.heap.size) :
  Calls pP 23 #[.pointer (some ⟨b, 0, none⟩), .string (bs l2)] w fun e w' => e = .returned (.tuple #[.int .i64 ((bs l2).size : Nat), .nilIface]) ∧ (Bd B b (l ++ l2) w' ∧ Wr B b w w') := by
 refine (yfD BTw B b (Lib.byteCells l) (bs l2) w h (by rw [Lib.byteCells_length, yaE]; omega) hB).mono ?_
 rintro e w' ⟨rfl, h1, h2, h3⟩
 refine ⟨rfl, .inr ?_, ⟨h2, h3⟩⟩
 have e : Lib.byteCells (l ++ l2) = Lib.byteCells l ++ Lib.strCells (bs l2) := by simp [Lib.byteCells, Lib.strCells, bs]
 rw [e]; exact h1
theorem yfS {B b : Nat} {l : List UInt8} {w : World} {a : Addr} {x : Nat} (h : Bd B b l w) (hlen : l.length ≤ 10000000000) (hB : B ≤ w.heap.size) (ha : w.cell? a = some (.int .i64 (x : Nat))) (hx : x < 9223372036854775808) :
  Calls pP 58 #[.pointer (some ⟨b, 0, none⟩), .pointer (some a)] w fun e w' => e = .returned (.tuple #[]) ∧ (Bd B b (l ++ yaL x) w' ∧ Wr B b w w') := by
 refine yaQ (yFq ?_)
 intro w1 A1
 refine yaD (A1.mod.cell0 ha) ?_
 rw [ygF (by omega)]
 refine (yi0 x (by omega) w1).mono ?_
 rintro e w2 ⟨rfl, M2⟩
 have N2 := A1.mod.go0 M2 (by simp)
 have s2 := N2.size
 have := yaN x (by omega)
 refine ⟨_, rfl, (yBf (h.keep0 N2) (l2 := yaL x) (by omega) (by omega)).mono ?_⟩
 rintro e w3 ⟨rfl, h3, W3⟩
 exact ⟨_, _, rfl, rfl, h3, (Wr.of0 N2 hB).trans W3⟩
theorem ymF {B b : Nat} {l : List UInt8} {w : World} {a : Addr} {s : ByteArray} (h : Bd B b l w) (hlen : l.length ≤ 10000000000) (hB : B ≤ w.heap.size) (ha : w.cell? a = some (.string s)) (hs : s.size ≤ 1000000000) :
  Calls pP 160 #[.pointer (some ⟨b, 0, none⟩), .pointer (some a)] w fun e w' => e = .returned (.tuple #[]) ∧ (Bd B b (l ++ ybP s) w' ∧ Wr B b w w') := by
 refine yaQ (yFr ?_)
 intro w1 A1
 refine yaH (A1.mod.cell0 ha) ?_
 refine (yb6 s (by omega) w1).mono ?_
 rintro e w2 ⟨rfl, M2⟩
 have N2 := A1.mod.go0 M2 (by simp)
 have s2 := N2.size
 have l2 : (ybP s).length ≤ 1000000010 := by have := ya0 s (by omega); omega
 refine ⟨_, rfl, (yBf (h.keep0 N2) (l2 := ybP s) (by omega) (by omega)).mono ?_⟩
 rintro e w3 ⟨rfl, h3, W3⟩
 exact ⟨_, _, rfl, rfl, h3, (Wr.of0 N2 hB).trans W3⟩
section
set_option maxRecDepth 100000
variable {R : VWP} {w w0 : World} {m : Nat} {i0 i1 i2 i3 i4 i5 i6 i7 i8 i9 j0 j1 j2 j3 j4 j5 j6 j7 j8 j9 k0 k1 k2 k3 k4 k5 k6 k7 k8 k9 l0 l1 l2 l3 l4 l5 l6 l7 l8 l9 : Int} {s0 s1 s2 s3 s4 s5 s6 s7 s8 s9 t0 t1 t2 t3 t4 t5 t6 t7 t8 t9 : BA} {n0 n1 n2 n3 n4 n5 n6 n7 n8 n9 o0 o1 o2 o3 o4 o5 o6 o7 o8 o9 p0 p1 p2 p3 p4 p5 p6 p7 p8 p9 : Nat} {q0 q1 q2 q3 q4 q5 q6 q7 q8 q9 r0 r1 r2 r3 r4 r5 r6 r7 r8 r9 : OA} {B0 B1 B2 B3 B4 B5 B6 B7 B8 B9 : Bool} {M0 M1 M2 M3 : Option Nat} {V0 V1 V2 V3 V4 V5 : Value} {A0 A1 A2 : Addr}
theorem yFu (h :
 brB (i1 == 9) (
 brB (decide (i0 > 1)) (
 R (.bool true) w)
 (
 brB (decide (i1 > 0)) (
 R (.bool (i0 == 0)) w)
 (
 R (.bool false) w)))
 (
 brB (decide (i1 > 0)) (
 R (.bool (i0 == 0)) w)
 (
 R (.bool false) w))) :
 CR pP 110 #[.int .u8 i0, .int .i64 i1] w R :=
 yaA Tryz.wide_mixed (an := []) Tryz.func110 rfl rfl (by kernel_rfl) rfl (Eq.mpr (by kernel_rfl) h)
def yqF : LA := ⟨[0, 0, 1, 1, 1, 1], [0, 1, 7, 8], [], 0, []⟩
def yr6 : List LA := [yqF]
abbrev yFv := dnF pP yr6 (code Tryz.f79)
abbrev yI4 := yaO pP yr6 (code Tryz.f79)
abbrev yFw (p : List Nat) (K : List Kh) (R : VWP) := yaO pP yr6 (code Tryz.f79) p K (ya4 pP Tryz.f79 [] R)
def ykM (a0 : BA) (a1 : Int) : Int × Int → List Value × List TB := fun (a2, a3) => ([.string a0, .int .i64 a1, .int .u64 a2, .int .i64 a3], [])
abbrev yCb (a0 : BA) (a1 : Int) (I : Nat → Int → Int → World → Prop) (m : Nat) : Kh := KG (ykM a0 a1) (U2 I) m
theorem yxR {I : Nat → Int → Int → World → Prop} (m' : Nat) (h1 : m' < m) (h2 : I m' i1 i2 w) : KS (yCb s0 i0 I m) (ykM s0 i0 (i1, i2)) w := ⟨m', h1, _, rfl, rfl, h2⟩
theorem yxS {a2 : BA} (I : Nat → Int → Int → World → Prop) (m0 : Nat) (h0 : I m0 i1 i2 w0)
 (hr : ∀ m a3 a0 w, I m a3 a0 w →
 brB (decide ((IntKind.wrap .i64 (i0 + a0)) ≥ (a2.size : Int))) (
 R (.tuple #[.int .u64 0, .int .i64 0, .int .i64 10]) w)
 (
 ixS a2 (IntKind.wrap .i64 (i0 + a0)) fun x1 =>
 Calls pP 110 #[.int .u8 x1, .int .i64 a0] w fun e w2 => ∃ t3, e = .returned (.bool t3) ∧
 brB t3 (
 R (.tuple #[.int .u64 0, .int .i64 0, .int .i64 11]) w2)
 (nn (IntKind.wrap .i64 (7 * a0)) (
 brB (decide (x1 < 128)) (
 R (.tuple #[(.int .u64 (bOr .u64 a3 (IntKind.wrap .u64 ((IntKind.wrap .u64 (yj0 .u8 x1 127)) * 2 ^ (min (Int.toNat (IntKind.wrap .i64 (7 * a0))) 64))))), (.int .i64 (IntKind.wrap .i64 ((IntKind.wrap .i64 (i0 + a0)) + 1))), .int .i64 0]) w2)
 (
 KS (yCb a2 i0 I m) (ykM a2 i0 ((bOr .u64 a3 (IntKind.wrap .u64 ((IntKind.wrap .u64 (yj0 .u8 x1 127)) * 2 ^ (min (Int.toNat (IntKind.wrap .i64 (7 * a0))) 64)))), (IntKind.wrap .i64 (a0 + 1)))) w2))))) :
 yaJ yqF (yFv 395 [0, 0, 1, 1, 1, 1]) (yFw [1, 1, 1, 1, 0] [] R) (ykM a2 i0 (i1, i2)) w0 :=
 lrule (ykM a2 i0) (U2 I) h0 (by rintro m ⟨a3, a0⟩ w h; exact ⟨by kernel_rfl, by kernel_rfl, fun js => Eq.mpr (by kernel_rfl) (hr m a3 a0 w h)⟩)
theorem yFx (h :
 brB (decide (i0 < 0)) (
 R (.tuple #[.int .u64 0, .int .i64 0, .int .i64 1]) w)
 (
 brB (decide (i0 > (s0.size : Int))) (
 R (.tuple #[.int .u64 0, .int .i64 0, .int .i64 1]) w)
 (
 yaJ yqF (yFv 395 [0, 0, 1, 1, 1, 1]) (yFw [1, 1, 1, 1, 0] [] R) (ykM s0 i0 (0, 0)) w))) :
 CR pP 79 #[.string s0, .int .i64 i0] w R :=
 yaA Tryz.wide_mixed (an := yr6) Tryz.func79 rfl rfl (by kernel_rfl) rfl (Eq.mpr (by kernel_rfl) h)
theorem yFy {a1 : BA} (h :
 Calls pP 79 #[.string a1, .int .i64 i0] w fun e w1 => ∃ x2 x3 x4, e = .returned (.tuple #[.int .u64 x2, .int .i64 x3, .int .i64 x4]) ∧
 brB (x4 != 0) (
 R (.tuple (Z2 (⟨#[]⟩ : BA) 0 x4)) w1)
 (
 brB (decide (i1 < 0)) (
 R (.tuple (Z2 (⟨#[]⟩ : BA) 0 2)) w1)
 (
 brB (decide (x2 > (IntKind.wrap .u64 i1))) (
 R (.tuple (Z2 (⟨#[]⟩ : BA) 0 2)) w1)
 (
 brB (decide (x2 > (IntKind.wrap .u64 (IntKind.wrap .i64 ((a1.size : Int) - x3))))) (
 R (.tuple (Z2 (⟨#[]⟩ : BA) 0 10)) w1)
 (
 slS a1 x3 (IntKind.wrap .i64 (x3 + (IntKind.wrap .i64 x2))) fun s5 =>
 R (.tuple (Z2 s5 (IntKind.wrap .i64 (x3 + (IntKind.wrap .i64 x2))) 0)) w1))))) :
 CR pP 78 (Z2 a1 i0 i1) w R :=
 yaA Tryz.wide_mixed (an := []) Tryz.func78 rfl rfl (by kernel_rfl) rfl (Eq.mpr (by kernel_rfl) h)
def yqG : LA := ⟨[0, 0, 1, 0, 1], [0, 3], [], 0, []⟩
def yr7 : List LA := [yqG]
abbrev yFz := dnF pP yr7 (code Tryz.f135)
abbrev yI5 := yaO pP yr7 (code Tryz.f135)
abbrev yFA (p : List Nat) (K : List Kh) (R : VWP) := yaO pP yr7 (code Tryz.f135) p K (ya4 pP Tryz.f135 [] R)
def ykN : Int × Int → List Value × List TB := fun (a0, a1) => ([.int .u32 a0, .int .i64 a1], [])
abbrev yCc (I : Nat → Int → Int → World → Prop) (m : Nat) : Kh := KG (ykN) (U2 I) m
theorem yxT {I : Nat → Int → Int → World → Prop} (m' : Nat) (h1 : m' < m) (h2 : I m' i0 i1 w) : KS (yCc I m) (ykN (i0, i1)) w := ⟨m', h1, _, rfl, rfl, h2⟩
theorem yxU (I : Nat → Int → Int → World → Prop) (m0 : Nat) (h0 : I m0 i0 i1 w0)
 (hr : ∀ m a0 a1 w, I m a0 a1 w →
 brB (decide (a1 < 4)) (nn 1 (
 KS (yCc I m) (ykN ((yd4 .u32 (Int.fdiv a0 (2 ^ (min (Int.toNat 1) 32))) (yj0 .u32 3988292384 (IntKind.wrap .u32 (0 - (yj0 .u32 a0 1))))), (IntKind.wrap .i64 (a1 + 1)))) w))
 (
 R (.int .u32 a0) w)) :
 yaJ yqG (yFz 397 [0, 0, 1, 0, 1]) (yFA [1, 0, 1, 0] [] R) (ykN (i0, i1)) w0 :=
 lrule (ykN) (U2 I) h0 (by rintro m ⟨a0, a1⟩ w h; exact ⟨by kernel_rfl, by kernel_rfl, fun js => Eq.mpr (by kernel_rfl) (hr m a0 a1 w h)⟩)
theorem yFB (h :
 yaJ yqG (yFz 397 [0, 0, 1, 0, 1]) (yFA [1, 0, 1, 0] [] R) (ykN (i0, 0)) w) :
 CR pP 135 #[.int .u32 i0] w R :=
 yaA Tryz.wide_mixed (an := yr7) Tryz.func135 rfl rfl (by kernel_rfl) rfl (Eq.mpr (by kernel_rfl) h)
def yqH : LA := ⟨[0, 0, 1, 0, 1, 1, 1], [0, 1, 2, 4], [(0, 0, 0), (1, 1, 0)], 2, [1]⟩
def yr8 : List LA := [yqH]
abbrev yFC := dnF pP yr8 (code Tryz.f122)
abbrev yI6 := yaO pP yr8 (code Tryz.f122)
abbrev yFD (p : List Nat) (K : List Kh) (R : VWP) := yaO pP yr8 (code Tryz.f122) p K (ya4 pP Tryz.f122 [] R)
def ykO (bm0 bm1 : Nat) : Int × Int × Int × Int × Int × Int × Int × Int × Int × Int × Int × Int × Int × Int × Int × Int × Int → List Value × List TB := fun (b6, a6, a7, a8, a9, b0, b1, b2, b3, b4, b5, a0, a1, a2, a3, a4, a5) => ([(.pointer (some ⟨bm0, 0, none⟩)), (.pointer (some ⟨bm1, 0, none⟩)), (.func (.func 135) #[] #[]), .int .i64 b6], [⟨bm0, 170, [.int .u32 0, .int .u32 0, .int .u32 0, .int .u32 0, .int .u32 0, .int .u32 0, .int .u32 0, .int .u32 0, .int .u32 0, .int .u32 0, .int .u32 0, .int .u32 0, .int .u32 0, .int .u32 0, .int .u32 0, .int .u32 0], false⟩, ⟨bm1, 170, [.int .u32 a6, .int .u32 a7, .int .u32 a8, .int .u32 a9, .int .u32 b0, .int .u32 b1, .int .u32 b2, .int .u32 b3, .int .u32 b4, .int .u32 b5, .int .u32 a0, .int .u32 a1, .int .u32 a2, .int .u32 a3, .int .u32 a4, .int .u32 a5], true⟩])
abbrev yCd (bm0 bm1 : Nat) (I : Nat → Int → Int → Int → Int → Int → Int → Int → Int → Int → Int → Int → Int → Int → Int → Int → Int → Int → World → Prop) (m : Nat) : Kh := KG (ykO bm0 bm1) (U17 I) m
theorem ya5 {I : Nat → Int → Int → Int → Int → Int → Int → Int → Int → Int → Int → Int → Int → Int → Int → Int → Int → Int → World → Prop} (m' : Nat) (h1 : m' < m) (h2 : I m' i0 i1 i2 i3 i4 i5 i6 i7 i8 i9 j0 j1 j2 j3 j4 j5 j6 w) : KS (yCd n0 n1 I m) (ykO n0 n1 (i0, i1, i2, i3, i4, i5, i6, i7, i8, i9, j0, j1, j2, j3, j4, j5, j6)) w := ⟨m', h1, _, rfl, rfl, h2⟩
theorem yxV (I : Nat → Int → Int → Int → Int → Int → Int → Int → Int → Int → Int → Int → Int → Int → Int → Int → Int → Int → World → Prop) (m0 : Nat) (h0 : I m0 i0 i1 i2 i3 i4 i5 i6 i7 i8 i9 j0 j1 j2 j3 j4 j5 j6 w0)
 (hr : ∀ m b6 a6 a7 a8 a9 b0 b1 b2 b3 b4 b5 i2 a1 a2 a3 a4 a5 w, I m b6 a6 a7 a8 a9 b0 b1 b2 b3 b4 b5 i2 a1 a2 a3 a4 a5 w →
 w.heap[n1]? = some (.cells #[.int .u32 a6, .int .u32 a7, .int .u32 a8, .int .u32 a9, .int .u32 b0, .int .u32 b1, .int .u32 b2, .int .u32 b3, .int .u32 b4, .int .u32 b5, .int .u32 i2, .int .u32 a1, .int .u32 a2, .int .u32 a3, .int .u32 a4, .int .u32 a5] 170) →
 brB (decide (b6 < 16)) (
 Calls pP 135 #[(.int .u32 (IntKind.wrap .u32 b6))] w fun e w3 => ∃ x4, e = .returned (.int .u32 x4) ∧ yaZ [n1] [(n0, 170)] [n0] w w3 ∧ ∃ x5 x6 x7 x8 x9 f1 f2 f3 f4 f5 f6 f7 f8 f9 g0 g1, w3.heap[n1]? = some (.cells #[.int .u32 x5, .int .u32 x6, .int .u32 x7, .int .u32 x8, .int .u32 x9, .int .u32 f1, .int .u32 f2, .int .u32 f3, .int .u32 f4, .int .u32 f5, .int .u32 f6, .int .u32 f7, .int .u32 f8, .int .u32 f9, .int .u32 g0, .int .u32 g1] 170) ∧ 0 ≤ b6 ∧ b6 < ((16 : Nat) : Int) ∧
 st w3 (Addr.add ⟨n1, 0, none⟩ (Int.toNat b6 * 1)) [.int .u32 x4] fun d2 => yaZ [n1] [(n0, 170)] [n0] w3 d2 ∧ ∃ d5 d6 d7 d8 d9 e0 e1 e2 e3 e4 e5 e6 e7 e8 e9 f0, d2.heap[n1]? = some (.cells #[.int .u32 d5, .int .u32 d6, .int .u32 d7, .int .u32 d8, .int .u32 d9, .int .u32 e0, .int .u32 e1, .int .u32 e2, .int .u32 e3, .int .u32 e4, .int .u32 e5, .int .u32 e6, .int .u32 e7, .int .u32 e8, .int .u32 e9, .int .u32 f0] 170) ∧
 KS (yCd n0 n1 I m) (ykO n0 n1 ((IntKind.wrap .i64 (b6 + 1)), d5, d6, d7, d8, d9, e0, e1, e2, e3, e4, e5, e6, e7, e8, e9, f0)) d2)
 (
 ∀ d3, Adv [n0] [] w d3 → d3.heap[n1]? = some (.cells #[.int .u32 a6, .int .u32 a7, .int .u32 a8, .int .u32 a9, .int .u32 b0, .int .u32 b1, .int .u32 b2, .int .u32 b3, .int .u32 b4, .int .u32 b5, .int .u32 i2, .int .u32 a1, .int .u32 a2, .int .u32 a3, .int .u32 a4, .int .u32 a5] 170) →
 R (.agg #[.int .u32 a6, .int .u32 a7, .int .u32 a8, .int .u32 a9, .int .u32 b0, .int .u32 b1, .int .u32 b2, .int .u32 b3, .int .u32 b4, .int .u32 b5, .int .u32 i2, .int .u32 a1, .int .u32 a2, .int .u32 a3, .int .u32 a4, .int .u32 a5]) d3)) :
 yaJ yqH (yFC 395 [0, 0, 1, 0, 1, 1, 1]) (yFD [1, 1, 1, 0, 1, 0] [] R) (ykO n0 n1 (i0, i1, i2, i3, i4, i5, i6, i7, i8, i9, j0, j1, j2, j3, j4, j5, j6)) w0 :=
 lrule (ykO n0 n1) (U17 I) h0 (by rintro m ⟨b6, a6, a7, a8, a9, b0, b1, b2, b3, b4, b5, i2, a1, a2, a3, a4, a5⟩ w h; exact ⟨by kernel_rfl, by kernel_rfl, fun js => Eq.mpr (by kernel_rfl) (hr m b6 a6 a7 a8 a9 b0 b1 b2 b3 b4 b5 i2 a1 a2 a3 a4 a5 w h)⟩)
theorem yFE (h :
 ∀ b1, w.heap.size ≤ b1 →
 ∀ b2, w.heap.size ≤ b2 →
 ∀ a0, Adv [] [b2, b1] w a0 → a0.heap[b2]? = some (.cells #[.int .u32 0, .int .u32 0, .int .u32 0, .int .u32 0, .int .u32 0, .int .u32 0, .int .u32 0, .int .u32 0, .int .u32 0, .int .u32 0, .int .u32 0, .int .u32 0, .int .u32 0, .int .u32 0, .int .u32 0, .int .u32 0] 170) →
 yaJ yqH (yFC 395 [0, 0, 1, 0, 1, 1, 1]) (yFD [1, 1, 1, 0, 1, 0] [] R) (ykO b1 b2 (0, 0, 0, 0, 0, 0, 0, 0, 0, 0, 0, 0, 0, 0, 0, 0, 0)) a0) :
 CR pP 122 #[] w R :=
 yaA Tryz.wide_mixed (an := yr8) Tryz.func122 rfl rfl (by kernel_rfl) rfl (Eq.mpr (by kernel_rfl) h)
def yqI : LA := ⟨[0, 0, 1, 0, 1, 1, 1], [1, 5, 6, 12, 13], [(5, 0, 0)], 1, [0]⟩
def yr9 : List LA := [yqI]
abbrev yFF := dnF pP yr9 (code Tryz.f98)
abbrev yI7 := yaO pP yr9 (code Tryz.f98)
abbrev yFG (p : List Nat) (K : List Kh) (R : VWP) := yaO pP yr9 (code Tryz.f98) p K (ya4 pP Tryz.f98 [] R)
def ykP (b8 : BA) (b6 : Int) (bm0 : Nat) (a6 a7 a8 a9 b0 b1 b2 b3 b4 b5 a0 a1 a2 a3 a4 a5 : Int) : Int × Int → List Value × List TB := fun (b9, b7) => ([.string b8, (.pointer (some ⟨bm0, 0, none⟩)), .int .u32 b9, .int .i64 b6, .int .i64 b7], [⟨bm0, 170, [.int .u32 a6, .int .u32 a7, .int .u32 a8, .int .u32 a9, .int .u32 b0, .int .u32 b1, .int .u32 b2, .int .u32 b3, .int .u32 b4, .int .u32 b5, .int .u32 a0, .int .u32 a1, .int .u32 a2, .int .u32 a3, .int .u32 a4, .int .u32 a5], true⟩])
abbrev yCe (b7 : BA) (b6 : Int) (bm0 : Nat) (a6 a7 a8 a9 b0 b1 b2 b3 b4 b5 a0 a1 a2 a3 a4 a5 : Int) (I : Nat → Int → Int → World → Prop) (m : Nat) : Kh := KG (ykP b7 b6 bm0 a6 a7 a8 a9 b0 b1 b2 b3 b4 b5 a0 a1 a2 a3 a4 a5) (U2 I) m
theorem yxW {I : Nat → Int → Int → World → Prop} (m' : Nat) (h1 : m' < m) (h2 : I m' j7 j8 w) : KS (yCe s0 i0 n0 i1 i2 i3 i4 i5 i6 i7 i8 i9 j0 j1 j2 j3 j4 j5 j6 I m) (ykP s0 i0 n0 i1 i2 i3 i4 i5 i6 i7 i8 i9 j0 j1 j2 j3 j4 j5 j6 (j7, j8)) w := ⟨m', h1, _, rfl, rfl, h2⟩
theorem yxX (I : Nat → Int → Int → World → Prop) (m0 : Nat) (h0 : I m0 j7 j8 w0)
 (hr : ∀ m a6 b7 w, I m a6 b7 w →
 w.heap[n0]? = some (.cells #[.int .u32 i1, .int .u32 i2, .int .u32 i3, .int .u32 i4, .int .u32 i5, .int .u32 i6, .int .u32 i7, .int .u32 i8, .int .u32 i9, .int .u32 j0, .int .u32 j1, .int .u32 j2, .int .u32 j3, .int .u32 j4, .int .u32 j5, .int .u32 j6] 170) →
 brB (decide (b7 < i0)) (
 ixS s0 b7 fun b8 => nn 4 (nz 16 (0 ≤ (Int.tmod (yd4 .u32 a6 (IntKind.wrap .u32 b8)) 16) ∧ (Int.tmod (yd4 .u32 a6 (IntKind.wrap .u32 b8)) 16) < ((16 : Nat) : Int) ∧
 yaF .u32 w (Addr.add ⟨n0, 0, none⟩ (Int.toNat (Int.tmod (yd4 .u32 a6 (IntKind.wrap .u32 b8)) 16) * 1)) fun c1 => nn 4 (nz 16 (0 ≤ (Int.tmod (yd4 .u32 (Int.fdiv (yd4 .u32 a6 (IntKind.wrap .u32 b8)) (2 ^ (min (Int.toNat 4) 32))) c1) 16) ∧ (Int.tmod (yd4 .u32 (Int.fdiv (yd4 .u32 a6 (IntKind.wrap .u32 b8)) (2 ^ (min (Int.toNat 4) 32))) c1) 16) < ((16 : Nat) : Int) ∧
 yaF .u32 w (Addr.add ⟨n0, 0, none⟩ (Int.toNat (Int.tmod (yd4 .u32 (Int.fdiv (yd4 .u32 a6 (IntKind.wrap .u32 b8)) (2 ^ (min (Int.toNat 4) 32))) c1) 16) * 1)) fun c4 =>
 KS (yCe s0 i0 n0 i1 i2 i3 i4 i5 i6 i7 i8 i9 j0 j1 j2 j3 j4 j5 j6 I m) (ykP s0 i0 n0 i1 i2 i3 i4 i5 i6 i7 i8 i9 j0 j1 j2 j3 j4 j5 j6 ((yd4 .u32 (Int.fdiv (yd4 .u32 (Int.fdiv (yd4 .u32 a6 (IntKind.wrap .u32 b8)) (2 ^ (min (Int.toNat 4) 32))) c1) (2 ^ (min (Int.toNat 4) 32))) c4), (IntKind.wrap .i64 (b7 + 1)))) w)))))
 (
 R (.int .u32 (yd4 .u32 4294967295 a6)) w)) :
 yaJ yqI (yFF 395 [0, 0, 1, 0, 1, 1, 1]) (yFG [1, 1, 1, 0, 1, 0] [] R) (ykP s0 i0 n0 i1 i2 i3 i4 i5 i6 i7 i8 i9 j0 j1 j2 j3 j4 j5 j6 (j7, j8)) w0 :=
 lrule (ykP s0 i0 n0 i1 i2 i3 i4 i5 i6 i7 i8 i9 j0 j1 j2 j3 j4 j5 j6) (U2 I) h0 (by rintro m ⟨a6, b7⟩ w h; exact ⟨by kernel_rfl, by kernel_rfl, fun js => Eq.mpr (by kernel_rfl) (hr m a6 b7 w h)⟩)
theorem yFH (h :
 Calls pP 122 #[] w fun e w1 => ∃ x2 x3 x4 x5 x6 x7 x8 x9 a4 a5 a6 a7 a8 a9 b0 b1, e = .returned (.agg #[.int .u32 x2, .int .u32 x3, .int .u32 x4, .int .u32 x5, .int .u32 x6, .int .u32 x7, .int .u32 x8, .int .u32 x9, .int .u32 a4, .int .u32 a5, .int .u32 a6, .int .u32 a7, .int .u32 a8, .int .u32 a9, .int .u32 b0, .int .u32 b1]) ∧
 ∀ a2, w1.heap.size ≤ a2 →
 ∀ a3, Adv [] [a2] w1 a3 → a3.heap[a2]? = some (.cells #[.int .u32 x2, .int .u32 x3, .int .u32 x4, .int .u32 x5, .int .u32 x6, .int .u32 x7, .int .u32 x8, .int .u32 x9, .int .u32 a4, .int .u32 a5, .int .u32 a6, .int .u32 a7, .int .u32 a8, .int .u32 a9, .int .u32 b0, .int .u32 b1] 170) →
 yaJ yqI (yFF 395 [0, 0, 1, 0, 1, 1, 1]) (yFG [1, 1, 1, 0, 1, 0] [] R) (ykP s0 (s0.size : Int) a2 x2 x3 x4 x5 x6 x7 x8 x9 a4 a5 a6 a7 a8 a9 b0 b1 ((yd4 .u32 4294967295 i0), 0)) a3) :
 CR pP 98 #[.int .u32 i0, .string s0] w R :=
 yaA Tryz.wide_mixed (an := yr9) Tryz.func98 rfl rfl (by kernel_rfl) rfl (Eq.mpr (by kernel_rfl) h)
theorem yFI (h :
 Calls pP 98 #[.int .u32 0, .string s0] w fun e w1 => ∃ x2, e = .returned (.int .u32 x2) ∧
 R (.int .u32 x2) w1) :
 CR pP 62 #[.string s0] w R :=
 yaA Tryz.wide_mixed (an := []) Tryz.func62 rfl rfl (by kernel_rfl) rfl (Eq.mpr (by kernel_rfl) h)
def yqJ : LA := ⟨[0, 0, 1, 0, 1, 1], [0, 3, 7, 8], [], 0, []⟩
def ysA : List LA := [yqJ]
abbrev yFJ := dnF pP ysA (code Tryz.f61)
abbrev yI8 := yaO pP ysA (code Tryz.f61)
abbrev yFK (p : List Nat) (K : List Kh) (R : VWP) := yaO pP ysA (code Tryz.f61) p K (ya4 pP Tryz.f61 [] R)
def ykQ (a3 : Int) (a0 : OA) (a2 a1 : Nat) (a4 : Int) : Int → List Value × List TB := fun a5 => ([.int .u32 a3, .slice a0 a2 a1, .int .i64 a4, .int .i64 a5], [])
abbrev yCf (a3 : Int) (a0 : OA) (a2 a1 : Nat) (a4 : Int) (I : Nat → Int → World → Prop) (m : Nat) : Kh := KG (ykQ a3 a0 a2 a1 a4) (U1 I) m
theorem yxY {I : Nat → Int → World → Prop} (m' : Nat) (h1 : m' < m) (h2 : I m' i2 w) : KS (yCf i0 q0 n0 n1 i1 I m) (ykQ i0 q0 n0 n1 i1 i2) w := ⟨m', h1, _, rfl, rfl, h2⟩
theorem yxZ {a1 : OA} (I : Nat → Int → World → Prop) (m0 : Nat) (h0 : I m0 i2 w0)
 (hr : ∀ m a0 w, I m a0 w →
 brB (decide (a0 < i1)) (nn (IntKind.wrap .i64 (8 * a0)) (
 ixA a1 n0 a0 1 fun q5 =>
 st w q5 [(.int .u8 (IntKind.wrap .u8 (Int.fdiv i0 (2 ^ (min (Int.toNat (IntKind.wrap .i64 (8 * a0))) 32)))))] fun w6 =>
 KS (yCf i0 a1 n0 n1 i1 I m) (ykQ i0 a1 n0 n1 i1 (IntKind.wrap .i64 (a0 + 1))) w6))
 (
 ∃ s7 w8, Sem.run pP (Go.convert 40 9 (.slice a1 n0 n1)) w = .ok (.string s7) w8 ∧
 R (.string s7) w8)) :
 yaJ yqJ (yFJ 396 [0, 0, 1, 0, 1, 1]) (yFK [1, 1, 0, 1, 0] [] R) (ykQ i0 a1 n0 n1 i1 i2) w0 :=
 lrule (ykQ i0 a1 n0 n1 i1) (U1 I) h0 (by rintro m a0 w h; exact ⟨by kernel_rfl, by kernel_rfl, fun js => Eq.mpr (by kernel_rfl) (hr m a0 w h)⟩)
theorem yFL (h :
 ycN pP (Instr.makeSlice 40 (.int .i64 4) (.int .i64 4)) w fun a1 n2 c3 w4 =>
 yaJ yqJ (yFJ 396 [0, 0, 1, 0, 1, 1]) (yFK [1, 1, 0, 1, 0] [] R) (ykQ i0 a1 n2 c3 (n2 : Int) 0) w4) :
 CR pP 61 #[.int .u32 i0] w R :=
 yaA Tryz.wide_mixed (an := ysA) Tryz.func61 rfl rfl (by kernel_rfl) rfl (Eq.mpr (by kernel_rfl) h)
theorem yFM {a0 : BA} (h :
 Calls pP 28 #[.string a0] w fun e w1 => ∃ s2, e = .returned (.string s2) ∧
 Calls pP 62 #[.string a0] w1 fun e w3 => ∃ x4, e = .returned (.int .u32 x4) ∧
 Calls pP 61 #[.int .u32 x4] w3 fun e w5 => ∃ s6, e = .returned (.string s6) ∧
 yfC s2 s6 fun s7 =>
 R (.string s7) w5) :
 CR pP 29 #[.string a0] w R :=
 yaA Tryz.wide_mixed (an := []) Tryz.func29 rfl rfl (by kernel_rfl) rfl (Eq.mpr (by kernel_rfl) h)
theorem yFN {a1 : BA} (h :
 Calls pP 78 (Z2 a1 i0 i1) w fun e w1 => ∃ s2 x3 x4, e = .returned (.tuple (Z2 s2 x3 x4)) ∧
 brB (x4 != 0) (
 R (.tuple (Z2 (⟨#[]⟩ : BA) 0 x4)) w1)
 (
 brB (decide ((IntKind.wrap .i64 ((a1.size : Int) - x3)) < 4)) (
 R (.tuple (Z2 (⟨#[]⟩ : BA) 0 20)) w1)
 (
 slS a1 x3 (IntKind.wrap .i64 (x3 + 4)) fun s5 =>
 ∀ w6, Adv [] [] w1 w6 →
 Calls pP 62 #[.string s2] w6 fun e w7 => ∃ x8, e = .returned (.int .u32 x8) ∧
 Calls pP 61 #[.int .u32 x8] w7 fun e w9 => ∃ a3, e = .returned (.string a3) ∧
 brB (!(s5.toList == a3.toList)) (
 R (.tuple (Z2 (⟨#[]⟩ : BA) 0 21)) w9)
 (
 R (.tuple (Z2 s2 (IntKind.wrap .i64 (x3 + 4)) 0)) w9)))) :
 CR pP 41 (Z2 a1 i0 i1) w R :=
 yaA Tryz.wide_mixed (an := []) Tryz.func41 rfl rfl (by kernel_rfl) rfl (Eq.mpr (by kernel_rfl) h)
end
theorem ykR {x y : Int} : 0 ≤ yd4 .u32 x y ∧ yd4 .u32 x y < 4294967296 := by
 unfold yd4
 rw [IntKind.wrap_u32]
 omega
def ymG (c : Int) : Int := yd4 .u32 (Int.fdiv c (2 ^ (min (Int.toNat 1) 32))) (yj0 .u32 3988292384 (IntKind.wrap .u32 (0 - (yj0 .u32 c 1))))
def yt4 (c : Int) : Nat → Int
 | 0 => c
 | k + 1 => ymG (yt4 c k)
def ydY (j : Nat) : Int := yt4 (IntKind.wrap .u32 (j : Nat)) 4
theorem yFO (c : Int) (w : World) : Calls pP 135 #[.int .u32 c] w fun e w' => e = .returned (.int .u32 (yt4 c 4)) ∧ w' = w := by
 refine yaQ (yFB ?_)
 refine yxU (fun mm x y w' => ∃ k : Nat, y = k ∧ k ≤ 4 ∧ x = yt4 c k ∧ w' = w ∧ mm = 4 - k) 4 ⟨0, rfl, by omega, rfl, rfl, rfl⟩ ?_
 rintro mm x y w' ⟨k, rfl, hk, rfl, rfl, rfl⟩
 refine yaC (fun h => ⟨by omega, ?_⟩) fun h => ?_
 ·exact yxT (4 - (k + 1)) (by omega) ⟨k + 1, by rw [yaG (by omega) (by omega)]; omega, by omega, rfl, rfl, rfl⟩
 ·have hk : k = 4 := by omega
  subst hk
  exact ⟨rfl, rfl⟩
def yaK (k j : Nat) : Int := if j < k then ydY j else 0
def yI9 : Value := .agg #[.int .u32 (ydY 0), .int .u32 (ydY 1), .int .u32 (ydY 2), .int .u32 (ydY 3), .int .u32 (ydY 4), .int .u32 (ydY 5), .int .u32 (ydY 6), .int .u32 (ydY 7), .int .u32 (ydY 8), .int .u32 (ydY 9), .int .u32 (ydY 10), .int .u32 (ydY 11), .int .u32 (ydY 12), .int .u32 (ydY 13), .int .u32 (ydY 14), .int .u32 (ydY 15)]
set_option maxHeartbeats 4000000 in
theorem yDr (w : World) : Calls pP 122 #[] w fun e w' => e = .returned yI9 ∧ Mod [] w w' := by
 refine yaQ (yFE ?_)
 intro b1 f1 b2 f2 w0 A0 h0
 refine yxV (fun mm x x0 x1 x2 x3 x4 x5 x6 x7 x8 x9 x10 x11 x12 x13 x14 x15 w' => ∃ k : Nat, x = k ∧ k ≤ 16 ∧ x0 = yaK k 0 ∧ x1 = yaK k 1 ∧ x2 = yaK k 2 ∧ x3 = yaK k 3 ∧ x4 = yaK k 4 ∧ x5 = yaK k 5 ∧ x6 = yaK k 6 ∧ x7 = yaK k 7 ∧ x8 = yaK k 8 ∧ x9 = yaK k 9 ∧ x10 = yaK k 10 ∧ x11 = yaK k 11 ∧ x12 = yaK k 12 ∧ x13 = yaK k 13 ∧ x14 = yaK k 14 ∧ x15 = yaK k 15 ∧ Mod [] w w' ∧ mm = 16 - k) 16 ⟨0, rfl, by omega, rfl, rfl, rfl, rfl, rfl, rfl, rfl, rfl, rfl, rfl, rfl, rfl, rfl, rfl, rfl, rfl, A0.mod, rfl⟩ ?_
 rintro mm x x0 x1 x2 x3 x4 x5 x6 x7 x8 x9 x10 x11 x12 x13 x14 x15 w1 ⟨k, rfl, hk, rfl, rfl, rfl, rfl, rfl, rfl, rfl, rfl, rfl, rfl, rfl, rfl, rfl, rfl, rfl, rfl, M1, rfl⟩ hc
 refine yaC (fun hlt => ?_) fun hge => ?_
 ·refine (yFO _ w1).mono ?_
  rintro e w2 ⟨rfl, rfl⟩
  refine ⟨_, rfl, yaI.of0 (Mod.refl _), _, _, _, _, _, _, _, _, _, _, _, _, _, _, _, _, hc, by omega, by omega, ?_⟩
  have hb2 : w.heap.size ≤ b2 := f2
  rw [show (⟨b2, 0, none⟩ : Addr).add (Int.toNat (k : Int) * 1) = ⟨b2, k, none⟩ by rw [ya1]; simp]
  refine yc7 (b := b2) (o := k) hc rfl (by simp; omega) fun w3 h3 M3 => ?_
  refine ⟨yaI.ofE M3 fun b hb _ he => by simpa using he, ?_⟩
  have hM : Mod [] w w3 := M1.go0 M3 (by simpa using f2)
  have ek : IntKind.wrap .i64 ((k : Int) + 1) = ((k + 1 : Nat) : Int) := by rw [yaG (by omega) (by omega)]; omega
  have hcs : k = 0 ∨ k = 1 ∨ k = 2 ∨ k = 3 ∨ k = 4 ∨ k = 5 ∨ k = 6 ∨ k = 7 ∨ k = 8 ∨ k = 9 ∨ k = 10 ∨ k = 11 ∨ k = 12 ∨ k = 13 ∨ k = 14 ∨ k = 15 := by omega
  rcases hcs with rfl | rfl | rfl | rfl | rfl | rfl | rfl | rfl | rfl | rfl | rfl | rfl | rfl | rfl | rfl | rfl
  ·exact ⟨yaK 1 0, yaK 1 1, yaK 1 2, yaK 1 3, yaK 1 4, yaK 1 5, yaK 1 6, yaK 1 7, yaK 1 8, yaK 1 9, yaK 1 10, yaK 1 11, yaK 1 12, yaK 1 13, yaK 1 14, yaK 1 15, h3, ya5 (16 - (0 + 1)) (by omega) ⟨0 + 1, ek, by omega, rfl, rfl, rfl, rfl, rfl, rfl, rfl, rfl, rfl, rfl, rfl, rfl, rfl, rfl, rfl, rfl, hM, rfl⟩⟩
  ·exact ⟨yaK 2 0, yaK 2 1, yaK 2 2, yaK 2 3, yaK 2 4, yaK 2 5, yaK 2 6, yaK 2 7, yaK 2 8, yaK 2 9, yaK 2 10, yaK 2 11, yaK 2 12, yaK 2 13, yaK 2 14, yaK 2 15, h3, ya5 (16 - (1 + 1)) (by omega) ⟨1 + 1, ek, by omega, rfl, rfl, rfl, rfl, rfl, rfl, rfl, rfl, rfl, rfl, rfl, rfl, rfl, rfl, rfl, rfl, hM, rfl⟩⟩
  ·exact ⟨yaK 3 0, yaK 3 1, yaK 3 2, yaK 3 3, yaK 3 4, yaK 3 5, yaK 3 6, yaK 3 7, yaK 3 8, yaK 3 9, yaK 3 10, yaK 3 11, yaK 3 12, yaK 3 13, yaK 3 14, yaK 3 15, h3, ya5 (16 - (2 + 1)) (by omega) ⟨2 + 1, ek, by omega, rfl, rfl, rfl, rfl, rfl, rfl, rfl, rfl, rfl, rfl, rfl, rfl, rfl, rfl, rfl, rfl, hM, rfl⟩⟩
  ·exact ⟨yaK 4 0, yaK 4 1, yaK 4 2, yaK 4 3, yaK 4 4, yaK 4 5, yaK 4 6, yaK 4 7, yaK 4 8, yaK 4 9, yaK 4 10, yaK 4 11, yaK 4 12, yaK 4 13, yaK 4 14, yaK 4 15, h3, ya5 (16 - (3 + 1)) (by omega) ⟨3 + 1, ek, by omega, rfl, rfl, rfl, rfl, rfl, rfl, rfl, rfl, rfl, rfl, rfl, rfl, rfl, rfl, rfl, rfl, hM, rfl⟩⟩
  ·exact ⟨yaK 5 0, yaK 5 1, yaK 5 2, yaK 5 3, yaK 5 4, yaK 5 5, yaK 5 6, yaK 5 7, yaK 5 8, yaK 5 9, yaK 5 10, yaK 5 11, yaK 5 12, yaK 5 13, yaK 5 14, yaK 5 15, h3, ya5 (16 - (4 + 1)) (by omega) ⟨4 + 1, ek, by omega, rfl, rfl, rfl, rfl, rfl, rfl, rfl, rfl, rfl, rfl, rfl, rfl, rfl, rfl, rfl, rfl, hM, rfl⟩⟩
  ·exact ⟨yaK 6 0, yaK 6 1, yaK 6 2, yaK 6 3, yaK 6 4, yaK 6 5, yaK 6 6, yaK 6 7, yaK 6 8, yaK 6 9, yaK 6 10, yaK 6 11, yaK 6 12, yaK 6 13, yaK 6 14, yaK 6 15, h3, ya5 (16 - (5 + 1)) (by omega) ⟨5 + 1, ek, by omega, rfl, rfl, rfl, rfl, rfl, rfl, rfl, rfl, rfl, rfl, rfl, rfl, rfl, rfl, rfl, rfl, hM, rfl⟩⟩
  ·exact ⟨yaK 7 0, yaK 7 1, yaK 7 2, yaK 7 3, yaK 7 4, yaK 7 5, yaK 7 6, yaK 7 7, yaK 7 8, yaK 7 9, yaK 7 10, yaK 7 11, yaK 7 12, yaK 7 13, yaK 7 14, yaK 7 15, h3, ya5 (16 - (6 + 1)) (by omega) ⟨6 + 1, ek, by omega, rfl, rfl, rfl, rfl, rfl, rfl, rfl, rfl, rfl, rfl, rfl, rfl, rfl, rfl, rfl, rfl, hM, rfl⟩⟩
  ·exact ⟨yaK 8 0, yaK 8 1, yaK 8 2, yaK 8 3, yaK 8 4, yaK 8 5, yaK 8 6, yaK 8 7, yaK 8 8, yaK 8 9, yaK 8 10, yaK 8 11, yaK 8 12, yaK 8 13, yaK 8 14, yaK 8 15, h3, ya5 (16 - (7 + 1)) (by omega) ⟨7 + 1, ek, by omega, rfl, rfl, rfl, rfl, rfl, rfl, rfl, rfl, rfl, rfl, rfl, rfl, rfl, rfl, rfl, rfl, hM, rfl⟩⟩
  ·exact ⟨yaK 9 0, yaK 9 1, yaK 9 2, yaK 9 3, yaK 9 4, yaK 9 5, yaK 9 6, yaK 9 7, yaK 9 8, yaK 9 9, yaK 9 10, yaK 9 11, yaK 9 12, yaK 9 13, yaK 9 14, yaK 9 15, h3, ya5 (16 - (8 + 1)) (by omega) ⟨8 + 1, ek, by omega, rfl, rfl, rfl, rfl, rfl, rfl, rfl, rfl, rfl, rfl, rfl, rfl, rfl, rfl, rfl, rfl, hM, rfl⟩⟩
  ·exact ⟨yaK 10 0, yaK 10 1, yaK 10 2, yaK 10 3, yaK 10 4, yaK 10 5, yaK 10 6, yaK 10 7, yaK 10 8, yaK 10 9, yaK 10 10, yaK 10 11, yaK 10 12, yaK 10 13, yaK 10 14, yaK 10 15, h3, ya5 (16 - (9 + 1)) (by omega) ⟨9 + 1, ek, by omega, rfl, rfl, rfl, rfl, rfl, rfl, rfl, rfl, rfl, rfl, rfl, rfl, rfl, rfl, rfl, rfl, hM, rfl⟩⟩
  ·exact ⟨yaK 11 0, yaK 11 1, yaK 11 2, yaK 11 3, yaK 11 4, yaK 11 5, yaK 11 6, yaK 11 7, yaK 11 8, yaK 11 9, yaK 11 10, yaK 11 11, yaK 11 12, yaK 11 13, yaK 11 14, yaK 11 15, h3, ya5 (16 - (10 + 1)) (by omega) ⟨10 + 1, ek, by omega, rfl, rfl, rfl, rfl, rfl, rfl, rfl, rfl, rfl, rfl, rfl, rfl, rfl, rfl, rfl, rfl, hM, rfl⟩⟩
  ·exact ⟨yaK 12 0, yaK 12 1, yaK 12 2, yaK 12 3, yaK 12 4, yaK 12 5, yaK 12 6, yaK 12 7, yaK 12 8, yaK 12 9, yaK 12 10, yaK 12 11, yaK 12 12, yaK 12 13, yaK 12 14, yaK 12 15, h3, ya5 (16 - (11 + 1)) (by omega) ⟨11 + 1, ek, by omega, rfl, rfl, rfl, rfl, rfl, rfl, rfl, rfl, rfl, rfl, rfl, rfl, rfl, rfl, rfl, rfl, hM, rfl⟩⟩
  ·exact ⟨yaK 13 0, yaK 13 1, yaK 13 2, yaK 13 3, yaK 13 4, yaK 13 5, yaK 13 6, yaK 13 7, yaK 13 8, yaK 13 9, yaK 13 10, yaK 13 11, yaK 13 12, yaK 13 13, yaK 13 14, yaK 13 15, h3, ya5 (16 - (12 + 1)) (by omega) ⟨12 + 1, ek, by omega, rfl, rfl, rfl, rfl, rfl, rfl, rfl, rfl, rfl, rfl, rfl, rfl, rfl, rfl, rfl, rfl, hM, rfl⟩⟩
  ·exact ⟨yaK 14 0, yaK 14 1, yaK 14 2, yaK 14 3, yaK 14 4, yaK 14 5, yaK 14 6, yaK 14 7, yaK 14 8, yaK 14 9, yaK 14 10, yaK 14 11, yaK 14 12, yaK 14 13, yaK 14 14, yaK 14 15, h3, ya5 (16 - (13 + 1)) (by omega) ⟨13 + 1, ek, by omega, rfl, rfl, rfl, rfl, rfl, rfl, rfl, rfl, rfl, rfl, rfl, rfl, rfl, rfl, rfl, rfl, hM, rfl⟩⟩
  ·exact ⟨yaK 15 0, yaK 15 1, yaK 15 2, yaK 15 3, yaK 15 4, yaK 15 5, yaK 15 6, yaK 15 7, yaK 15 8, yaK 15 9, yaK 15 10, yaK 15 11, yaK 15 12, yaK 15 13, yaK 15 14, yaK 15 15, h3, ya5 (16 - (14 + 1)) (by omega) ⟨14 + 1, ek, by omega, rfl, rfl, rfl, rfl, rfl, rfl, rfl, rfl, rfl, rfl, rfl, rfl, rfl, rfl, rfl, rfl, hM, rfl⟩⟩
  ·exact ⟨yaK 16 0, yaK 16 1, yaK 16 2, yaK 16 3, yaK 16 4, yaK 16 5, yaK 16 6, yaK 16 7, yaK 16 8, yaK 16 9, yaK 16 10, yaK 16 11, yaK 16 12, yaK 16 13, yaK 16 14, yaK 16 15, h3, ya5 (16 - (15 + 1)) (by omega) ⟨15 + 1, ek, by omega, rfl, rfl, rfl, rfl, rfl, rfl, rfl, rfl, rfl, rfl, rfl, rfl, rfl, rfl, rfl, rfl, hM, rfl⟩⟩
 ·have hk : k = 16 := by omega
  subst hk
  intro w2 A2 _
  exact ⟨rfl, M1.go0 A2.mod (by simpa using f1)⟩
def ydB (c : Int) (b : UInt8) : Int :=
 yd4 .u32 (Int.fdiv (yd4 .u32 (Int.fdiv (yd4 .u32 c (IntKind.wrap .u32 (b.toNat : Nat))) (2 ^ (min (Int.toNat 4) 32))) (ydY (Int.tmod (yd4 .u32 c (IntKind.wrap .u32 (b.toNat : Nat))) 16).toNat)) (2 ^ (min (Int.toNat 4) 32)))
  (ydY (Int.tmod (yd4 .u32 (Int.fdiv (yd4 .u32 c (IntKind.wrap .u32 (b.toNat : Nat))) (2 ^ (min (Int.toNat 4) 32))) (ydY (Int.tmod (yd4 .u32 c (IntKind.wrap .u32 (b.toNat : Nat))) 16).toNat)) 16).toNat)
theorem ysB {w : World} {b : Nat} {T : TypeId} (h : w.heap[b]? = some (.cells #[.int .u32 (ydY 0), .int .u32 (ydY 1), .int .u32 (ydY 2), .int .u32 (ydY 3), .int .u32 (ydY 4), .int .u32 (ydY 5), .int .u32 (ydY 6), .int .u32 (ydY 7), .int .u32 (ydY 8), .int .u32 (ydY 9), .int .u32 (ydY 10), .int .u32 (ydY 11), .int .u32 (ydY 12), .int .u32 (ydY 13), .int .u32 (ydY 14), .int .u32 (ydY 15)] T)) {i : Nat} (hi : i < 16) : w.cell? ((⟨b, 0, none⟩ : Addr).add (i * 1)) = some (.int .u32 (ydY i)) := by
 rw [ya1, Nat.zero_add, Nat.mul_one, yaY h]
 have e : i = 0 ∨ i = 1 ∨ i = 2 ∨ i = 3 ∨ i = 4 ∨ i = 5 ∨ i = 6 ∨ i = 7 ∨ i = 8 ∨ i = 9 ∨ i = 10 ∨ i = 11 ∨ i = 12 ∨ i = 13 ∨ i = 14 ∨ i = 15 := by omega
 rcases e with rfl | rfl | rfl | rfl | rfl | rfl | rfl | rfl | rfl | rfl | rfl | rfl | rfl | rfl | rfl | rfl <;> rfl
theorem yCg {x : Int} (h : 0 ≤ x) : 0 ≤ Int.tmod x 16 ∧ Int.tmod x 16 < ((16 : Nat) : Int) := by
 rw [Int.tmod_eq_emod_of_nonneg h]; omega
def yFP (c : Int) (l : List UInt8) : Int := yd4 .u32 4294967295 (l.foldl ydB (yd4 .u32 4294967295 c))
theorem yDs (c : Int) (s : ByteArray) (hs : s.size ≤ 1000000000000) (w : World) : Calls pP 98 #[.int .u32 c, .string s] w fun e w' => e = .returned (.int .u32 (yFP c s.data.toList)) ∧ Mod [] w w' := by
 refine yaQ (yFH ?_)
 refine (yDr w).mono ?_
 rintro e w1 ⟨rfl, M1⟩
 refine ⟨_, _, _, _, _, _, _, _, _, _, _, _, _, _, _, _, rfl, ?_⟩
 intro b2 f2 w2 A2 h2
 have N2 := M1.go0 A2.mod (by simp)
 refine yxX (fun mm x y w' => ∃ k : Nat, y = k ∧ k ≤ s.size ∧ x = (s.data.toList.take k).foldl ydB (yd4 .u32 4294967295 c) ∧ w' = w2 ∧ mm = s.size - k) s.size ⟨0, rfl, by omega, by simp, rfl, rfl⟩ ?_
 rintro mm x y w3 ⟨k, rfl, hk, rfl, rfl, rfl⟩ _
 refine yaC (fun hlt => ?_) fun hge => ?_
 ·have hk' : k < s.size := by omega
  obtain ⟨b, hb, hv⟩ := ydX hk'
  refine ⟨by omega, by omega, ?_⟩
  rw [Int.toNat_natCast, hv]
  have t1 := yCg (x := yd4 .u32 ((s.data.toList.take k).foldl ydB (yd4 .u32 4294967295 c)) (IntKind.wrap .u32 (b.toNat : Nat))) ykR.1
  refine ⟨by omega, by omega, t1.1, t1.2, yaD (ysB h2 (by omega)) ?_⟩
  have t2 := yCg (x := yd4 .u32 (Int.fdiv (yd4 .u32 ((s.data.toList.take k).foldl ydB (yd4 .u32 4294967295 c)) (IntKind.wrap .u32 (b.toNat : Nat))) (2 ^ (min (Int.toNat 4) 32))) (ydY (Int.tmod (yd4 .u32 ((s.data.toList.take k).foldl ydB (yd4 .u32 4294967295 c)) (IntKind.wrap .u32 (b.toNat : Nat))) 16).toNat)) ykR.1
  refine ⟨by omega, by omega, t2.1, t2.2, yaD (ysB h2 (by omega)) ?_⟩
  refine yxW (s.size - (k + 1)) (by omega) ⟨k + 1, by rw [yaG (by omega) (by omega)]; omega, by omega, ?_, rfl, rfl⟩
  rw [List.take_add_one, hb]
  simp [ydB]
 ·have hk : k = s.size := by omega
  subst hk
  rw [List.take_of_length_le (by simp)]
  exact ⟨rfl, N2⟩
def yx0 (l : List UInt8) : Int := yFP 0 l
theorem yCh (s : ByteArray) (hs : s.size ≤ 1000000000000) (w : World) : Calls pP 62 #[.string s] w fun e w' => e = .returned (.int .u32 (yx0 s.data.toList)) ∧ Mod [] w w' := by
 refine yaQ (yFI ?_)
 refine (yDs 0 s hs w).mono ?_
 rintro e w1 ⟨rfl, M1⟩
 exact ⟨_, rfl, rfl, M1⟩
def lbI (n : Int) (k : Nat) : Int := IntKind.wrap .u8 (Int.fdiv n (2 ^ (min (Int.toNat ((8 * k : Nat) : Int)) 32)))
def lb (n : Int) (k : Nat) : UInt8 := UInt8.ofNat (lbI n k).toNat
theorem yhO (n : Int) (k : Nat) : ((lb n k).toNat : Int) = lbI n k := by
 have h : 0 ≤ lbI n k ∧ lbI n k < 256 := by unfold lbI; rw [IntKind.wrap_u8]; omega
 have : (lb n k).toNat = (lbI n k).toNat := by simp [lb]; omega
 omega
theorem yIl : madeCells #[Value.int .u8 0] 4 = #[.int .u8 0, .int .u8 0, .int .u8 0, .int .u8 0] := by kernel_rfl
def ycT (n : Int) : List UInt8 := [lb n 0, lb n 1, lb n 2, lb n 3]
theorem yx1 (n : Int) (w : World) : Calls pP 61 #[.int .u32 n] w fun e w' => e = .returned (.string (bs (ycT n))) ∧ Mod [] w w' := by
 refine yaQ (yFL ?_)
 obtain ⟨i0, hi, hz0, hz1, hz2⟩ := info_parts yB2
 have hmk : (Instr.makeSlice 40 (.int .i64 4) (.int .i64 4)).run pP w = .ok (.slice (some ⟨w.heap.size, 0, none⟩) 4 4) (w.alloc (.cells (madeCells #[Value.int .u8 0] 4) 5)) := by
  have h := run_makeSlice (P := pP) w 40 5 i0 (.int .u8 0) Tryz.underlying40 hi hz0 .i64 .i64 4 4 (by omega) (by omega) (by rw [hz1]; decide) (by rw [hz2]; decide) (by decide)
  rw [hz1] at h
  exact h
 refine ⟨_, _, _, _, hmk, ?_⟩
 have M1 : Mod [] w (w.alloc (.cells (madeCells #[Value.int .u8 0] 4) 5)) := Mod.of_below ((Below.refl _ _).alloc (Nat.le_refl _) _)
 have h1 : (w.alloc (.cells (madeCells #[Value.int .u8 0] 4) 5)).heap[w.heap.size]? = some (.cells #[.int .u8 0, .int .u8 0, .int .u8 0, .int .u8 0] 5) := by
  have := World.alloc_heap_new w (.cells (madeCells #[Value.int .u8 0] 4) 5)
  rw [this, yIl]
 obtain ⟨f, hf⟩ : ∃ f : Nat → Nat → Value, f = fun k j => if j < k then .int .u8 (lbI n j) else .int .u8 0 := ⟨_, rfl⟩
 refine yxZ (fun mm x w' => ∃ k : Nat, x = k ∧ k ≤ 4 ∧ w'.heap[w.heap.size]? = some (.cells #[f k 0, f k 1, f k 2, f k 3] 5) ∧ Mod [] w w' ∧ mm = 4 - k) 4 ⟨0, rfl, by omega, by rw [hf]; exact h1, M1, rfl⟩ ?_
 rintro mm x w2 ⟨k, rfl, hk, h2, M2, rfl⟩
 have e8 : k ≤ 3 → IntKind.wrap .i64 (8 * (k : Int)) = ((8 * k : Nat) : Int) := fun _ => by rw [yaG (by omega) (by omega)]; omega
 refine yaC (fun hlt => ⟨by rw [e8 (by omega)]; omega, ?_⟩) fun hge => ?_
 ·rw [e8 (by omega)]
  refine ⟨_, rfl, by omega, by omega, ?_⟩
  rw [show (⟨w.heap.size, 0, none⟩ : Addr).add (Int.toNat (k : Int) * 1) = ⟨w.heap.size, k, none⟩ by rw [ya1]; simp]
  have ek : IntKind.wrap .i64 ((k : Int) + 1) = ((k + 1 : Nat) : Int) := by rw [yaG (by omega) (by omega)]; omega
  refine yc7 (o := k) h2 rfl (by simp; omega) fun w3 h3 M3 => ?_
  have hM : Mod [] w w3 := M2.go0 M3 (by simp)
  refine yxY (4 - (k + 1)) (by omega) ⟨k + 1, ek, by omega, ?_, hM, rfl⟩
  rw [h3]
  have hcs : k = 0 ∨ k = 1 ∨ k = 2 ∨ k = 3 := by omega
  subst hf
  rcases hcs with rfl | rfl | rfl | rfl <;> rfl
 ·have hk : k = 4 := by omega
  subst hk
  refine ⟨_, _, run_convert_bytes_back w2 _ _ 5 ⟨w.heap.size, 0, none⟩ 4 (ycT n) Tryz.underlying40 Tryz.underlying5 Tryz.underlying9 fun j hj => ?_, rfl, M2⟩
  rw [ya1, Nat.zero_add, yaY h2]
  subst hf
  have hj : j < 4 := hj
  match j, hj with
  | 0, _ => simp [ycT, yhO]
  | 1, _ => simp [ycT, yhO]
  | 2, _ => simp [ycT, yhO]
  | 3, _ => simp [ycT, yhO]
def ycW (s : ByteArray) : List UInt8 := ybP s ++ ycT (yx0 s.data.toList)
theorem ysC (s : ByteArray) (hs : s.size ≤ 1000000000000) (w : World) : Calls pP 29 #[.string s] w fun e w' => e = .returned (.string (bs (ycW s))) ∧ Mod [] w w' := by
 refine yaQ (yFM ?_)
 refine (yb6 s (by omega) w).mono ?_
 rintro e w1 ⟨rfl, M1⟩
 refine ⟨_, rfl, ?_⟩
 refine (yCh s hs w1).mono ?_
 rintro e w2 ⟨rfl, M2⟩
 refine ⟨_, rfl, ?_⟩
 refine (yx1 _ w2).mono ?_
 rintro e w3 ⟨rfl, M3⟩
 have := ya0 s (by omega)
 refine ⟨_, rfl, by rw [yaE, yaE]; simp [ycT]; omega, ?_⟩
 exact ⟨by rw [ybH]; rfl, (M1.go0 M2 (by simp)).go0 M3 (by simp)⟩
def vg : Nat → List UInt8 → Option (Nat × Nat)
 | _, [] => none
 | k, c :: r => if (k = 9 ∧ 1 < c.toNat) ∨ (0 < k ∧ c.toNat = 0) then none
  else if c.toNat < 128 then some (c.toNat, 1)
  else (vg (k + 1) r).map fun p => (c.toNat % 128 + 128 * p.1, p.2 + 1)
theorem yDt (k : Nat) (c : UInt8) (r : List UInt8) : vg k (c :: r) = if (k = 9 ∧ 1 < c.toNat) ∨ (0 < k ∧ c.toNat = 0) then none
 else if c.toNat < 128 then some (c.toNat, 1)
 else (vg (k + 1) r).map fun p => (c.toNat % 128 + 128 * p.1, p.2 + 1) := rfl
theorem yoV : ∀ (l : List UInt8) {k n m : Nat}, vg k l = some (n, m) → 1 ≤ m ∧ m ≤ l.length
 | [], k, n, m, h => by simp [vg] at h
 | c :: r, k, n, m, h => by
  unfold vg at h
  split at h
  ·simp at h
  split at h
  ·simp at h; simp; omega
  cases hr : vg (k + 1) r with
  | none => simp [hr] at h
  | some p =>
   have := yoV r (n := p.1) (m := p.2) hr
   simp [hr] at h; simp; omega
theorem yDu : ∀ (l : List UInt8) {k n m : Nat}, k ≤ 9 → vg k l = some (n, m) → n < 2 ^ (64 - 7 * k)
 | [], k, n, m, _, h => by simp [vg] at h
 | c :: r, k, n, m, hk, h => by
  unfold vg at h
  split at h
  ·simp at h
  rename_i hl
  split at h
  ·simp at h
   rename_i hc
   have h2 : 2 ^ 8 ≤ 2 ^ (64 - 7 * k) ∨ k = 9 := by
    by_cases k = 9
    ·exact .inr ‹_›
    ·exact .inl (Nat.pow_le_pow_right (by omega) (by omega))
   rcases h2 with h2 | rfl
   ·omega
   ·simp; omega
  cases hr : vg (k + 1) r with
  | none => simp [hr] at h
  | some p =>
   have hk9 : k ≠ 9 := by omega
   have := yDu r (n := p.1) (m := p.2) (by omega) hr
   have e : 64 - 7 * k = (64 - 7 * (k + 1)) + 7 := by omega
   rw [e, Nat.pow_add]
   simp [hr] at h
   omega
theorem yx2 : ∀ (j k n : Nat) (r : List UInt8), j + k = 9 → n < 2 ^ (64 - 7 * k) → (0 < k → 0 < n) → vg k (yaL n ++ r) = some (n, (yaL n).length)
 | j, k, n, r, hj, hn, h0 => by
  unfold yaL
  by_cases hs : n < 128
  ·have e : (UInt8.ofNat n).toNat = n := by simp; omega
   rw [yc2 hs]
   simp only [List.map_cons, List.map_nil, Bool.false_eq_true, if_false, List.cons_append, List.nil_append, vg, e, List.length_cons, List.length_nil]
   rw [if_neg, if_pos hs]
   rintro (⟨rfl, h⟩ | ⟨h1, h2⟩)
   ·simp at hn; omega
   ·omega
  ·have e : (UInt8.ofNat (n % 128 + 128)).toNat = n % 128 + 128 := by simp; omega
   have hk9 : k ≠ 9 := by rintro rfl; simp at hn; omega
   obtain ⟨j, rfl⟩ : ∃ i, j = i + 1 := ⟨j - 1, by omega⟩
   have e2 : 64 - 7 * k = (64 - 7 * (k + 1)) + 7 := by omega
   rw [e2, Nat.pow_add] at hn
   have ih := yx2 j (k + 1) (n / 128) r (by omega) (by omega) (by omega)
   unfold yaL at ih
   rw [ygA hs]
   simp only [List.map_cons, if_true, List.cons_append, vg, e, List.length_cons]
   rw [if_neg (by omega), if_neg (by omega), ih]
   simp; omega
 termination_by j => j
theorem yIm (a b : Nat) (ha : a < 18446744073709551616) (hb : b < 18446744073709551616) : bOr .u64 a b = ((a ||| b : Nat) : Int) := by
 have h : a ||| b < 2 ^ 64 := Nat.or_lt_two_pow ha hb
 unfold bOr
 rw [IntKind.wrap_u64]
 simp only [BitVec.toNat_or, BitVec.toNat_ofInt]
 have e1 : ((a : Int) % ((2 ^ IntKind.bits .u64 : Nat) : Int)).toNat = a := by
  show ((a : Int) % ((2 ^ 64 : Nat) : Int)).toNat = a
  omega
 have e2 : ((b : Int) % ((2 ^ IntKind.bits .u64 : Nat) : Int)).toNat = b := by
  show ((b : Int) % ((2 ^ 64 : Nat) : Int)).toNat = b
  omega
 rw [e1, e2]
 omega
theorem yDv : ∀ c : Fin 256, yj0 .u8 ((c.val : Nat) : Int) 127 = ((c.val % 128 : Nat) : Int) := by decide +kernel
theorem vstep {acc k c : Nat} (hk : k ≤ 9) (ha : acc < 2 ^ (7 * k)) (hc : c < 256) (h9 : k = 9 → c ≤ 1) :
  bOr .u64 (acc : Int) (IntKind.wrap .u64 ((IntKind.wrap .u64 (yj0 .u8 (c : Nat) 127)) * 2 ^ (min (Int.toNat (IntKind.wrap .i64 (7 * (k : Nat)))) 64))) = ((acc + 2 ^ (7 * k) * (c % 128) : Nat) : Int) := by
 have e0 := yDv ⟨c, hc⟩
 have e1 : min (Int.toNat (IntKind.wrap .i64 (7 * (k : Nat)))) 64 = 7 * k := by rw [yaG (by omega) (by omega)]; omega
 rw [e0, e1, ygF (by omega)]
 have hp : 2 ^ (7 * k) * (c % 128) < 2 ^ 64 := by
  have hcs : k = 0 ∨ k = 1 ∨ k = 2 ∨ k = 3 ∨ k = 4 ∨ k = 5 ∨ k = 6 ∨ k = 7 ∨ k = 8 ∨ k = 9 := by omega
  rcases hcs with rfl | rfl | rfl | rfl | rfl | rfl | rfl | rfl | rfl | rfl <;> simp <;> omega
 have e2 : (((c % 128 : Nat) : Int) * 2 ^ (7 * k)) = ((2 ^ (7 * k) * (c % 128) : Nat) : Int) := by
  rw [Int.natCast_mul, Int.natCast_pow, Int.mul_comm]; rfl
 rw [e2, ygF (by omega)]
 have hp2 : 2 ^ (7 * k) ≤ 2 ^ 63 := Nat.pow_le_pow_right (by omega) (by omega)
 rw [yIm _ _ (by omega) (by omega)]
 congr 1
 rw [Nat.or_comm, ← Nat.two_pow_add_eq_or_of_lt ha, Nat.add_comm]
def yH0 (at_ : Nat) : Option (Nat × Nat) → Value → Prop
 | some (n, m), v => v = .tuple #[.int .u64 (n : Nat), .int .i64 ((at_ + m : Nat) : Int), .int .i64 0]
 | none, v => ∃ e : Int, e ≠ 0 ∧ v = .tuple #[.int .u64 0, .int .i64 0, .int .i64 e]
set_option maxRecDepth 20000 in
theorem yfT (s : ByteArray) (a : Nat) (hs : s.size ≤ 1000000000000) (ha : a ≤ s.size) (w : World) :
  Calls pP 79 #[.string s, .int .i64 (a : Nat)] w fun e w' => ∃ v, e = .returned v ∧ yH0 a (vg 0 (s.data.toList.drop a)) v ∧ w' = w := by
 refine yFx ?_
 refine yaC (fun h => by omega) fun _ => yaC (fun h => by omega) fun _ => ?_
 refine yxS (fun mm x y w' => ∃ k acc : Nat, y = k ∧ x = acc ∧ k ≤ 9 ∧ acc < 2 ^ (7 * k) ∧ w' = w ∧ a + k ≤ s.size ∧
  vg 0 (s.data.toList.drop a) = (vg k (s.data.toList.drop (a + k))).map (fun p => (acc + 2 ^ (7 * k) * p.1, k + p.2)) ∧ mm = 9 - k) 9 ⟨0, 0, rfl, rfl, by omega, by simp, rfl, by omega, by simp, rfl⟩ ?_
 rintro mm x y w1 ⟨k, acc, rfl, rfl, hk, hacc, rfl, hak, hv, rfl⟩
 have e1 : IntKind.wrap .i64 ((a : Int) + (k : Int)) = ((a + k : Nat) : Int) := by rw [yaG (by omega) (by omega)]; omega
 rw [e1]
 refine yaC (fun hge => ?_) fun hlt => ?_
 ·refine ⟨?_, rfl⟩
  rw [hv, List.drop_eq_nil_of_le (by simp; omega)]
  exact ⟨10, by decide, rfl⟩
 have hlt' : a + k < s.size := by omega
 obtain ⟨c, hc, hcv⟩ := ydX hlt'
 refine ⟨by omega, by omega, ?_⟩
 rw [Int.toNat_natCast, hcv]
 have hdr : s.data.toList.drop (a + k) = c :: s.data.toList.drop (a + (k + 1)) := by
  obtain ⟨hl, he⟩ := List.getElem?_eq_some_iff.1 hc
  rw [List.drop_eq_getElem_cons hl, he]; rfl
 have hc8 := c.toNat_lt
 have hlong : Calls pP 110 #[.int .u8 (c.toNat : Nat), .int .i64 (k : Nat)] w1 fun e w' => e = .returned (.bool (decide ((k = 9 ∧ 1 < c.toNat) ∨ (0 < k ∧ c.toNat = 0)))) ∧ w' = w1 := by
  refine yaQ (yFu ?_)
  have tail : brB (decide ((k : Int) > 0)) (Value.bool ((c.toNat : Int) == 0) = Value.bool (decide ((k = 9 ∧ 1 < c.toNat) ∨ (0 < k ∧ c.toNat = 0))) ∧ w1 = w1) (Value.bool false = Value.bool (decide ((k = 9 ∧ 1 < c.toNat) ∨ (0 < k ∧ c.toNat = 0))) ∧ w1 = w1) ∨ (k = 9 ∧ 1 < c.toNat) := by
   by_cases h9 : k = 9 ∧ 1 < c.toNat
   ·exact .inr h9
   refine .inl (yaC (fun hp => ⟨?_, rfl⟩) fun hn => ⟨?_, rfl⟩)
   ·congr 1
    rw [Bool.eq_iff_iff]; simp; omega
   ·congr 1
    symm
    rw [decide_eq_false_iff_not]; omega
  refine yaB (fun h => ?_) fun h => ?_
  ·have h : (k : Int) = 9 := by simpa using h
   refine yaC (fun h1 => ⟨?_, rfl⟩) fun h1 => ?_
   ·congr 1
    symm
    rw [decide_eq_true_iff]; omega
   ·rcases tail with t | t
    ·exact t
    ·omega
  ·have h : ¬ (k : Int) = 9 := by simpa using h
   rcases tail with t | t
   ·exact t
   ·omega
 refine hlong.mono ?_
 rintro e w2 ⟨rfl, rfl⟩
 refine ⟨_, rfl, ?_⟩
 rw [hdr, yDt] at hv
 refine yaC (fun hb => ?_) fun hb => ?_
 ·refine ⟨?_, rfl⟩
  rw [hv, if_pos hb]
  exact ⟨11, by decide, rfl⟩
 rw [if_neg hb] at hv
 have hst := vstep (acc := acc) (k := k) (c := c.toNat) hk hacc (by omega) (by omega)
 refine ⟨by rw [yaG (by omega) (by omega)]; omega, ?_⟩
 rw [hst]
 refine yaC (fun hsm => ?_) fun hbg => ?_
 ·have hsm : c.toNat < 128 := by omega
  rw [if_pos hsm] at hv
  refine ⟨?_, rfl⟩
  rw [hv, yaG (by omega) (by omega)]
  have e4 : c.toNat % 128 = c.toNat := by omega
  simp only [Option.map_some, yH0, e4]
  congr 3
 ·have hbg : ¬ c.toNat < 128 := by omega
  rw [if_neg hbg] at hv
  refine yxR (9 - (k + 1)) (by omega) ⟨k + 1, acc + 2 ^ (7 * k) * (c.toNat % 128), by rw [yaG (by omega) (by omega)]; omega, rfl, by omega, ?_, rfl, by omega, ?_, rfl⟩
  ·have e : 7 * (k + 1) = 7 * k + 7 := by omega
   rw [e, Nat.pow_add]
   have h5 : c.toNat % 128 ≤ 127 := by omega
   have := Nat.mul_le_mul_left (2 ^ (7 * k)) h5
   omega
  ·rw [hv, Option.map_map]
   congr 1
   funext p
   have e : 7 * (k + 1) = 7 * k + 7 := by omega
   simp only [Function.comp]
   rw [e, Nat.pow_add, Nat.mul_add, ← Nat.mul_assoc]
   congr 1
   ·rw [Nat.add_assoc]
   ·omega
def tg (lim : Nat) (l : List UInt8) : Option (ByteArray × Nat) := match vg 0 l with
 | none => none
 | some (n, m) => if n ≤ lim ∧ n ≤ l.length - m then some (bs ((l.drop m).take n), m + n) else none
def yBg (at_ : Nat) : Option (ByteArray × Nat) → Value → Prop
 | some (t, m), v => v = .tuple #[.string t, .int .i64 ((at_ + m : Nat) : Int), .int .i64 0]
 | none, v => ∃ e : Int, e ≠ 0 ∧ v = .tuple #[.string ⟨#[]⟩, .int .i64 0, .int .i64 e]
theorem yFQ : (bs [] : ByteArray) = ⟨#[]⟩ := rfl
theorem yoW (s : ByteArray) : bs s.data.toList = s := by
 apply ByteArray.ext; simp [bs]
theorem yi5 {a b : List UInt8} (h : bs a = bs b) : a = b := by
 have := congrArg (fun s : ByteArray => s.data.toList) h
 simpa [bs] using this
theorem ydP (l : List UInt8) : (bs l).data.toList = l := by simp [bs]
theorem yCi (s : ByteArray) (a n : Nat) (h : a + n ≤ s.size) : s.extract a (a + n) = bs ((s.data.toList.drop a).take n) := by
 apply ByteArray.ext
 rw [ByteArray.data_extract]
 apply Array.ext'
 rw [Array.toList_extract]
 simp [bs, List.extract_eq_take_drop]
theorem ykS {lim : Nat} {l : List UInt8} {t : ByteArray} {m : Nat} (h : tg lim l = some (t, m)) : 1 ≤ m ∧ m ≤ l.length ∧ t.size ≤ lim ∧ t.size + 1 ≤ m := by
 unfold tg at h
 split at h
 ·cases h
 rename_i n k hv
 have := yoV l hv
 split at h
 ·simp only [Option.some.injEq, Prod.mk.injEq] at h
  obtain ⟨rfl, rfl⟩ := h
  rw [yaE, List.length_take, List.length_drop]
  omega
 ·cases h
theorem yCj {lim : Nat} (s : ByteArray) (r : List UInt8) (h : s.size ≤ lim) (hs : s.size < 18446744073709551616) : tg lim (ybP s ++ r) = some (s, (ybP s).length) := by
 have hv := yx2 9 0 s.size (s.data.toList ++ r) rfl (by simpa using hs) (by omega)
 unfold tg ybP
 rw [List.append_assoc, hv]
 have e : s.data.toList.length = s.size := by simp
 simp only [List.length_append, List.drop_left']
 rw [if_pos (by simp; omega)]
 simp only [Option.some.injEq, Prod.mk.injEq]
 refine ⟨?_, by rw [e]⟩
 rw [← e, List.take_left', yoW]
 rfl
set_option maxRecDepth 20000 in
theorem yc3 (s : ByteArray) (a lim : Nat) (hs : s.size ≤ 1000000000000) (ha : a ≤ s.size) (hl : lim ≤ 1000000000000) (w : World) :
  Calls pP 78 #[.string s, .int .i64 (a : Nat), .int .i64 (lim : Nat)] w fun e w' => ∃ v, e = .returned v ∧ yBg a (tg lim (s.data.toList.drop a)) v ∧ w' = w := by
 refine yFy ?_
 refine (yfT s a hs ha w).mono ?_
 rintro e w1 ⟨v, rfl, hv, rfl⟩
 cases hg : vg 0 (s.data.toList.drop a) with
 | none =>
  rw [hg] at hv
  obtain ⟨e, he, rfl⟩ := hv
  refine ⟨_, _, _, rfl, ?_⟩
  rw [show (e != 0) = true by simpa using he]
  refine ⟨?_, rfl⟩
  unfold tg; rw [hg]
  exact ⟨e, he, rfl⟩
 | some p =>
  obtain ⟨n, m⟩ := p
  rw [hg] at hv
  have hv : v = .tuple #[.int .u64 (n : Nat), .int .i64 ((a + m : Nat) : Int), .int .i64 0] := hv
  subst hv
  have hm := yoV _ hg
  have hn := yDu _ (by omega) hg
  have el : (s.data.toList.drop a).length = s.size - a := by simp
  have et : tg lim (s.data.toList.drop a) = if n ≤ lim ∧ n ≤ (s.data.toList.drop a).length - m then some (bs (((s.data.toList.drop a).drop m).take n), m + n) else none := by
   unfold tg; rw [hg]
  rw [el] at hm et
  refine ⟨_, _, _, rfl, ?_⟩
  rw [show ((0 : Int) != 0) = false from rfl, yc5]
  refine yaC (fun h => by omega) fun _ => ?_
  have e1 : IntKind.wrap .i64 ((s.size : Int) - ((a + m : Nat) : Int)) = ((s.size - (a + m) : Nat) : Int) := by rw [yaG (by omega) (by omega)]; omega
  rw [ygF (by omega), e1, ygF (by omega)]
  refine yaC (fun h => ?_) fun h => ?_
  ·refine ⟨?_, rfl⟩
   rw [et, if_neg (by omega)]
   exact ⟨2, by decide, rfl⟩
  refine yaC (fun h2 => ?_) fun h2 => ?_
  ·refine ⟨?_, rfl⟩
   rw [et, if_neg (by omega)]
   exact ⟨10, by decide, rfl⟩
  have e2 : IntKind.wrap .i64 ((n : Nat) : Int) = ((n : Nat) : Int) := yaG (by omega) (by omega)
  have e3 : IntKind.wrap .i64 (((a + m : Nat) : Int) + ((n : Nat) : Int)) = ((a + m + n : Nat) : Int) := by rw [yaG (by omega) (by omega)]; omega
  rw [e2, e3]
  refine ⟨by omega, by omega, by omega, ?_, rfl⟩
  rw [et, if_pos (by omega), Int.toNat_natCast, Int.toNat_natCast, yCi s (a + m) n (by omega), List.drop_drop]
  exact congrArg (fun k : Nat => Value.tuple #[.string (bs (List.take n (List.drop (a + m) s.data.toList))), .int .i64 (k : Int), .int .i64 0]) (by omega)
def cg (lim : Nat) (l : List UInt8) : Option (ByteArray × Nat) := match tg lim l with
 | none => none
 | some (t, m) => if 4 ≤ l.length - m ∧ (l.drop m).take 4 = ycT (yx0 t.data.toList) then some (t, m + 4) else none
theorem yCk {lim : Nat} {l : List UInt8} {t : ByteArray} {m : Nat} (h : cg lim l = some (t, m)) : 1 ≤ m ∧ m ≤ l.length ∧ t.size ≤ lim ∧ t.size + 1 ≤ m := by
 unfold cg at h
 split at h
 ·cases h
 rename_i n k hv
 have := ykS hv
 split at h
 ·simp only [Option.some.injEq, Prod.mk.injEq] at h
  obtain ⟨rfl, rfl⟩ := h
  omega
 ·cases h
theorem ygW (s : ByteArray) : (ycW s).length = (ybP s).length + 4 := by simp [ycW, ycT]
theorem ykT {lim : Nat} (s : ByteArray) (r : List UInt8) (h : s.size ≤ lim) (hs : s.size < 18446744073709551616) : cg lim (ycW s ++ r) = some (s, (ycW s).length) := by
 unfold cg
 rw [show ycW s ++ r = ybP s ++ (ycT (yx0 s.data.toList) ++ r) by simp [ycW], yCj s _ h hs]
 simp only [List.length_append, List.drop_left']
 rw [if_pos ⟨by simp [ycT], by simp [ycT]⟩, ygW]
set_option maxRecDepth 20000 in
theorem yoX (s : ByteArray) (a lim : Nat) (hs : s.size ≤ 1000000000000) (ha : a ≤ s.size) (hl : lim ≤ 1000000000000) (w : World) :
  Calls pP 41 #[.string s, .int .i64 (a : Nat), .int .i64 (lim : Nat)] w fun e w' => ∃ v, e = .returned v ∧ yBg a (cg lim (s.data.toList.drop a)) v ∧ Mod [] w w' := by
 refine yFN ?_
 refine (yc3 s a lim hs ha hl w).mono ?_
 rintro e w1 ⟨v, rfl, hv, rfl⟩
 cases hg : tg lim (s.data.toList.drop a) with
 | none =>
  rw [hg] at hv
  obtain ⟨e, he, rfl⟩ := hv
  refine ⟨_, _, _, rfl, ?_⟩
  rw [show (e != 0) = true by simpa using he]
  refine ⟨?_, Mod.refl _⟩
  unfold cg; rw [hg]
  exact ⟨e, he, rfl⟩
 | some p =>
  obtain ⟨t, m⟩ := p
  rw [hg] at hv
  have hv : v = .tuple #[.string t, .int .i64 ((a + m : Nat) : Int), .int .i64 0] := hv
  subst hv
  have hm := ykS hg
  have el : (s.data.toList.drop a).length = s.size - a := by simp
  have et : cg lim (s.data.toList.drop a) = if 4 ≤ (s.data.toList.drop a).length - m ∧ ((s.data.toList.drop a).drop m).take 4 = ycT (yx0 t.data.toList) then some (t, m + 4) else none := by
   unfold cg; rw [hg]
  rw [el] at hm et
  refine ⟨_, _, _, rfl, ?_⟩
  have e1 : IntKind.wrap .i64 ((s.size : Int) - ((a + m : Nat) : Int)) = ((s.size - (a + m) : Nat) : Int) := by rw [yaG (by omega) (by omega)]; omega
  have e2 : IntKind.wrap .i64 (((a + m : Nat) : Int) + 4) = ((a + m + 4 : Nat) : Int) := by rw [yaG (by omega) (by omega)]; omega
  rw [show ((0 : Int) != 0) = false from rfl, yc5]
  rw [e1, e2]
  refine yaC (fun h => ?_) fun h => ?_
  ·refine ⟨?_, Mod.refl _⟩
   rw [et, if_neg (by omega)]
   exact ⟨20, by decide, rfl⟩
  refine ⟨by omega, by omega, by omega, fun w2 A2 => ?_⟩
  refine (yCh t (by omega) w2).mono ?_
  rintro e w3 ⟨rfl, M3⟩
  refine ⟨_, rfl, ?_⟩
  refine (yx1 _ w3).mono ?_
  rintro e w4 ⟨rfl, M4⟩
  have hM : Mod [] w1 w4 := (A2.mod.go0 M3 (by simp)).go0 M4 (by simp)
  refine ⟨_, rfl, ?_⟩
  rw [Int.toNat_natCast, Int.toNat_natCast, yCi s (a + m) 4 (by omega)]
  have hbe : ((bs (List.take 4 (List.drop (a + m) s.data.toList))).toList == (bs (ycT (yx0 t.data.toList))).toList) = decide (List.take 4 (List.drop (a + m) s.data.toList) = ycT (yx0 t.data.toList)) := by
   rw [Bool.eq_iff_iff, beq_iff_eq, decide_eq_true_iff]
   constructor
   ·intro h; exact yi5 (yc1.1 h)
   ·intro h; rw [h]
  rw [hbe]
  rw [List.drop_drop] at et
  refine yaB (fun h => ?_) fun h => ?_
  ·have h : ¬ List.take 4 (List.drop (a + m) s.data.toList) = ycT (yx0 t.data.toList) := by simpa using h
   refine ⟨?_, hM⟩
   rw [et, if_neg (fun hh => h hh.2)]
   exact ⟨21, by decide, rfl⟩
  ·have h : List.take 4 (List.drop (a + m) s.data.toList) = ycT (yx0 t.data.toList) := by simpa using h
   refine ⟨?_, hM⟩
   rw [et, if_pos ⟨by omega, h⟩]
   exact congrArg (fun k : Nat => Value.tuple #[.string t, .int .i64 (k : Int), .int .i64 0]) (show a + m + 4 = a + (m + 4) by omega)
abbrev yBh (r : PRep) (w0 : World) : VWP := fun v w' => v = .int .i64 (yfA r) ∧ Mod [] w0 w'
theorem yFR {w0 w : World} {bm : Nat} {r : PRep} {f p : Sl} (h : RepAt w0 r f p) (M : Mod [] w0 w) (hr : r.parts.any yDp = false → yfA r = 0) (hr2 : r.parts.any yDp = true → yfA r = 40) :
  yaJ ymD (yfO 391 [0, 0, 1, 0, 1, 1, 1, 1, 1, 1, 1]) (yFh [1, 1, 1, 1, 1, 1, 1, 0, 1, 0] [] (ya4 pP Tryz.f65 [] (yBh r w0)))
   (yi3 bm r.e r.off r.n r.gen f.a f.n f.c p.a p.n p.c 0) w := by
 have e5 := h.parts.1
 have hl := h.lp
 refine yxB (fun mm x w' => ∃ k : Nat, x = k ∧ k ≤ r.parts.length ∧ (r.parts.take k).any yDp = false ∧ Mod [] w0 w' ∧ mm = r.parts.length - k) r.parts.length ⟨0, rfl, by omega, by simp, M, rfl⟩ ?_
 rintro mm x w1 ⟨k, rfl, hk, ha, M1, rfl⟩
 refine yaC (fun hlt => ?_) fun hge => ?_
 ·have g1 : k < r.parts.length := by omega
  obtain ⟨x, hx⟩ : ∃ x, r.parts[k]? = some x := ⟨_, List.getElem?_eq_getElem g1⟩
  have ek : IntKind.wrap .i64 ((k : Int) + 1) = ((k + 1 : Nat) : Int) := by rw [yaG (by omega) (by omega)]; omega
  refine (h.keep0 M1).parts.ix hx fun q hq => yaH (by simpa [add_zero] using hq 0 _ rfl) ?_
  refine (yBc x.t w1).mono ?_
  rintro e w2 ⟨rfl, rfl⟩
  refine ⟨_, rfl, yaI.of0 (Mod.refl _), ?_⟩
  refine yaB (fun g3 => ?_) (fun g3 => ?_)
  ·exact ⟨by rw [hr2 (List.any_eq_true.2 ⟨x, List.mem_of_getElem? hx, g3⟩)], M1⟩
  ·exact yxA (r.parts.length - (k + 1)) (by omega) ⟨k + 1, ek, by omega, by rw [yeE hx, ha]; exact g3, M1, rfl⟩
 ·have hk : k = r.parts.length := by omega
  subst hk
  rw [List.take_length] at ha
  exact ⟨by rw [hr ha], M1⟩
theorem yFS {w0 w : World} {bm : Nat} {r : PRep} {f p : Sl} (h : RepAt w0 r f p) (M : Mod [] w0 w) {t : Bool} (ht : t = (ok0 r && r.found.all okF)) :
  yaJ ymC (yfO 395 [0, 0, 1, 0, 1, 1, 1]) (yFh [1, 1, 1, 0, 1, 0] [] (ya4 pP Tryz.f65 [] (yBh r w0)))
   (yhN bm r.e r.off r.n r.gen f.a f.n f.c p.a p.n p.c (t, 0)) w := by
 have e5 := h.parts.1
 have e4 := h.found.1
 have hl := h.lp
 have hl4 := h.lf
 refine yw7 (fun mm t x w' => ∃ k : Nat, x = k ∧ k ≤ r.parts.length ∧ t = (ok0 r && r.found.all okF && (r.parts.take k).all okP) ∧ Mod [] w0 w' ∧ mm = r.parts.length - k) r.parts.length ⟨0, rfl, by omega, by simp [ht], M, rfl⟩ ?_
 rintro mm t x w1 ⟨k, rfl, hk, rfl, M1, rfl⟩
 refine yaC (fun hlt => ?_) fun hge => ?_
 ·have g1 : k < r.parts.length := by omega
  obtain ⟨x, hx⟩ : ∃ x, r.parts[k]? = some x := ⟨_, List.getElem?_eq_getElem g1⟩
  have ek : IntKind.wrap .i64 ((k : Int) + 1) = ((k + 1 : Nat) : Int) := by rw [yaG (by omega) (by omega)]; omega
  refine yaB (fun g3 => ?_) (fun g3 => ?_)
  ·refine (h.keep0 M1).parts.ix hx fun q hq => yaD (hq 1 _ rfl) ?_
   refine (yfP x.n w1).mono ?_
   rintro e w2 ⟨rfl, rfl⟩
   refine ⟨_, rfl, yaI.of0 (Mod.refl _), ?_⟩
   exact yoU (r.parts.length - (k + 1)) (by omega) ⟨k + 1, ek, by omega, by rw [yb5 hx, ← Bool.and_assoc, g3]; rfl, M1, rfl⟩
  ·exact yoU (r.parts.length - (k + 1)) (by omega) ⟨k + 1, ek, by omega, by rw [yb5 hx, ← Bool.and_assoc, g3]; rfl, M1, rfl⟩
 ·have hk : k = r.parts.length := by omega
  subst hk
  rw [List.take_length]
  refine yaB (fun g1 => ⟨by rw [yfA, if_pos (yB7 g1)], M1⟩) fun g1 => ?_
  have hR1 : yfA r = if r.found.length > 64 then 2 else if r.parts.length > 64 then 2 else if (r.found.any yxH || r.parts.any yDp) = true then 40 else 0 := by
   rw [yfA, if_neg (by rw [yAJ g1]; decide)]
  refine yaC (fun g2 => ⟨by rw [hR1, if_pos (by omega)], M1⟩) fun g2 => ?_
  rw [if_neg (by omega)] at hR1
  refine yaC (fun g3 => ⟨by rw [hR1, if_pos (by omega)], M1⟩) fun g3 => ?_
  rw [if_neg (by omega)] at hR1
  refine yw9 (fun mm x w' => ∃ k : Nat, x = k ∧ k ≤ r.found.length ∧ (r.found.take k).any yxH = false ∧ Mod [] w0 w' ∧ mm = r.found.length - k) r.found.length ⟨0, rfl, by omega, by simp, M1, rfl⟩ ?_
  rintro mm x w1 ⟨k, rfl, hk, ha, M1, rfl⟩
  refine yaC (fun hlt => ?_) fun hge => ?_
  ·have g1 : k < r.found.length := by omega
   obtain ⟨x, hx⟩ : ∃ x, r.found[k]? = some x := ⟨_, List.getElem?_eq_getElem g1⟩
   have ek : IntKind.wrap .i64 ((k : Int) + 1) = ((k + 1 : Nat) : Int) := by rw [yaG (by omega) (by omega)]; omega
   refine (h.keep0 M1).found.ix hx fun q hq => ?_
   rw [ycB, ycB, ycB]
   refine yaM (hq 1 _ rfl) (yaH (hq 2 _ rfl) (yaM (hq 3 _ rfl) (yaH (hq 4 _ rfl) ?_)))
   refine (yp9 x.r w1).mono ?_
   rintro e w2 ⟨rfl, M2⟩
   refine ⟨_, rfl, yaI.of0 M2, ?_⟩
   have M3 := M1.go0 M2 (by simp)
   refine yaB (fun g3 => ?_) (fun g3 => ?_)
   ·have hb : r.found.any yxH = true := List.any_eq_true.2 ⟨x, List.mem_of_getElem? hx, g3⟩
    exact ⟨by rw [hR1, if_pos (by rw [hb]; rfl)], M3⟩
   ·exact yw8 (r.found.length - (k + 1)) (by omega) ⟨k + 1, ek, by omega, by rw [yeE hx, ha]; exact g3, M3, rfl⟩
  ·have hk : k = r.found.length := by omega
   subst hk
   rw [List.take_length] at ha
   exact yFR h M1 (fun hp => by rw [hR1, ha, hp]; rfl) (fun hp => by rw [hR1, ha, hp]; rfl)
theorem yt5 {w0 w : World} {bm : Nat} {r : PRep} {f p : Sl} (h : RepAt w0 r f p) (M : Mod [] w0 w) {t : Bool} (ht : t = ok0 r) :
  yw3 t bm r.e r.off r.n r.gen f.a f.n f.c p.a p.n p.c (yBh r w0) w := by
 have e4 := h.found.1
 have hl := h.lf
 refine yw5 (fun mm t x w' => ∃ k : Nat, x = k ∧ k ≤ r.found.length ∧ t = (ok0 r && (r.found.take k).all okF) ∧ Mod [] w0 w' ∧ mm = r.found.length - k) r.found.length ⟨0, rfl, by omega, by simp [ht], M, rfl⟩ ?_
 rintro mm t x w1 ⟨k, rfl, hk, rfl, M1, rfl⟩
 refine yaC (fun hlt => ?_) fun hge => ?_
 ·have g1 : k < r.found.length := by omega
  obtain ⟨x, hx⟩ : ∃ x, r.found[k]? = some x := ⟨_, List.getElem?_eq_getElem g1⟩
  have ek : IntKind.wrap .i64 ((k : Int) + 1) = ((k + 1 : Nat) : Int) := by rw [yaG (by omega) (by omega)]; omega
  refine yaB (fun g3 => ?_) (fun g3 => ?_)
  ·refine (h.keep0 M1).found.ix hx fun q hq => yaD (by simpa [add_zero] using hq 0 _ rfl) ?_
   refine (yfP x.off w1).mono ?_
   rintro e w2 ⟨rfl, rfl⟩
   refine ⟨_, rfl, yaI.of0 (Mod.refl _), ?_⟩
   exact yoT (r.found.length - (k + 1)) (by omega) ⟨k + 1, ek, by omega, by rw [yb5 hx, ← Bool.and_assoc, g3]; rfl, M1, rfl⟩
  ·exact yoT (r.found.length - (k + 1)) (by omega) ⟨k + 1, ek, by omega, by rw [yb5 hx, ← Bool.and_assoc, g3]; rfl, M1, rfl⟩
 ·have hk : k = r.found.length := by omega
  subst hk
  rw [List.take_length]
  exact yFS h M1 rfl
theorem yBi {w : World} {r : PRep} {f p : Sl} (h : RepAt w r f p) :
  Calls pP 65 #[r.v f p] w fun e w' => e = .returned (.int .i64 (yfA r)) ∧ Mod [] w w' := by
 refine yaQ (yFi ?_)
 intro b1 f1 w1 A1
 have rest : ∀ (t : Bool) (bm : Nat) (x0 x1 x2 x3 : Int) (a4 : Option Addr) (n4 c4 : Nat) (a5 : Option Addr) (n5 c5 : Nat) (w' : World), (t = ok0 r ∧ x0 = r.e ∧ x1 = r.off ∧ x2 = r.n ∧ x3 = r.gen ∧ a4 = f.a ∧ n4 = f.n ∧ c4 = f.c ∧ a5 = p.a ∧ n5 = p.n ∧ c5 = p.c ∧ Mod [] w w') → yw3 t bm x0 x1 x2 x3 a4 n4 c4 a5 n5 c5 (yBh r w) w' := by
  rintro t bm x0 x1 x2 x3 a4 n4 c4 a5 n5 c5 w' ⟨ht, rfl, rfl, rfl, rfl, rfl, rfl, rfl, rfl, rfl, rfl, M⟩
  exact yt5 h M ht
 refine (yfP _ _).mono ?_
 rintro e w2 ⟨rfl, rfl⟩
 refine ⟨_, rfl, yaI.of0 (Mod.refl _), yaB (fun g1 => ?_) (fun g1 => ?_)⟩
 rotate_left
 ·exact yh4 _ ⟨by simp [ok0, g1], rfl, rfl, rfl, rfl, rfl, rfl, rfl, rfl, rfl, rfl, A1.mod⟩ rest
 refine (yfP _ _).mono ?_
 rintro e w2 ⟨rfl, rfl⟩
 refine ⟨_, rfl, yaI.of0 (Mod.refl _), yaB (fun g2 => ?_) (fun g2 => ?_)⟩
 rotate_left
 ·exact yh4 _ ⟨by simp [ok0, g2], rfl, rfl, rfl, rfl, rfl, rfl, rfl, rfl, rfl, rfl, A1.mod⟩ rest
 refine (yfP _ _).mono ?_
 rintro e w2 ⟨rfl, rfl⟩
 refine ⟨_, rfl, yaI.of0 (Mod.refl _), yaB (fun g3 => ?_) (fun g3 => ?_)⟩
 rotate_left
 ·exact yh4 _ ⟨by simp [ok0, g3], rfl, rfl, rfl, rfl, rfl, rfl, rfl, rfl, rfl, rfl, A1.mod⟩ rest
 refine (yfP _ _).mono ?_
 rintro e w2 ⟨rfl, rfl⟩
 refine ⟨_, rfl, yaI.of0 (Mod.refl _), ?_⟩
 exact yh4 _ ⟨by simp [ok0, g1, g2, g3], rfl, rfl, rfl, rfl, rfl, rfl, rfl, rfl, rfl, rfl, A1.mod⟩ rest
theorem ybS.ixW {α : Type} {w : World} {sz : Nat} {enc : α → List Value} {a : Option Addr} {n : Nat} {l : List α} {i : Nat} {x : α} {F : Addr → Prop} (h : ybS w sz enc a n l) (hx : l[i]? = some x)
  (hF : ∀ q, (∀ w', Mod [] w w' → ∀ j v, (enc x)[j]? = some v → w'.cell? (q.add j) = some v) → F q) : ixA a n (i : Int) sz F := by
 obtain ⟨ad, ha, hc⟩ := h.2 i x hx
 have hl := (List.getElem?_eq_some_iff.1 hx).1
 refine ⟨ad, ha, by omega, by rw [h.1]; omega, hF _ fun w' M j v hj => ?_⟩
 obtain ⟨ad', ha', hc'⟩ := (h.keep0 M).2 i x hx
 rw [ha] at ha'; cases ha'
 simpa using hc' j v hj
structure PBatch where
 prod : Int
 epoch : Int
 seq : Int
 recs : List PRec
 deriving DecidableEq
structure POp where
 kind : Int
 part : PPart
 n : Int
 off : Int
 b : PBatch
 g : ByteArray
 m : ByteArray
 gen : Int
 robin : Bool
 topics : List ByteArray
 deriving DecidableEq
structure PCall where
 c : Int
 n : Int
 op : POp
 deriving DecidableEq
def yeR (r : PRec) : List Value := [.bool r.hk, .string r.key, .bool r.tomb, .string r.val]
def yi6 (s : ByteArray) : List Value := [.string s]
theorem yh7 (r : PRec) : (yeR r).length = 4 := rfl
theorem yh8 (s : ByteArray) : (yi6 s).length = 1 := rfl
theorem ymH (x : PRec) : ∀ u ∈ yeR x, u.oneCell' = true := by simp [yeR, Value.oneCell']
theorem ymI (x : ByteArray) : ∀ u ∈ yi6 x, u.oneCell' = true := by simp [yi6, Value.oneCell']
def POp.cs (o : POp) (rs ts : Sl) : List Value := [.int .i64 o.kind, .string o.part.t, .int .i64 o.part.n, .int .i64 o.n, .int .i64 o.off, .int .i64 o.b.prod, .int .i64 o.b.epoch, .int .i64 o.b.seq, .slice rs.a rs.n rs.c, .string o.g, .string o.m, .int .i64 o.gen, .bool o.robin, .slice ts.a ts.n ts.c]
def POp.v (o : POp) (rs ts : Sl) : Value := .agg #[.int .i64 o.kind, .string o.part.t, .int .i64 o.part.n, .int .i64 o.n, .int .i64 o.off, .int .i64 o.b.prod, .int .i64 o.b.epoch, .int .i64 o.b.seq, .slice rs.a rs.n rs.c, .string o.g, .string o.m, .int .i64 o.gen, .bool o.robin, .slice ts.a ts.n ts.c]
def ybK : PBatch := ⟨0, 0, 0, []⟩
def op0 : POp := ⟨0, ⟨⟨#[]⟩, 0⟩, 0, 0, ybK, ⟨#[]⟩, ⟨#[]⟩, 0, false, []⟩
structure OpAt (w : World) (o : POp) (rs ts : Sl) : Prop where
 recs : ybS w 4 yeR rs.a rs.n o.b.recs
 topics : ybS w 1 yi6 ts.a ts.n o.topics
 lr : o.b.recs.length ≤ 1000000
 lt : o.topics.length ≤ 1000000
structure OpOwn (w : World) (base : Nat) (o : POp) (rs ts : Sl) : Prop where
 recs : Row w base 53 4 yeR rs.a rs.n rs.c o.b.recs
 topics : Row w base 9 1 yi6 ts.a ts.n ts.c o.topics
 lr : o.b.recs.length ≤ 1000000
 lt : o.topics.length ≤ 1000000
theorem OpOwn.at {w : World} {base : Nat} {o : POp} {rs ts : Sl} (h : OpOwn w base o rs ts) : OpAt w o rs ts := ⟨h.recs.sl yh7, h.topics.sl yh8, h.lr, h.lt⟩
theorem OpAt.keep0 {w w' : World} {o : POp} {rs ts : Sl} (h : OpAt w o rs ts) (M : Mod [] w w') : OpAt w' o rs ts := ⟨h.recs.keep0 M, h.topics.keep0 M, h.lr, h.lt⟩
theorem OpOwn.keep0 {w w' : World} {base : Nat} {o : POp} {rs ts : Sl} (h : OpOwn w base o rs ts) (M : Mod [] w w') : OpOwn w' base o rs ts := ⟨h.recs.keep0 M, h.topics.keep0 M, h.lr, h.lt⟩
theorem OpOwn.rebase {w : World} {base base' : Nat} {o : POp} {rs ts : Sl} (h : OpOwn w base o rs ts) (hb : base' ≤ base) : OpOwn w base' o rs ts := ⟨h.recs.rebase hb, h.topics.rebase hb, h.lr, h.lt⟩
theorem yqK (w : World) (base : Nat) : OpOwn w base op0 ⟨none, 0, 0⟩ ⟨none, 0, 0⟩ := ⟨Row.nil .., Row.nil .., by simp [op0, ybK], by simp [op0]⟩
def yb0 (b : PBatch) : Int :=
 if (num b.prod && num b.epoch && num b.seq) = false then 1 else if b.recs.length = 0 then 30 else if b.recs.length > 16 then 2 else
  match b.recs.find? fun r => ygE r ≠ 0 with
  | none => 0
  | some r => ygE r
def yIn (k : Int) : List Nat :=
 if k = 0 then [116, 110] else if k = 1 then [110] else if k = 2 then [112, 98] else if k = 3 then [112, 111, 110] else if k = 4 then [112, 111] else if k = 5 then [112]
 else if k = 6 then [103, 109, 110, 114, 108] else if k = 7 then [103, 109, 101] else if k = 8 then [103, 109, 101] else if k = 9 then [103, 109, 101] else if k = 10 then [103, 109, 101, 112, 111] else if k = 11 then [103, 112] else [110]
def ha (k : Int) (c : Nat) : Bool := (yIn k).contains c
def yi7 (s : ByteArray) : Bool := decide (s.size = 0)
def yDw (s t : ByteArray) : Bool := Op.bytesLess s.toList t.toList
def yhV : List ByteArray → Bool
 | s :: t :: r => yDw s t && yhV (t :: r)
 | _ => true
def ydZ (l : List ByteArray) : Bool := decide (1 ≤ l.length ∧ l.length ≤ 8) && l.all ybU && yhV l
def yi8 (o : POp) : Bool :=
 (ha o.kind 112 || ha o.kind 116 || yi7 o.part.t) && (ha o.kind 112 || decide (o.part.n = 0)) && (ha o.kind 110 || decide (o.n = 0)) && (ha o.kind 111 || decide (o.off = 0)) &&
 (ha o.kind 98 || decide (o.b = ybK)) && (ha o.kind 103 || yi7 o.g) && (ha o.kind 109 || yi7 o.m) && (ha o.kind 101 || decide (o.gen = 0)) && (ha o.kind 114 || (!o.robin && decide (o.topics = [])))
def yBj (o : POp) : Bool :=
 yi8 o && (!(ha o.kind 112 || ha o.kind 116) || ybU o.part.t) && (!ha o.kind 103 || ybU o.g) && (!ha o.kind 109 || ybU o.m) && (!ha o.kind 108 || ydZ o.topics)
def opE (o : POp) : Int :=
 if o.kind < 0 ∨ o.kind > 12 then 41 else if yBj o = false then 40 else if (num o.part.n && num o.n && num o.off && num o.gen) = false then 1 else if o.kind = 2 then yb0 o.b else 0
def chF (o : POp) : Bool := (ha o.kind 103 && !ybU o.g) || (ha o.kind 109 && !ybU o.m) || ((ha o.kind 112 || ha o.kind 116) && !ybU o.part.t) || (ha o.kind 108 && !ydZ o.topics)
def chA (o : POp) : Bool := (ha o.kind 112 && !num o.part.n) || (ha o.kind 110 && !num o.n) || (ha o.kind 111 && !num o.off) || (ha o.kind 101 && !num o.gen)
def chE (o : POp) : Int := if ha o.kind 98 then yb0 o.b else 0
def es : ByteArray := ⟨#[]⟩
def chO (o : POp) : POp := ⟨o.kind, ⟨if ha o.kind 112 || ha o.kind 116 then es else o.part.t, if ha o.kind 112 then 0 else o.part.n⟩, if ha o.kind 110 then 0 else o.n, if ha o.kind 111 then 0 else o.off,
 if ha o.kind 98 then ybK else o.b, if ha o.kind 103 then es else o.g, if ha o.kind 109 then es else o.m, if ha o.kind 101 then 0 else o.gen, if ha o.kind 114 then false else o.robin, if ha o.kind 114 then [] else o.topics⟩
theorem yi9 (s : ByteArray) : yi7 s = decide (s = es) := by
 unfold yi7 es
 by_cases h : s.size = 0
 ·rw [decide_eq_true h, decide_eq_true ((yl9 s).2 h)]
 ·rw [decide_eq_false h, decide_eq_false fun e => h ((yl9 s).1 e)]
theorem yDx {α : Type} (p : Bool) (x d : α) : ((if p = true then d else x) = d) ↔ (p = true ∨ x = d) := by cases p <;> simp
theorem yBk {α : Type} (p t : Bool) (x d : α) : ((if p = true ∨ t = true then d else x) = d) ↔ (p = true ∨ t = true ∨ x = d) := by cases p <;> cases t <;> simp
theorem yBl (o : POp) : decide ({ chO o with kind := 0 } = op0) = yi8 o := by
 rw [Bool.eq_iff_iff, decide_eq_true_iff]
 unfold yi8
 rw [yi9, yi9, yi9]
 unfold chO op0
 simp only [POp.mk.injEq, PPart.mk.injEq, true_and, Bool.and_eq_true, decide_eq_true_iff, yBk, show (⟨#[]⟩ : ByteArray) = es from rfl, yDx, Bool.or_eq_true, or_and_left, Bool.not_eq_true', and_assoc, or_assoc]
theorem yH1 {p : Bool} {x : Int} (h : (p || decide (x = 0)) = true) : num x = !(p && !num x) := by
 cases p
 ·have : x = 0 := by simpa using h
  subst this; rfl
 ·simp
theorem yJa {k : Int} (h0 : ¬ (k < 0 ∨ k > 12)) : ha k 98 = decide (k = 2) := by
 have : k = 0 ∨ k = 1 ∨ k = 2 ∨ k = 3 ∨ k = 4 ∨ k = 5 ∨ k = 6 ∨ k = 7 ∨ k = 8 ∨ k = 9 ∨ k = 10 ∨ k = 11 ∨ k = 12 := by omega
 rcases this with rfl | rfl | rfl | rfl | rfl | rfl | rfl | rfl | rfl | rfl | rfl | rfl | rfl <;> decide
theorem yx3 (o : POp) (h0 : ¬ (o.kind < 0 ∨ o.kind > 12)) : opE o = if (chF o || !decide ({ chO o with kind := 0 } = op0)) = true then 40 else if chA o = true then 1 else chE o := by
 rw [yBl, opE, if_neg h0]
 have hf : yBj o = !(chF o || !yi8 o) := by
  unfold yBj chF
  generalize yi8 o = a
  generalize ha o.kind 103 = b1
  generalize ha o.kind 109 = b2
  generalize (ha o.kind 112 || ha o.kind 116) = b3
  generalize ha o.kind 108 = b4
  cases a <;> cases b1 <;> cases b2 <;> cases b3 <;> cases b4 <;> simp [Bool.and_comm, Bool.and_assoc, Bool.and_left_comm]
 rw [hf]
 cases h : (chF o || !yi8 o)
 ·simp only [Bool.not_false, Bool.true_eq_false, if_false, Bool.false_eq_true]
  have ho : yi8 o = true := by cases hh : yi8 o; rw [hh] at h; simp at h; rfl
  unfold yi8 at ho
  simp only [Bool.and_eq_true] at ho
  obtain ⟨⟨⟨⟨⟨⟨⟨⟨_, h1⟩, h2⟩, h3⟩, _⟩, _⟩, _⟩, h4⟩, _⟩ := ho
  have e : (num o.part.n && num o.n && num o.off && num o.gen) = !chA o := by
   rw [yH1 h1, yH1 h2, yH1 h3, yH1 h4]
   unfold chA
   simp only [Bool.not_or, Bool.and_assoc]
  rw [e, chE, yJa h0]
  cases chA o <;> simp
 ·simp
section
set_option maxRecDepth 100000
variable {R : VWP} {w w0 : World} {m : Nat} {i0 i1 i2 i3 i4 i5 i6 i7 i8 i9 j0 j1 j2 j3 j4 j5 j6 j7 j8 j9 k0 k1 k2 k3 k4 k5 k6 k7 k8 k9 l0 l1 l2 l3 l4 l5 l6 l7 l8 l9 : Int} {s0 s1 s2 s3 s4 s5 s6 s7 s8 s9 t0 t1 t2 t3 t4 t5 t6 t7 t8 t9 : BA} {n0 n1 n2 n3 n4 n5 n6 n7 n8 n9 o0 o1 o2 o3 o4 o5 o6 o7 o8 o9 p0 p1 p2 p3 p4 p5 p6 p7 p8 p9 : Nat} {q0 q1 q2 q3 q4 q5 q6 q7 q8 q9 r0 r1 r2 r3 r4 r5 r6 r7 r8 r9 : OA} {B0 B1 B2 B3 B4 B5 B6 B7 B8 B9 : Bool} {M0 M1 M2 M3 : Option Nat} {V0 V1 V2 V3 V4 V5 : Value} {A0 A1 A2 : Addr}
theorem yFT (h :
 brB (decide (i0 ≥ 0)) (
 R (.bool (decide (i0 ≤ 1099511627776))) w)
 (
 R (.bool false) w)) :
 CR pP 164 #[.int .i64 i0] w R :=
 yaA Tryz.wide_mixed (an := []) Tryz.func164 rfl rfl (by kernel_rfl) rfl (Eq.mpr (by kernel_rfl) h)
def yqL : LA := ⟨[0, 0, 1, 0, 1, 1], [34, 35, 36], [], 1, []⟩
def ysD : List LA := [yqL]
abbrev yFU := dnF pP ysD (code Tryz.f163)
abbrev yJb := yaO pP ysD (code Tryz.f163)
abbrev yFV (p : List Nat) (K : List Kh) (R : VWP) := yaO pP ysD (code Tryz.f163) p K (ya4 pP Tryz.f163 [] R)
def ykU (a6 : OA) (a8 a7 : Nat) (a9 : Int) (bm0 : Nat) (a3 a4 a5 : Int) (a0 : OA) (a2 a1 : Nat) : Int → List Value × List TB := fun b0 => ([.slice a6 a8 a7, .int .i64 a9, .int .i64 b0], [⟨bm0, 46, [.int .i64 a3, .int .i64 a4, .int .i64 a5, .slice a0 a2 a1], false⟩])
abbrev yCl (a6 : OA) (a8 a7 : Nat) (a9 : Int) (bm0 : Nat) (a3 a4 a5 : Int) (a0 : OA) (a2 a1 : Nat) (I : Nat → Int → World → Prop) (m : Nat) : Kh := KG (ykU a6 a8 a7 a9 bm0 a3 a4 a5 a0 a2 a1) (U1 I) m
theorem yx4 {I : Nat → Int → World → Prop} (m' : Nat) (h1 : m' < m) (h2 : I m' i4 w) : KS (yCl q0 n0 n1 i0 n2 i1 i2 i3 q1 n3 n4 I m) (ykU q0 n0 n1 i0 n2 i1 i2 i3 q1 n3 n4 i4) w := ⟨m', h1, _, rfl, rfl, h2⟩
theorem yx5 {a7 : OA} {a0 : OA} (I : Nat → Int → World → Prop) (m0 : Nat) (h0 : I m0 i4 w0)
 (hr : ∀ m a6 w, I m a6 w →
 brB (decide (a6 < i0)) (
 ixA a7 n0 a6 4 fun q9 =>
 yaU w q9 fun b8 => yaP w (Addr.add q9 1) fun b6 => yaU w (Addr.add q9 2) fun b9 => yaP w (Addr.add q9 3) fun b7 =>
 ∀ b2, w.heap.size ≤ b2 →
 ∀ b3, Adv [] [b2] w b3 →
 Calls pP 95 #[(.agg (Z7 b8 b6 b9 b7))] b3 fun e b4 => ∃ b5, e = .returned (.int .i64 b5) ∧ yaI [n2, b2] b3 b4 ∧
 brB (b5 != 0) (
 R (.int .i64 b5) b4)
 (
 KS (yCl a7 n0 n1 i0 n2 i1 i2 i3 a0 n3 n4 I m) (ykU a7 n0 n1 i0 n2 i1 i2 i3 a0 n3 n4 (IntKind.wrap .i64 (a6 + 1))) b4))
 (
 R (.int .i64 0) w)) :
 yaJ yqL (yFU 396 [0, 0, 1, 0, 1, 1]) (yFV [1, 1, 0, 1, 0] [] R) (ykU a7 n0 n1 i0 n2 i1 i2 i3 a0 n3 n4 i4) w0 :=
 lrule (ykU a7 n0 n1 i0 n2 i1 i2 i3 a0 n3 n4) (U1 I) h0 (by rintro m a6 w h; exact ⟨by kernel_rfl, by kernel_rfl, fun js => Eq.mpr (by kernel_rfl) (hr m a6 w h)⟩)
theorem yFW (h :
 ∀ b1, w.heap.size ≤ b1 →
 ∀ w2, Adv [] [b1] w w2 →
 Calls pP 164 #[.int .i64 i0] w2 fun e w3 => ∃ t4, e = .returned (.bool t4) ∧ yaI [b1] w2 w3 ∧
 brB (!t4) (
 R (.int .i64 1) w3)
 (
 Calls pP 164 #[.int .i64 i1] w3 fun e w5 => ∃ t6, e = .returned (.bool t6) ∧ yaI [b1] w3 w5 ∧
 brB (!t6) (
 R (.int .i64 1) w5)
 (
 Calls pP 164 #[.int .i64 i2] w5 fun e w7 => ∃ t8, e = .returned (.bool t8) ∧ yaI [b1] w5 w7 ∧
 brB (!t8) (
 R (.int .i64 1) w7)
 (
 brB ((n0 : Int) == 0) (
 R (.int .i64 30) w7)
 (
 brB (decide ((n0 : Int) > 16)) (
 R (.int .i64 2) w7)
 (
 yaJ yqL (yFU 396 [0, 0, 1, 0, 1, 1]) (yFV [1, 1, 0, 1, 0] [] R) (ykU q0 n0 n1 (n0 : Int) b1 i0 i1 i2 q0 n0 n1 0) w7)))))) :
 CR pP 163 #[(.agg (Z8 i0 i1 i2 q0 n0 n1))] w R :=
 yaA Tryz.wide_mixed (an := ysD) Tryz.func163 rfl rfl (by kernel_rfl) rfl (Eq.mpr (by kernel_rfl) h)
def yqM : LA := ⟨[0, 0, 1, 0, 1, 1], [0, 1, 5], [], 0, []⟩
def ysE : List LA := [yqM]
abbrev yFX := dnF pP ysE (code Tryz.f130)
abbrev yJc := yaO pP ysE (code Tryz.f130)
abbrev yFY (p : List Nat) (K : List Kh) (R : VWP) := yaO pP ysE (code Tryz.f130) p K (ya4 pP Tryz.f130 [] R)
def ykV (a0 : OA) (a4 a2 : Nat) (a1 : OA) (a5 a3 : Nat) : Int → List Value × List TB := fun a6 => ([.slice a0 a4 a2, .slice a1 a5 a3, .int .i64 a6], [])
abbrev yCm (a0 : OA) (a4 a2 : Nat) (a1 : OA) (a5 a3 : Nat) (I : Nat → Int → World → Prop) (m : Nat) : Kh := KG (ykV a0 a4 a2 a1 a5 a3) (U1 I) m
theorem yx6 {I : Nat → Int → World → Prop} (m' : Nat) (h1 : m' < m) (h2 : I m' i0 w) : KS (yCm q0 n0 n1 q1 n2 n3 I m) (ykV q0 n0 n1 q1 n2 n3 i0) w := ⟨m', h1, _, rfl, rfl, h2⟩
theorem yx7 {a2 : OA} {a3 : OA} (I : Nat → Int → World → Prop) (m0 : Nat) (h0 : I m0 i0 w0)
 (hr : ∀ m a0 w, I m a0 w →
 brB (decide (a0 < (n0 : Int))) (
 ixA a2 n0 a0 4 fun q1 =>
 yaU w q1 fun t2 => yaP w (Addr.add q1 1) fun s3 => yaU w (Addr.add q1 2) fun t4 => yaP w (Addr.add q1 3) fun s5 =>
 ixA a3 n2 a0 4 fun q6 =>
 yaU w q6 fun t7 => yaP w (Addr.add q6 1) fun s8 => yaU w (Addr.add q6 2) fun t9 => yaP w (Addr.add q6 3) fun a8 =>
 ∃ a9, (∀ w', Mod [] w w' → Sem.run pP (do eqGuard .neq 53 (.tmp 20) (.tmp 24) (.agg (Z7 t2 s3 t4 s5)) (.agg (Z7 t7 s8 t9 a8)); Go.binOp .neq 53 (.agg (Z7 t2 s3 t4 s5)) (.agg (Z7 t7 s8 t9 a8))) w' = .ok (.bool a9) w') ∧
 brB a9 (
 ∀ b0, Adv [] [] w b0 →
 R (.bool false) b0)
 (
 ∀ b1, Adv [] [] w b1 →
 KS (yCm a2 n0 n1 a3 n2 n3 I m) (ykV a2 n0 n1 a3 n2 n3 (IntKind.wrap .i64 (a0 + 1))) b1))
 (
 R (.bool true) w)) :
 yaJ yqM (yFX 396 [0, 0, 1, 0, 1, 1]) (yFY [1, 1, 0, 1, 0] [] R) (ykV a2 n0 n1 a3 n2 n3 i0) w0 :=
 lrule (ykV a2 n0 n1 a3 n2 n3) (U1 I) h0 (by rintro m a0 w h; exact ⟨by kernel_rfl, by kernel_rfl, fun js => Eq.mpr (by kernel_rfl) (hr m a0 w h)⟩)
theorem yFZ (h :
 brB ((n0 : Int) != (n2 : Int)) (
 R (.bool false) w)
 (
 yaJ yqM (yFX 396 [0, 0, 1, 0, 1, 1]) (yFY [1, 1, 0, 1, 0] [] R) (ykV q0 n0 n1 q1 n2 n3 0) w)) :
 CR pP 130 #[.slice q0 n0 n1, .slice q1 n2 n3] w R :=
 yaA Tryz.wide_mixed (an := ysE) Tryz.func130 rfl rfl (by kernel_rfl) rfl (Eq.mpr (by kernel_rfl) h)
theorem yF0 (h :
 ∀ b1, w.heap.size ≤ b1 →
 ∀ b2, w.heap.size ≤ b2 →
 brB (i0 == i3) (
 brB (i1 == i4) (
 brB (i2 == i5) (
 ∀ w3, Adv [] [b2, b1] w w3 →
 Calls pP 130 #[.slice q0 n0 n1, .slice q1 n2 n3] w3 fun e w4 => ∃ t5, e = .returned (.bool t5) ∧ yaI [b1, b2] w3 w4 ∧
 R (.bool t5) w4)
 (
 ∀ w6, Adv [] [b2, b1] w w6 →
 R (.bool false) w6))
 (
 ∀ w7, Adv [] [b2, b1] w w7 →
 R (.bool false) w7))
 (
 ∀ w8, Adv [] [b2, b1] w w8 →
 R (.bool false) w8)) :
 CR pP 108 #[(.agg (Z8 i0 i1 i2 q0 n0 n1)), (.agg (Z8 i3 i4 i5 q1 n2 n3))] w R :=
 yaA Tryz.wide_mixed (an := []) Tryz.func108 rfl rfl (by kernel_rfl) rfl (Eq.mpr (by kernel_rfl) h)
def yqN : LA := ⟨[0, 0, 1, 0, 1, 1], [0, 1, 5], [], 0, []⟩
def ysF : List LA := [yqN]
abbrev yF1 := dnF pP ysF (code Tryz.f109)
abbrev yJd := yaO pP ysF (code Tryz.f109)
abbrev yF2 (p : List Nat) (K : List Kh) (R : VWP) := yaO pP ysF (code Tryz.f109) p K (ya4 pP Tryz.f109 [] R)
def ykW (a0 : OA) (a4 a2 : Nat) (a1 : OA) (a5 a3 : Nat) : Int → List Value × List TB := fun a6 => ([.slice a0 a4 a2, .slice a1 a5 a3, .int .i64 a6], [])
abbrev yCn (a0 : OA) (a4 a2 : Nat) (a1 : OA) (a5 a3 : Nat) (I : Nat → Int → World → Prop) (m : Nat) : Kh := KG (ykW a0 a4 a2 a1 a5 a3) (U1 I) m
theorem yx8 {I : Nat → Int → World → Prop} (m' : Nat) (h1 : m' < m) (h2 : I m' i0 w) : KS (yCn q0 n0 n1 q1 n2 n3 I m) (ykW q0 n0 n1 q1 n2 n3 i0) w := ⟨m', h1, _, rfl, rfl, h2⟩
theorem yx9 {a2 : OA} {a3 : OA} (I : Nat → Int → World → Prop) (m0 : Nat) (h0 : I m0 i0 w0)
 (hr : ∀ m a0 w, I m a0 w →
 brB (decide (a0 < (n0 : Int))) (
 ixA a2 n0 a0 1 fun q1 =>
 yaP w q1 fun s2 =>
 ixA a3 n2 a0 1 fun q3 =>
 yaP w q3 fun s4 =>
 brB (!(s2.toList == s4.toList)) (
 ∀ w5, Adv [] [] w w5 →
 R (.bool false) w5)
 (
 ∀ w6, Adv [] [] w w6 →
 KS (yCn a2 n0 n1 a3 n2 n3 I m) (ykW a2 n0 n1 a3 n2 n3 (IntKind.wrap .i64 (a0 + 1))) w6))
 (
 R (.bool true) w)) :
 yaJ yqN (yF1 396 [0, 0, 1, 0, 1, 1]) (yF2 [1, 1, 0, 1, 0] [] R) (ykW a2 n0 n1 a3 n2 n3 i0) w0 :=
 lrule (ykW a2 n0 n1 a3 n2 n3) (U1 I) h0 (by rintro m a0 w h; exact ⟨by kernel_rfl, by kernel_rfl, fun js => Eq.mpr (by kernel_rfl) (hr m a0 w h)⟩)
theorem yF3 (h :
 brB ((n0 : Int) != (n2 : Int)) (
 R (.bool false) w)
 (
 yaJ yqN (yF1 396 [0, 0, 1, 0, 1, 1]) (yF2 [1, 1, 0, 1, 0] [] R) (ykW q0 n0 n1 q1 n2 n3 0) w)) :
 CR pP 109 #[.slice q0 n0 n1, .slice q1 n2 n3] w R :=
 yaA Tryz.wide_mixed (an := ysF) Tryz.func109 rfl rfl (by kernel_rfl) rfl (Eq.mpr (by kernel_rfl) h)
theorem yF4 {a6 : BA} {d0 b8 : BA} {b3 : BA} {d7 c1 : BA} (h :
 ∀ b1, w.heap.size ≤ b1 →
 ∀ b2, w.heap.size ≤ b2 →
 brB (i0 == i8) (
 ∀ w3, Adv [] [b2, b1] w w3 →
 ∃ t4, (∀ w', Mod [] w3 w' → Sem.run pP (do eqGuard .eql 43 (.tmp 12) (.tmp 14) (.agg #[.string a6, .int .i64 i1]) (.agg #[.string b3, .int .i64 i9]); Go.binOp .eql 43 (.agg #[.string a6, .int .i64 i1]) (.agg #[.string b3, .int .i64 i9])) w' = .ok (.bool t4) w') ∧
 brB t4 (
 brB (i2 == j0) (
 brB (i3 == j1) (
 Calls pP 108 #[(.agg (Z8 i4 i5 i6 q0 n0 n1)), (.agg (Z8 j2 j3 j4 q2 n4 n5))] w3 fun e w5 => ∃ t6, e = .returned (.bool t6) ∧ yaI [b1, b2] w3 w5 ∧
 brB t6 (
 brB (d0.toList == d7.toList) (
 brB (b8.toList == c1.toList) (
 brB (i7 == j5) (
 brB (B0 == B1) (
 Calls pP 109 #[.slice q1 n2 n3, .slice q3 n6 n7] w5 fun e w7 => ∃ t8, e = .returned (.bool t8) ∧ yaI [b1, b2] w5 w7 ∧
 R (.bool t8) w7)
 (
 R (.bool false) w5))
 (
 R (.bool false) w5))
 (
 R (.bool false) w5))
 (
 R (.bool false) w5))
 (
 R (.bool false) w5))
 (
 R (.bool false) w3))
 (
 R (.bool false) w3))
 (
 R (.bool false) w3))
 (
 ∀ w9, Adv [] [b2, b1] w w9 →
 R (.bool false) w9)) :
 CR pP 75 #[(.agg (Z1 i0 a6 i1 i2 i3 i4 i5 i6 q0 n0 n1 d0 b8 i7 B0 q1 n2 n3)), (.agg (Z1 i8 b3 i9 j0 j1 j2 j3 j4 q2 n4 n5 d7 c1 j5 B1 q3 n6 n7))] w R :=
 yaA Tryz.wide_mixed (an := []) Tryz.func75 rfl rfl (by kernel_rfl) rfl (Eq.mpr (by kernel_rfl) h)
theorem yF5 (h :
 ∀ b1, w.heap.size ≤ b1 →
 ∀ b2, w.heap.size ≤ b2 →
 brB (i0 == i3) (
 brB (i1 == i4) (
 brB (i2 == i5) (
 ∀ w3, Adv [] [b2, b1] w w3 →
 Calls pP 129 #[.slice q0 n0 n1, .slice q1 n2 n3] w3 fun e w4 => ∃ t5, e = .returned (.bool t5) ∧ yaI [b1, b2] w3 w4 ∧
 R (.bool t5) w4)
 (
 ∀ w6, Adv [] [b2, b1] w w6 →
 R (.bool false) w6))
 (
 ∀ w7, Adv [] [b2, b1] w w7 →
 R (.bool false) w7))
 (
 ∀ w8, Adv [] [b2, b1] w w8 →
 R (.bool false) w8)) :
 CR pP 106 #[(.agg (Z8 i0 i1 i2 q0 n0 n1)), (.agg (Z8 i3 i4 i5 q1 n2 n3))] w R :=
 yaA Tryz.wide_mixed (an := []) Tryz.func106 rfl rfl (by kernel_rfl) rfl (Eq.mpr (by kernel_rfl) h)
theorem yF6 {a6 : BA} {d0 b8 : BA} {b3 : BA} {d7 c1 : BA} (h :
 ∀ b1, w.heap.size ≤ b1 →
 ∀ b2, w.heap.size ≤ b2 →
 brB (i0 == i8) (
 ∀ w3, Adv [] [b2, b1] w w3 →
 ∃ t4, (∀ w', Mod [] w3 w' → Sem.run pP (do eqGuard .eql 43 (.tmp 13) (.tmp 15) (.agg #[.string a6, .int .i64 i1]) (.agg #[.string b3, .int .i64 i9]); Go.binOp .eql 43 (.agg #[.string a6, .int .i64 i1]) (.agg #[.string b3, .int .i64 i9])) w' = .ok (.bool t4) w') ∧
 brB t4 (
 brB (i2 == j0) (
 brB (i3 == j1) (
 brB (d0.toList == d7.toList) (
 brB (b8.toList == c1.toList) (
 brB (i7 == j5) (
 brB (B0 == B1) (
 Calls pP 106 #[(.agg (Z8 i4 i5 i6 q0 n0 n1)), (.agg (Z8 j2 j3 j4 q2 n4 n5))] w3 fun e w5 => ∃ t6, e = .returned (.bool t6) ∧ yaI [b1, b2] w3 w5 ∧
 brB t6 (
 Calls pP 107 #[.slice q1 n2 n3, .slice q3 n6 n7] w5 fun e w7 => ∃ t8, e = .returned (.bool t8) ∧ yaI [b1, b2] w5 w7 ∧
 R (.bool t8) w7)
 (
 R (.bool false) w5))
 (
 R (.bool false) w3))
 (
 R (.bool false) w3))
 (
 R (.bool false) w3))
 (
 R (.bool false) w3))
 (
 R (.bool false) w3))
 (
 R (.bool false) w3))
 (
 R (.bool false) w3))
 (
 ∀ w9, Adv [] [b2, b1] w w9 →
 R (.bool false) w9)) :
 CR pP 72 #[(.agg (Z1 i0 a6 i1 i2 i3 i4 i5 i6 q0 n0 n1 d0 b8 i7 B0 q1 n2 n3)), (.agg (Z1 i8 b3 i9 j0 j1 j2 j3 j4 q2 n4 n5 d7 c1 j5 B1 q3 n6 n7))] w R :=
 yaA Tryz.wide_mixed (an := []) Tryz.func72 rfl rfl (by kernel_rfl) rfl (Eq.mpr (by kernel_rfl) h)
def yqO : LA := ⟨[0, 0, 1, 0, 1, 1], [0, 1, 12, 13], [], 0, []⟩
def ysG : List LA := [yqO]
abbrev yF7 := dnF pP ysG (code Tryz.f107)
abbrev yJe := yaO pP ysG (code Tryz.f107)
abbrev yF8 (p : List Nat) (K : List Kh) (R : VWP) := yaO pP ysG (code Tryz.f107) p K (ya4 pP Tryz.f107 [] R)
def ykX (a2 : OA) (a6 a4 : Nat) (a3 : OA) (a7 a5 : Nat) (a0 : Int) : Int → List Value × List TB := fun a1 => ([.slice a2 a6 a4, .slice a3 a7 a5, .int .i64 a0, .int .i64 a1], [])
abbrev yCo (a1 : OA) (a5 a3 : Nat) (a2 : OA) (a6 a4 : Nat) (a0 : Int) (I : Nat → Int → World → Prop) (m : Nat) : Kh := KG (ykX a1 a5 a3 a2 a6 a4 a0) (U1 I) m
theorem yyA {I : Nat → Int → World → Prop} (m' : Nat) (h1 : m' < m) (h2 : I m' i1 w) : KS (yCo q0 n0 n1 q1 n2 n3 i0 I m) (ykX q0 n0 n1 q1 n2 n3 i0 i1) w := ⟨m', h1, _, rfl, rfl, h2⟩
theorem yyB {a2 : OA} {a3 : OA} (I : Nat → Int → World → Prop) (m0 : Nat) (h0 : I m0 i1 w0)
 (hr : ∀ m a0 w, I m a0 w →
 brB (decide (a0 < i0)) (
 ixA a2 n0 a0 1 fun q1 =>
 yaP w q1 fun s2 =>
 ixA a3 n2 a0 1 fun q3 =>
 yaP w q3 fun s4 =>
 brB (!(s2.toList == s4.toList)) (
 ∀ w5, Adv [] [] w w5 →
 R (.bool false) w5)
 (
 ∀ w6, Adv [] [] w w6 →
 KS (yCo a2 n0 n1 a3 n2 n3 i0 I m) (ykX a2 n0 n1 a3 n2 n3 i0 (IntKind.wrap .i64 (a0 + 1))) w6))
 (
 R (.bool true) w)) :
 yaJ yqO (yF7 396 [0, 0, 1, 0, 1, 1]) (yF8 [1, 1, 0, 1, 0] [] R) (ykX a2 n0 n1 a3 n2 n3 i0 i1) w0 :=
 lrule (ykX a2 n0 n1 a3 n2 n3 i0) (U1 I) h0 (by rintro m a0 w h; exact ⟨by kernel_rfl, by kernel_rfl, fun js => Eq.mpr (by kernel_rfl) (hr m a0 w h)⟩)
theorem yF9 (h :
 brB ((n0 : Int) != (n2 : Int)) (
 R (.bool false) w)
 (
 yaJ yqO (yF7 396 [0, 0, 1, 0, 1, 1]) (yF8 [1, 1, 0, 1, 0] [] R) (ykX q0 n0 n1 q1 n2 n3 (n0 : Int) 0) w)) :
 CR pP 107 #[.slice q0 n0 n1, .slice q1 n2 n3] w R :=
 yaA Tryz.wide_mixed (an := ysG) Tryz.func107 rfl rfl (by kernel_rfl) rfl (Eq.mpr (by kernel_rfl) h)
def yqP : LA := ⟨[0, 0, 1, 0, 1, 1], [0, 1, 12, 13], [], 0, []⟩
def ysH : List LA := [yqP]
abbrev yGa := dnF pP ysH (code Tryz.f129)
abbrev yJf := yaO pP ysH (code Tryz.f129)
abbrev yGb (p : List Nat) (K : List Kh) (R : VWP) := yaO pP ysH (code Tryz.f129) p K (ya4 pP Tryz.f129 [] R)
def ykY (a2 : OA) (a6 a4 : Nat) (a3 : OA) (a7 a5 : Nat) (a0 : Int) : Int → List Value × List TB := fun a1 => ([.slice a2 a6 a4, .slice a3 a7 a5, .int .i64 a0, .int .i64 a1], [])
abbrev yCp (a1 : OA) (a5 a3 : Nat) (a2 : OA) (a6 a4 : Nat) (a0 : Int) (I : Nat → Int → World → Prop) (m : Nat) : Kh := KG (ykY a1 a5 a3 a2 a6 a4 a0) (U1 I) m
theorem yyC {I : Nat → Int → World → Prop} (m' : Nat) (h1 : m' < m) (h2 : I m' i1 w) : KS (yCp q0 n0 n1 q1 n2 n3 i0 I m) (ykY q0 n0 n1 q1 n2 n3 i0 i1) w := ⟨m', h1, _, rfl, rfl, h2⟩
theorem yyD {a2 : OA} {a3 : OA} (I : Nat → Int → World → Prop) (m0 : Nat) (h0 : I m0 i1 w0)
 (hr : ∀ m a0 w, I m a0 w →
 brB (decide (a0 < i0)) (
 ixA a2 n0 a0 4 fun q1 =>
 yaU w q1 fun t2 => yaP w (Addr.add q1 1) fun s3 => yaU w (Addr.add q1 2) fun t4 => yaP w (Addr.add q1 3) fun s5 =>
 ixA a3 n2 a0 4 fun q6 =>
 yaU w q6 fun t7 => yaP w (Addr.add q6 1) fun s8 => yaU w (Addr.add q6 2) fun t9 => yaP w (Addr.add q6 3) fun a9 =>
 ∃ b0, (∀ w', Mod [] w w' → Sem.run pP (do eqGuard .neq 53 (.tmp 19) (.tmp 23) (.agg (Z7 t2 s3 t4 s5)) (.agg (Z7 t7 s8 t9 a9)); Go.binOp .neq 53 (.agg (Z7 t2 s3 t4 s5)) (.agg (Z7 t7 s8 t9 a9))) w' = .ok (.bool b0) w') ∧
 brB b0 (
 ∀ b1, Adv [] [] w b1 →
 R (.bool false) b1)
 (
 ∀ b2, Adv [] [] w b2 →
 KS (yCp a2 n0 n1 a3 n2 n3 i0 I m) (ykY a2 n0 n1 a3 n2 n3 i0 (IntKind.wrap .i64 (a0 + 1))) b2))
 (
 R (.bool true) w)) :
 yaJ yqP (yGa 396 [0, 0, 1, 0, 1, 1]) (yGb [1, 1, 0, 1, 0] [] R) (ykY a2 n0 n1 a3 n2 n3 i0 i1) w0 :=
 lrule (ykY a2 n0 n1 a3 n2 n3 i0) (U1 I) h0 (by rintro m a0 w h; exact ⟨by kernel_rfl, by kernel_rfl, fun js => Eq.mpr (by kernel_rfl) (hr m a0 w h)⟩)
theorem yGc (h :
 brB ((n0 : Int) != (n2 : Int)) (
 R (.bool false) w)
 (
 yaJ yqP (yGa 396 [0, 0, 1, 0, 1, 1]) (yGb [1, 1, 0, 1, 0] [] R) (ykY q0 n0 n1 q1 n2 n3 (n0 : Int) 0) w)) :
 CR pP 129 #[.slice q0 n0 n1, .slice q1 n2 n3] w R :=
 yaA Tryz.wide_mixed (an := ysH) Tryz.func129 rfl rfl (by kernel_rfl) rfl (Eq.mpr (by kernel_rfl) h)
theorem yGd {a2 a1 : Nat} (h :
 brB (Option.isNone q0) (
 R (.slice none 0 0) w)
 (
 al w (.cells #[] 9) fun b1 w2 =>
 ycN pP (Builtin.append_ #[47, 47] 47 #[(.slice (some ⟨b1, 0, none⟩) 0 0), .slice q0 a2 a1]) w2 fun a4 n5 c6 w3 =>
 R (.slice a4 n5 c6) w3)) :
 CR pP 48 #[.slice q0 a2 a1] w R :=
 yaA Tryz.wide_mixed (an := []) Tryz.func48 rfl rfl (by kernel_rfl) rfl (Eq.mpr (by kernel_rfl) h)
theorem yGe {a2 a1 : Nat} (h :
 brB (Option.isNone q0) (
 R (.slice none 0 0) w)
 (
 al w (.cells #[] 53) fun b1 w2 =>
 ycN pP (Builtin.append_ #[44, 44] 44 #[(.slice (some ⟨b1, 0, none⟩) 0 0), .slice q0 a2 a1]) w2 fun a4 n5 c6 w3 =>
 R (.slice a4 n5 c6) w3)) :
 CR pP 49 #[.slice q0 a2 a1] w R :=
 yaA Tryz.wide_mixed (an := []) Tryz.func49 rfl rfl (by kernel_rfl) rfl (Eq.mpr (by kernel_rfl) h)
end
section
set_option maxRecDepth 100000
variable {R : VWP} {w w0 : World} {m : Nat} {i0 i1 i2 i3 i4 i5 i6 i7 i8 i9 j0 j1 j2 j3 j4 j5 j6 j7 j8 j9 k0 k1 k2 k3 k4 k5 k6 k7 k8 k9 l0 l1 l2 l3 l4 l5 l6 l7 l8 l9 : Int} {s0 s1 s2 s3 s4 s5 s6 s7 s8 s9 t0 t1 t2 t3 t4 t5 t6 t7 t8 t9 : BA} {n0 n1 n2 n3 n4 n5 n6 n7 n8 n9 o0 o1 o2 o3 o4 o5 o6 o7 o8 o9 p0 p1 p2 p3 p4 p5 p6 p7 p8 p9 : Nat} {q0 q1 q2 q3 q4 q5 q6 q7 q8 q9 r0 r1 r2 r3 r4 r5 r6 r7 r8 r9 : OA} {B0 B1 B2 B3 B4 B5 B6 B7 B8 B9 : Bool} {M0 M1 M2 M3 : Option Nat} {V0 V1 V2 V3 V4 V5 : Value} {A0 A1 A2 : Addr}
theorem yGf (h :
 yaU w (Addr.add A0 1) fun t1 =>
 brB t1 (
 st w (Addr.add A0 1) [.bool true] fun w2 =>
 st w2 A1 [.int .i64 0] fun w3 =>
 R (.tuple #[]) w3)
 (
 yaF .i64 w A1 fun x4 =>
 Calls pP 94 #[.int .i64 x4] w fun e w5 => ∃ t6, e = .returned (.bool t6) ∧
 st w5 (Addr.add A0 1) [(.bool (!t6))] fun w7 =>
 st w7 A1 [.int .i64 0] fun w8 =>
 R (.tuple #[]) w8)) :
 CR pP 176 #[(.pointer (some A0)), (.pointer (some A1))] w R :=
 yaA Tryz.wide_mixed (an := []) Tryz.func176 rfl rfl (by kernel_rfl) rfl (Eq.mpr (by kernel_rfl) h)
theorem yGg (h :
 yaU w A0 fun t1 =>
 brB t1 (
 st w A0 [.bool true] fun w2 =>
 st w2 A1 [(.string (⟨#[]⟩ : BA))] fun w3 =>
 R (.tuple #[]) w3)
 (
 yaP w A1 fun s4 =>
 Calls pP 96 #[.string s4] w fun e w5 => ∃ t6, e = .returned (.bool t6) ∧
 st w5 A0 [(.bool (!t6))] fun w7 =>
 st w7 A1 [(.string (⟨#[]⟩ : BA))] fun w8 =>
 R (.tuple #[]) w8)) :
 CR pP 174 #[(.pointer (some A0)), (.pointer (some A1))] w R :=
 yaA Tryz.wide_mixed (an := []) Tryz.func174 rfl rfl (by kernel_rfl) rfl (Eq.mpr (by kernel_rfl) h)
theorem yGh (h :
 st w A1 [.bool false] fun w1 =>
 R (.tuple #[]) w1) :
 CR pP 173 #[(.pointer (some A0)), (.pointer (some A1))] w R :=
 yaA Tryz.wide_mixed (an := []) Tryz.func173 rfl rfl (by kernel_rfl) rfl (Eq.mpr (by kernel_rfl) h)
theorem yGi (h :
 yaF .i64 w A1 fun x1 => yaF .i64 w (Addr.add A1 1) fun x2 => yaF .i64 w (Addr.add A1 2) fun x3 => yaR w (Addr.add A1 3) fun a4 n5 c6 =>
 Calls pP 163 #[(.agg (Z8 x1 x2 x3 a4 n5 c6))] w fun e w7 => ∃ x8, e = .returned (.int .i64 x8) ∧
 st w7 (Addr.add A0 2) [.int .i64 x8] fun w9 =>
 st w9 A1 [.int .i64 0, .int .i64 0, .int .i64 0, .slice none 0 0] fun a2 =>
 R (.tuple #[]) a2) :
 CR pP 172 #[(.pointer (some A0)), (.pointer (some A1))] w R :=
 yaA Tryz.wide_mixed (an := []) Tryz.func172 rfl rfl (by kernel_rfl) rfl (Eq.mpr (by kernel_rfl) h)
def yqQ : LA := ⟨[0, 0, 1, 0, 1], [0, 1, 4, 5], [], 0, []⟩
def ysI : List LA := [yqQ]
abbrev yGj := dnF pP ysI (code Tryz.f175)
abbrev yJg := yaO pP ysI (code Tryz.f175)
abbrev yGk (p : List Nat) (K : List Kh) (R : VWP) := yaO pP ysI (code Tryz.f175) p K (ya4 pP Tryz.f175 [] R)
def yjA (a0 : Addr) (a1 : Addr) : Bool × Int → List Value × List TB := fun (a2, a3) => ([(.pointer (some a0)), (.pointer (some a1)), .bool a2, .int .i64 a3], [])
abbrev yyE (a0 : Addr) (a1 : Addr) (I : Nat → Bool → Int → World → Prop) (m : Nat) : Kh := KG (yjA a0 a1) (U2 I) m
theorem yoY {I : Nat → Bool → Int → World → Prop} (m' : Nat) (h1 : m' < m) (h2 : I m' B0 i0 w) : KS (yyE A0 A1 I m) (yjA A0 A1 (B0, i0)) w := ⟨m', h1, _, rfl, rfl, h2⟩
theorem yyF (I : Nat → Bool → Int → World → Prop) (m0 : Nat) (h0 : I m0 B0 i0 w0)
 (hr : ∀ m a6 a5 w, I m a6 a5 w →
 yaR w A1 fun a1 n2 c3 =>
 brB (decide (a5 < (n2 : Int))) (
 brB a6 (
 yaR w A1 fun a4 n5 c6 =>
 ixA a4 n5 (IntKind.wrap .i64 (a5 - 1)) 1 fun q7 =>
 yaP w q7 fun s8 =>
 yaR w A1 fun a9 b5 d6 =>
 ixA a9 b5 a5 1 fun b9 =>
 yaP w b9 fun c0 =>
 ∀ b1, Adv [] [] w b1 →
 KS (yyE A0 A1 I m) (yjA A0 A1 ((Op.bytesLess s8.toList c0.toList), (IntKind.wrap .i64 (a5 + 1)))) b1)
 (
 ∀ b2, Adv [] [] w b2 →
 KS (yyE A0 A1 I m) (yjA A0 A1 (false, (IntKind.wrap .i64 (a5 + 1)))) b2))
 (
 yaR w A1 fun b3 b6 b4 =>
 Calls pP 177 #[.slice b3 b6 b4, (.func (.func 178) #[] #[])] w fun e a3 => ∃ b0, e = .returned (.bool b0) ∧
 yaU a3 A0 fun c1 =>
 brB c1 (
 st a3 A0 [.bool true] fun c2 =>
 st c2 A1 [.slice none 0 0] fun c4 =>
 R (.tuple #[]) c4)
 (
 yaR a3 A1 fun d4 b7 d7 =>
 brB ((b7 : Int) == 0) (
 st a3 A0 [.bool true] fun c5 =>
 st c5 A1 [.slice none 0 0] fun c7 =>
 R (.tuple #[]) c7)
 (
 yaR a3 A1 fun d5 b8 d8 =>
 brB (decide ((b8 : Int) > 8)) (
 st a3 A0 [.bool true] fun c8 =>
 st c8 A1 [.slice none 0 0] fun c9 =>
 R (.tuple #[]) c9)
 (
 brB b0 (
 st a3 A0 [.bool true] fun d0 =>
 st d0 A1 [.slice none 0 0] fun d1 =>
 R (.tuple #[]) d1)
 (
 st a3 A0 [(.bool (!a6))] fun d2 =>
 st d2 A1 [.slice none 0 0] fun d3 =>
 R (.tuple #[]) d3)))))) :
 yaJ yqQ (yGj 397 [0, 0, 1, 0, 1]) (yGk [1, 0, 1, 0] [] R) (yjA A0 A1 (B0, i0)) w0 :=
 lrule (yjA A0 A1) (U2 I) h0 (by rintro m ⟨a6, a5⟩ w h; exact ⟨by kernel_rfl, by kernel_rfl, fun js => Eq.mpr (by kernel_rfl) (hr m a6 a5 w h)⟩)
theorem yGl (h :
 yaJ yqQ (yGj 397 [0, 0, 1, 0, 1]) (yGk [1, 0, 1, 0] [] R) (yjA A0 A1 (true, 1)) w) :
 CR pP 175 #[(.pointer (some A0)), (.pointer (some A1))] w R :=
 yaA Tryz.wide_mixed (an := ysI) Tryz.func175 rfl rfl (by kernel_rfl) rfl (Eq.mpr (by kernel_rfl) h)
theorem yGm {a0 : BA} (h :
 Calls pP 96 #[.string a0] w fun e w1 => ∃ t2, e = .returned (.bool t2) ∧
 R (.bool (!t2)) w1) :
 CR pP 178 #[.string a0] w R :=
 yaA Tryz.wide_mixed (an := []) Tryz.func178 rfl rfl (by kernel_rfl) rfl (Eq.mpr (by kernel_rfl) h)
theorem yGn (h :
 Calls pP 179 #[.slice q0 n0 n1, (.func (.func 178) #[] #[])] w fun e w1 => ∃ x2, e = .returned (.int .i64 x2) ∧
 R (.bool (decide (x2 ≥ 0))) w1) :
 CR pP 177 #[.slice q0 n0 n1, (.func (.func 178) #[] #[])] w R :=
 yaA Tryz.wide_mixed (an := []) Tryz.func177 rfl rfl (by kernel_rfl) rfl (Eq.mpr (by kernel_rfl) h)
def yqR : LA := ⟨[0, 0, 1, 0, 1], [0, 1, 7, 8], [], 0, []⟩
def ysJ : List LA := [yqR]
abbrev yGo := dnF pP ysJ (code Tryz.f179)
abbrev yJh := yaO pP ysJ (code Tryz.f179)
abbrev yGp (p : List Nat) (K : List Kh) (R : VWP) := yaO pP ysJ (code Tryz.f179) p K (ya4 pP Tryz.f179 [] R)
def ykZ (a0 : OA) (a2 a1 : Nat) (a3 : Int) : Int → List Value × List TB := fun a4 => ([.slice a0 a2 a1, (.func (.func 178) #[] #[]), .int .i64 a3, .int .i64 a4], [])
abbrev yCq (a0 : OA) (a2 a1 : Nat) (a3 : Int) (I : Nat → Int → World → Prop) (m : Nat) : Kh := KG (ykZ a0 a2 a1 a3) (U1 I) m
theorem yyG {I : Nat → Int → World → Prop} (m' : Nat) (h1 : m' < m) (h2 : I m' i1 w) : KS (yCq q0 n0 n1 i0 I m) (ykZ q0 n0 n1 i0 i1) w := ⟨m', h1, _, rfl, rfl, h2⟩
theorem yyH {a1 : OA} (I : Nat → Int → World → Prop) (m0 : Nat) (h0 : I m0 i1 w0)
 (hr : ∀ m a0 w, I m a0 w →
 brB (decide (a0 < i0)) (
 ixA a1 n0 a0 1 fun q1 =>
 yaP w q1 fun s2 =>
 Calls pP 178 #[.string s2] w fun e w3 => ∃ t4, e = .returned (.bool t4) ∧
 brB t4 (
 R (.int .i64 a0) w3)
 (
 KS (yCq a1 n0 n1 i0 I m) (ykZ a1 n0 n1 i0 (IntKind.wrap .i64 (a0 + 1))) w3))
 (
 R (.int .i64 (-1)) w)) :
 yaJ yqR (yGo 397 [0, 0, 1, 0, 1]) (yGp [1, 0, 1, 0] [] R) (ykZ a1 n0 n1 i0 i1) w0 :=
 lrule (ykZ a1 n0 n1 i0) (U1 I) h0 (by rintro m a0 w h; exact ⟨by kernel_rfl, by kernel_rfl, fun js => Eq.mpr (by kernel_rfl) (hr m a0 w h)⟩)
theorem yGq (h :
 yaJ yqR (yGo 397 [0, 0, 1, 0, 1]) (yGp [1, 0, 1, 0] [] R) (ykZ q0 n0 n1 (n0 : Int) 0) w) :
 CR pP 179 #[.slice q0 n0 n1, (.func (.func 178) #[] #[])] w R :=
 yaA Tryz.wide_mixed (an := ysJ) Tryz.func179 rfl rfl (by kernel_rfl) rfl (Eq.mpr (by kernel_rfl) h)
theorem yGr (h :
 ∀ w1, Adv [] [] w w1 →
 Calls pP 174 #[(.pointer (some A1)), (.pointer (some A0))] w1 fun e w2 => e = .returned (.tuple #[]) ∧
 ∀ w3, Adv [] [] w2 w3 →
 Calls pP 176 #[(.pointer (some A1)), (.pointer (some (Addr.add A0 1)))] w3 fun e w4 => e = .returned (.tuple #[]) ∧
 R (.tuple #[]) w4) :
 CR pP 60 #[(.iface 158 (.pointer (some A1))), (.pointer (some A0))] w R :=
 yaA Tryz.wide_mixed (an := []) Tryz.func60 rfl rfl (by kernel_rfl) rfl (Eq.mpr (by kernel_rfl) h)
theorem yGs (h :
 ∀ w1, Adv [] [] w w1 →
 Calls pP 174 #[(.pointer (some A1)), (.pointer (some (Addr.add A0 9)))] w1 fun e w2 => e = .returned (.tuple #[]) ∧
 ∀ w3, Adv [] [] w2 w3 →
 Calls pP 174 #[(.pointer (some A1)), (.pointer (some (Addr.add A0 10)))] w3 fun e w4 => e = .returned (.tuple #[]) ∧
 R (.tuple #[]) w4) :
 CR pP 118 #[(.iface 158 (.pointer (some A1))), (.pointer (some A0))] w R :=
 yaA Tryz.wide_mixed (an := []) Tryz.func118 rfl rfl (by kernel_rfl) rfl (Eq.mpr (by kernel_rfl) h)
theorem yGt (h :
 yaF .i64 w A0 fun x1 =>
 brB (x1 == 0) (
 ∀ w2, Adv [] [] w w2 →
 Calls pP 174 #[(.pointer (some A1)), (.pointer (some (Addr.add A0 1)))] w2 fun e w3 => e = .returned (.tuple #[]) ∧
 ∀ w4, Adv [] [] w3 w4 →
 Calls pP 176 #[(.pointer (some A1)), (.pointer (some (Addr.add A0 3)))] w4 fun e w5 => e = .returned (.tuple #[]) ∧
 R (.tuple #[]) w5)
 (
 brB (x1 == 1) (
 brB (x1 == 1) (
 ∀ w6, Adv [] [] w w6 →
 Calls pP 176 #[(.pointer (some A1)), (.pointer (some (Addr.add A0 3)))] w6 fun e w7 => e = .returned (.tuple #[]) ∧
 R (.tuple #[]) w7)
 (
 brB (x1 == 2) (
 Calls pP 60 #[(.iface 158 (.pointer (some A1))), (.pointer (some (Addr.add A0 1)))] w fun e w8 => e = .returned (.tuple #[]) ∧
 ∀ w9, Adv [] [] w8 w9 →
 Calls pP 172 #[(.pointer (some A1)), (.pointer (some (Addr.add A0 5)))] w9 fun e f3 => e = .returned (.tuple #[]) ∧
 R (.tuple #[]) f3)
 (
 brB (x1 == 3) (
 Calls pP 60 #[(.iface 158 (.pointer (some A1))), (.pointer (some (Addr.add A0 1)))] w fun e f4 => e = .returned (.tuple #[]) ∧
 ∀ a9, Adv [] [] f4 a9 →
 Calls pP 176 #[(.pointer (some A1)), (.pointer (some (Addr.add A0 4)))] a9 fun e f5 => e = .returned (.tuple #[]) ∧
 ∀ b0, Adv [] [] f5 b0 →
 Calls pP 176 #[(.pointer (some A1)), (.pointer (some (Addr.add A0 3)))] b0 fun e f6 => e = .returned (.tuple #[]) ∧
 R (.tuple #[]) f6)
 (
 brB (x1 == 4) (
 Calls pP 60 #[(.iface 158 (.pointer (some A1))), (.pointer (some (Addr.add A0 1)))] w fun e f7 => e = .returned (.tuple #[]) ∧
 ∀ b1, Adv [] [] f7 b1 →
 Calls pP 176 #[(.pointer (some A1)), (.pointer (some (Addr.add A0 4)))] b1 fun e f8 => e = .returned (.tuple #[]) ∧
 R (.tuple #[]) f8)
 (
 brB (x1 == 5) (
 Calls pP 60 #[(.iface 158 (.pointer (some A1))), (.pointer (some (Addr.add A0 1)))] w fun e f9 => e = .returned (.tuple #[]) ∧
 R (.tuple #[]) f9)
 (
 brB (x1 == 6) (
 Calls pP 118 #[(.iface 158 (.pointer (some A1))), (.pointer (some A0))] w fun e g0 => e = .returned (.tuple #[]) ∧
 ∀ b2, Adv [] [] g0 b2 →
 Calls pP 176 #[(.pointer (some A1)), (.pointer (some (Addr.add A0 3)))] b2 fun e g1 => e = .returned (.tuple #[]) ∧
 ∀ b3, Adv [] [] g1 b3 →
 Calls pP 173 #[(.pointer (some A1)), (.pointer (some (Addr.add A0 12)))] b3 fun e g2 => e = .returned (.tuple #[]) ∧
 ∀ b4, Adv [] [] g2 b4 →
 Calls pP 175 #[(.pointer (some A1)), (.pointer (some (Addr.add A0 13)))] b4 fun e g3 => e = .returned (.tuple #[]) ∧
 R (.tuple #[]) g3)
 (
 brB (x1 == 7) (
 brB (x1 == 7) (
 Calls pP 118 #[(.iface 158 (.pointer (some A1))), (.pointer (some A0))] w fun e g4 => e = .returned (.tuple #[]) ∧
 ∀ b5, Adv [] [] g4 b5 →
 Calls pP 176 #[(.pointer (some A1)), (.pointer (some (Addr.add A0 11)))] b5 fun e g5 => e = .returned (.tuple #[]) ∧
 R (.tuple #[]) g5)
 (
 brB (x1 == 10) (
 Calls pP 118 #[(.iface 158 (.pointer (some A1))), (.pointer (some A0))] w fun e g6 => e = .returned (.tuple #[]) ∧
 ∀ b6, Adv [] [] g6 b6 →
 Calls pP 176 #[(.pointer (some A1)), (.pointer (some (Addr.add A0 11)))] b6 fun e g7 => e = .returned (.tuple #[]) ∧
 Calls pP 60 #[(.iface 158 (.pointer (some A1))), (.pointer (some (Addr.add A0 1)))] g7 fun e g8 => e = .returned (.tuple #[]) ∧
 ∀ b7, Adv [] [] g8 b7 →
 Calls pP 176 #[(.pointer (some A1)), (.pointer (some (Addr.add A0 4)))] b7 fun e g9 => e = .returned (.tuple #[]) ∧
 R (.tuple #[]) g9)
 (
 brB (x1 == 11) (
 ∀ b8, Adv [] [] w b8 →
 Calls pP 174 #[(.pointer (some A1)), (.pointer (some (Addr.add A0 9)))] b8 fun e h0 => e = .returned (.tuple #[]) ∧
 Calls pP 60 #[(.iface 158 (.pointer (some A1))), (.pointer (some (Addr.add A0 1)))] h0 fun e h1 => e = .returned (.tuple #[]) ∧
 R (.tuple #[]) h1)
 (
 R (.tuple #[]) w))))
 (
 brB (x1 == 8) (
 brB (x1 == 8) (
 Calls pP 118 #[(.iface 158 (.pointer (some A1))), (.pointer (some A0))] w fun e h2 => e = .returned (.tuple #[]) ∧
 ∀ b9, Adv [] [] h2 b9 →
 Calls pP 176 #[(.pointer (some A1)), (.pointer (some (Addr.add A0 11)))] b9 fun e h3 => e = .returned (.tuple #[]) ∧
 R (.tuple #[]) h3)
 (
 brB (x1 == 10) (
 Calls pP 118 #[(.iface 158 (.pointer (some A1))), (.pointer (some A0))] w fun e h4 => e = .returned (.tuple #[]) ∧
 ∀ c0, Adv [] [] h4 c0 →
 Calls pP 176 #[(.pointer (some A1)), (.pointer (some (Addr.add A0 11)))] c0 fun e h5 => e = .returned (.tuple #[]) ∧
 Calls pP 60 #[(.iface 158 (.pointer (some A1))), (.pointer (some (Addr.add A0 1)))] h5 fun e h6 => e = .returned (.tuple #[]) ∧
 ∀ c1, Adv [] [] h6 c1 →
 Calls pP 176 #[(.pointer (some A1)), (.pointer (some (Addr.add A0 4)))] c1 fun e h7 => e = .returned (.tuple #[]) ∧
 R (.tuple #[]) h7)
 (
 brB (x1 == 11) (
 ∀ c2, Adv [] [] w c2 →
 Calls pP 174 #[(.pointer (some A1)), (.pointer (some (Addr.add A0 9)))] c2 fun e h8 => e = .returned (.tuple #[]) ∧
 Calls pP 60 #[(.iface 158 (.pointer (some A1))), (.pointer (some (Addr.add A0 1)))] h8 fun e h9 => e = .returned (.tuple #[]) ∧
 R (.tuple #[]) h9)
 (
 R (.tuple #[]) w))))
 (
 brB (x1 == 9) (
 Calls pP 118 #[(.iface 158 (.pointer (some A1))), (.pointer (some A0))] w fun e u0 => e = .returned (.tuple #[]) ∧
 ∀ c3, Adv [] [] u0 c3 →
 Calls pP 176 #[(.pointer (some A1)), (.pointer (some (Addr.add A0 11)))] c3 fun e u1 => e = .returned (.tuple #[]) ∧
 R (.tuple #[]) u1)
 (
 brB (x1 == 10) (
 Calls pP 118 #[(.iface 158 (.pointer (some A1))), (.pointer (some A0))] w fun e u2 => e = .returned (.tuple #[]) ∧
 ∀ c4, Adv [] [] u2 c4 →
 Calls pP 176 #[(.pointer (some A1)), (.pointer (some (Addr.add A0 11)))] c4 fun e u3 => e = .returned (.tuple #[]) ∧
 Calls pP 60 #[(.iface 158 (.pointer (some A1))), (.pointer (some (Addr.add A0 1)))] u3 fun e u4 => e = .returned (.tuple #[]) ∧
 ∀ c5, Adv [] [] u4 c5 →
 Calls pP 176 #[(.pointer (some A1)), (.pointer (some (Addr.add A0 4)))] c5 fun e u5 => e = .returned (.tuple #[]) ∧
 R (.tuple #[]) u5)
 (
 brB (x1 == 11) (
 ∀ c6, Adv [] [] w c6 →
 Calls pP 174 #[(.pointer (some A1)), (.pointer (some (Addr.add A0 9)))] c6 fun e u6 => e = .returned (.tuple #[]) ∧
 Calls pP 60 #[(.iface 158 (.pointer (some A1))), (.pointer (some (Addr.add A0 1)))] u6 fun e u7 => e = .returned (.tuple #[]) ∧
 R (.tuple #[]) u7)
 (
 R (.tuple #[]) w))))))))))))
 (
 brB (x1 == 12) (
 ∀ c7, Adv [] [] w c7 →
 Calls pP 176 #[(.pointer (some A1)), (.pointer (some (Addr.add A0 3)))] c7 fun e u9 => e = .returned (.tuple #[]) ∧
 R (.tuple #[]) u9)
 (
 brB (x1 == 2) (
 Calls pP 60 #[(.iface 158 (.pointer (some A1))), (.pointer (some (Addr.add A0 1)))] w fun e v0 => e = .returned (.tuple #[]) ∧
 ∀ c8, Adv [] [] v0 c8 →
 Calls pP 172 #[(.pointer (some A1)), (.pointer (some (Addr.add A0 5)))] c8 fun e v1 => e = .returned (.tuple #[]) ∧
 R (.tuple #[]) v1)
 (
 brB (x1 == 3) (
 Calls pP 60 #[(.iface 158 (.pointer (some A1))), (.pointer (some (Addr.add A0 1)))] w fun e v2 => e = .returned (.tuple #[]) ∧
 ∀ c9, Adv [] [] v2 c9 →
 Calls pP 176 #[(.pointer (some A1)), (.pointer (some (Addr.add A0 4)))] c9 fun e v3 => e = .returned (.tuple #[]) ∧
 ∀ d0, Adv [] [] v3 d0 →
 Calls pP 176 #[(.pointer (some A1)), (.pointer (some (Addr.add A0 3)))] d0 fun e v4 => e = .returned (.tuple #[]) ∧
 R (.tuple #[]) v4)
 (
 brB (x1 == 4) (
 Calls pP 60 #[(.iface 158 (.pointer (some A1))), (.pointer (some (Addr.add A0 1)))] w fun e v5 => e = .returned (.tuple #[]) ∧
 ∀ d1, Adv [] [] v5 d1 →
 Calls pP 176 #[(.pointer (some A1)), (.pointer (some (Addr.add A0 4)))] d1 fun e v6 => e = .returned (.tuple #[]) ∧
 R (.tuple #[]) v6)
 (
 brB (x1 == 5) (
 Calls pP 60 #[(.iface 158 (.pointer (some A1))), (.pointer (some (Addr.add A0 1)))] w fun e v7 => e = .returned (.tuple #[]) ∧
 R (.tuple #[]) v7)
 (
 brB (x1 == 6) (
 Calls pP 118 #[(.iface 158 (.pointer (some A1))), (.pointer (some A0))] w fun e v8 => e = .returned (.tuple #[]) ∧
 ∀ d2, Adv [] [] v8 d2 →
 Calls pP 176 #[(.pointer (some A1)), (.pointer (some (Addr.add A0 3)))] d2 fun e v9 => e = .returned (.tuple #[]) ∧
 ∀ d3, Adv [] [] v9 d3 →
 Calls pP 173 #[(.pointer (some A1)), (.pointer (some (Addr.add A0 12)))] d3 fun e w0 => e = .returned (.tuple #[]) ∧
 ∀ d4, Adv [] [] w0 d4 →
 Calls pP 175 #[(.pointer (some A1)), (.pointer (some (Addr.add A0 13)))] d4 fun e w1 => e = .returned (.tuple #[]) ∧
 R (.tuple #[]) w1)
 (
 brB (x1 == 7) (
 brB (x1 == 7) (
 Calls pP 118 #[(.iface 158 (.pointer (some A1))), (.pointer (some A0))] w fun e x0 => e = .returned (.tuple #[]) ∧
 ∀ d5, Adv [] [] x0 d5 →
 Calls pP 176 #[(.pointer (some A1)), (.pointer (some (Addr.add A0 11)))] d5 fun e x2 => e = .returned (.tuple #[]) ∧
 R (.tuple #[]) x2)
 (
 brB (x1 == 10) (
 Calls pP 118 #[(.iface 158 (.pointer (some A1))), (.pointer (some A0))] w fun e x3 => e = .returned (.tuple #[]) ∧
 ∀ d6, Adv [] [] x3 d6 →
 Calls pP 176 #[(.pointer (some A1)), (.pointer (some (Addr.add A0 11)))] d6 fun e x4 => e = .returned (.tuple #[]) ∧
 Calls pP 60 #[(.iface 158 (.pointer (some A1))), (.pointer (some (Addr.add A0 1)))] x4 fun e x5 => e = .returned (.tuple #[]) ∧
 ∀ d7, Adv [] [] x5 d7 →
 Calls pP 176 #[(.pointer (some A1)), (.pointer (some (Addr.add A0 4)))] d7 fun e x6 => e = .returned (.tuple #[]) ∧
 R (.tuple #[]) x6)
 (
 brB (x1 == 11) (
 ∀ d8, Adv [] [] w d8 →
 Calls pP 174 #[(.pointer (some A1)), (.pointer (some (Addr.add A0 9)))] d8 fun e x7 => e = .returned (.tuple #[]) ∧
 Calls pP 60 #[(.iface 158 (.pointer (some A1))), (.pointer (some (Addr.add A0 1)))] x7 fun e x8 => e = .returned (.tuple #[]) ∧
 R (.tuple #[]) x8)
 (
 R (.tuple #[]) w))))
 (
 brB (x1 == 8) (
 brB (x1 == 8) (
 Calls pP 118 #[(.iface 158 (.pointer (some A1))), (.pointer (some A0))] w fun e x9 => e = .returned (.tuple #[]) ∧
 ∀ d9, Adv [] [] x9 d9 →
 Calls pP 176 #[(.pointer (some A1)), (.pointer (some (Addr.add A0 11)))] d9 fun e y0 => e = .returned (.tuple #[]) ∧
 R (.tuple #[]) y0)
 (
 brB (x1 == 10) (
 Calls pP 118 #[(.iface 158 (.pointer (some A1))), (.pointer (some A0))] w fun e y1 => e = .returned (.tuple #[]) ∧
 ∀ a2, Adv [] [] y1 a2 →
 Calls pP 176 #[(.pointer (some A1)), (.pointer (some (Addr.add A0 11)))] a2 fun e e0 => e = .returned (.tuple #[]) ∧
 Calls pP 60 #[(.iface 158 (.pointer (some A1))), (.pointer (some (Addr.add A0 1)))] e0 fun e e1 => e = .returned (.tuple #[]) ∧
 ∀ a3, Adv [] [] e1 a3 →
 Calls pP 176 #[(.pointer (some A1)), (.pointer (some (Addr.add A0 4)))] a3 fun e e2 => e = .returned (.tuple #[]) ∧
 R (.tuple #[]) e2)
 (
 brB (x1 == 11) (
 ∀ a4, Adv [] [] w a4 →
 Calls pP 174 #[(.pointer (some A1)), (.pointer (some (Addr.add A0 9)))] a4 fun e e3 => e = .returned (.tuple #[]) ∧
 Calls pP 60 #[(.iface 158 (.pointer (some A1))), (.pointer (some (Addr.add A0 1)))] e3 fun e e4 => e = .returned (.tuple #[]) ∧
 R (.tuple #[]) e4)
 (
 R (.tuple #[]) w))))
 (
 brB (x1 == 9) (
 Calls pP 118 #[(.iface 158 (.pointer (some A1))), (.pointer (some A0))] w fun e e5 => e = .returned (.tuple #[]) ∧
 ∀ a5, Adv [] [] e5 a5 →
 Calls pP 176 #[(.pointer (some A1)), (.pointer (some (Addr.add A0 11)))] a5 fun e e6 => e = .returned (.tuple #[]) ∧
 R (.tuple #[]) e6)
 (
 brB (x1 == 10) (
 Calls pP 118 #[(.iface 158 (.pointer (some A1))), (.pointer (some A0))] w fun e e7 => e = .returned (.tuple #[]) ∧
 ∀ a6, Adv [] [] e7 a6 →
 Calls pP 176 #[(.pointer (some A1)), (.pointer (some (Addr.add A0 11)))] a6 fun e e8 => e = .returned (.tuple #[]) ∧
 Calls pP 60 #[(.iface 158 (.pointer (some A1))), (.pointer (some (Addr.add A0 1)))] e8 fun e e9 => e = .returned (.tuple #[]) ∧
 ∀ a7, Adv [] [] e9 a7 →
 Calls pP 176 #[(.pointer (some A1)), (.pointer (some (Addr.add A0 4)))] a7 fun e f0 => e = .returned (.tuple #[]) ∧
 R (.tuple #[]) f0)
 (
 brB (x1 == 11) (
 ∀ a8, Adv [] [] w a8 →
 Calls pP 174 #[(.pointer (some A1)), (.pointer (some (Addr.add A0 9)))] a8 fun e f1 => e = .returned (.tuple #[]) ∧
 Calls pP 60 #[(.iface 158 (.pointer (some A1))), (.pointer (some (Addr.add A0 1)))] f1 fun e f2 => e = .returned (.tuple #[]) ∧
 R (.tuple #[]) f2)
 (
 R (.tuple #[]) w)))))))))))))) :
 CR pP 93 #[(.iface 158 (.pointer (some A1))), (.pointer (some A0))] w R :=
 yaA Tryz.wide_mixed (an := []) Tryz.func93 rfl rfl (by kernel_rfl) rfl (Eq.mpr (by kernel_rfl) h)
theorem yGu {b0 : BA} {b9 a7 : BA} (h :
 ∀ b1, w.heap.size ≤ b1 →
 brB (decide (i0 < 0)) (
 ∀ w2, Adv [] [b1] w w2 →
 R (.int .i64 41) w2)
 (
 brB (decide (i0 ≥ 13)) (
 ∀ w3, Adv [] [b1] w w3 →
 R (.int .i64 41) w3)
 (
 ∀ b4, w.heap.size ≤ b4 →
 ∀ w5, Adv [] [b4, b1] w w5 → w5.heap[b1]? = some (.cells (Z1 i0 b0 i1 i2 i3 i4 i5 i6 q0 n0 n1 b9 a7 i7 B0 q1 n2 n3) 49) →
 w5.heap[b4]? = some (.cells #[.bool false, .bool false, .int .i64 0] 160) →
 Calls pP 93 #[(.iface 158 (.pointer (some ⟨b4, 0, none⟩))), (.pointer (some ⟨b1, 0, none⟩))] w5 fun e w6 => e = .returned (.tuple #[]) ∧ ∃ x7 s8 x9 d3 d4 d5 d6 d7 c1 c5 c3 c7 c8 d8 c9 c2 c6 c4, w6.heap[b1]? = some (.cells (Z1 x7 s8 x9 d3 d4 d5 d6 d7 c1 c5 c3 c7 c8 d8 c9 c2 c6 c4) 49) ∧ ∃ d0 d9 e0, w6.heap[b4]? = some (.cells #[.bool d0, .bool d9, .int .i64 e0] 160) ∧
 brB d0 (
 ∀ d1, Adv [b1] [] w6 d1 → d1.heap[b1]? = some (.cells (Z1 0 s8 x9 d3 d4 d5 d6 d7 c1 c5 c3 c7 c8 d8 c9 c2 c6 c4) 49) →
 d1.heap[b4]? = some (.cells #[.bool d0, .bool d9, .int .i64 e0] 160) →
 R (.int .i64 40) d1)
 (
 ∀ d2, Adv [b1] [] w6 d2 → d2.heap[b1]? = some (.cells (Z1 0 s8 x9 d3 d4 d5 d6 d7 c1 c5 c3 c7 c8 d8 c9 c2 c6 c4) 49) →
 d2.heap[b4]? = some (.cells #[.bool d0, .bool d9, .int .i64 e0] 160) →
 Calls pP 72 #[(.agg (Z1 0 s8 x9 d3 d4 d5 d6 d7 c1 c5 c3 c7 c8 d8 c9 c2 c6 c4)), (.agg (Z1 0 ByteArray.empty 0 0 0 0 0 0 none 0 0 ByteArray.empty ByteArray.empty 0 false none 0 0))] d2 fun e c0 => ∃ e1, e = .returned (.bool e1) ∧ ∃ f5 f0 f6 f7 f8 f9 g0 g1 e4 e8 e6 f1 f2 g2 f3 e5 e9 e7, c0.heap[b1]? = some (.cells (Z1 f5 f0 f6 f7 f8 f9 g0 g1 e4 e8 e6 f1 f2 g2 f3 e5 e9 e7) 49) ∧ ∃ f4 e2 e3, c0.heap[b4]? = some (.cells #[.bool f4, .bool e2, .int .i64 e3] 160) ∧
 brB (!e1) (
 R (.int .i64 40) c0)
 (
 brB e2 (
 R (.int .i64 1) c0)
 (
 R (.int .i64 e3) c0)))))) :
 CR pP 92 #[(.agg (Z1 i0 b0 i1 i2 i3 i4 i5 i6 q0 n0 n1 b9 a7 i7 B0 q1 n2 n3))] w R :=
 yaA Tryz.wide_mixed (an := []) Tryz.func92 rfl rfl (by kernel_rfl) rfl (Eq.mpr (by kernel_rfl) h)
end
theorem yGv {w : World} {a1 a2 : Option Addr} {n1 c1 n2 c2 : Nat} {l1 l2 : List ByteArray} (h1 : ybS w 1 yi6 a1 n1 l1) (h2 : ybS w 1 yi6 a2 n2 l2) (hl : l1.length ≤ 1000000) :
  Calls pP 107 #[.slice a1 n1 c1, .slice a2 n2 c2] w fun e w' => e = .returned (.bool (decide (l1 = l2))) ∧ Mod [] w w' := by
 refine yaQ (yF9 ?_)
 have e1 := h1.1
 have e2 := h2.1
 refine yaB (fun h => ⟨congrArg Value.bool (decide_eq_false fun e => ?_).symm, Mod.refl _⟩) fun h => ?_
 ·subst e
  rw [e1, e2] at h
  simp at h
 have hlen : l1.length = l2.length := by
  simp at h
  omega
 refine yyB (fun mm x w' => ∃ k : Nat, x = k ∧ k ≤ l1.length ∧ l1.take k = l2.take k ∧ Mod [] w w' ∧ mm = l1.length - k) l1.length ⟨0, rfl, by omega, by simp, Mod.refl _, rfl⟩ ?_
 rintro mm x w1 ⟨k, rfl, hk, ht, M, rfl⟩
 refine yaC (fun hlt => ?_) fun hge => ?_
 ·have g1 : k < l1.length := by omega
  have g2 : k < l2.length := by omega
  obtain ⟨x, hx⟩ : ∃ x, l1[k]? = some x := ⟨_, List.getElem?_eq_getElem g1⟩
  obtain ⟨y, hy⟩ : ∃ y, l2[k]? = some y := ⟨_, List.getElem?_eq_getElem g2⟩
  refine (h1.keep0 M).ix hx fun q hq => yaH (by simpa [add_zero] using hq 0 _ rfl) ?_
  refine (h2.keep0 M).ix hy fun q hq => yaH (by simpa [add_zero] using hq 0 _ rfl) ?_
  rw [yf9 x y]
  refine yaB (fun hne => ?_) fun heq => ?_
  rotate_left
  rotate_right
  ·intro w2 A2
   refine ⟨congrArg Value.bool (decide_eq_false fun e => (show ¬ x = y by simpa using hne) ?_).symm, M.go0 A2.mod (by simp)⟩
   subst e
   rw [hx] at hy
   exact Option.some.inj hy
  ·intro w2 A2
   have he : x = y := by simpa using heq
   subst he
   exact yyA (l1.length - (k + 1)) (by omega) ⟨k + 1, by rw [yaG (by omega) (by omega)]; omega, by omega, yb4 ht hx hy, M.go0 A2.mod (by simp), rfl⟩
 ·have hk : k = l1.length := by omega
  subst hk
  rw [List.take_length, hlen, List.take_length] at ht
  exact ⟨congrArg Value.bool (decide_eq_true ht).symm, M⟩
theorem neR (x y : PRec) (o1 o2 : Operand) (w : World) : Sem.run pP (do eqGuard .neq 53 o1 o2 x.v y.v; Go.binOp .neq 53 x.v y.v) w = .ok (.bool (decide (x ≠ y))) w := by
 obtain ⟨a, b, c, d⟩ := x
 obtain ⟨a', b', c', d'⟩ := y
 simp [go_sem, Sem.run_bind, PRec.v]
 by_cases h1 : a = a' <;> by_cases h2 : b = b' <;> by_cases h3 : c = c' <;> by_cases h4 : d = d' <;> simp [h1, h2, h3, h4, yc1]
theorem yIJ (x y : PPart) (o1 o2 : Operand) (w : World) : Sem.run pP (do eqGuard .eql 43 o1 o2 x.v y.v; Go.binOp .eql 43 x.v y.v) w = .ok (.bool (decide (x = y))) w := by
 obtain ⟨a, b⟩ := x
 obtain ⟨a', b'⟩ := y
 simp [go_sem, Sem.run_bind, PPart.v]
 by_cases h1 : a = a' <;> by_cases h2 : b = b' <;> simp [h1, h2, yc1]
theorem yGw {w : World} {a1 a2 : Option Addr} {n1 c1 n2 c2 : Nat} {l1 l2 : List PRec} (h1 : ybS w 4 yeR a1 n1 l1) (h2 : ybS w 4 yeR a2 n2 l2) (hl : l1.length ≤ 1000000) :
  Calls pP 129 #[.slice a1 n1 c1, .slice a2 n2 c2] w fun e w' => e = .returned (.bool (decide (l1 = l2))) ∧ Mod [] w w' := by
 refine yaQ (yGc ?_)
 have e1 := h1.1
 have e2 := h2.1
 refine yaB (fun h => ⟨congrArg Value.bool (decide_eq_false fun e => ?_).symm, Mod.refl _⟩) fun h => ?_
 ·subst e
  rw [e1, e2] at h
  simp at h
 have hlen : l1.length = l2.length := by
  simp at h
  omega
 refine yyD (fun mm x w' => ∃ k : Nat, x = k ∧ k ≤ l1.length ∧ l1.take k = l2.take k ∧ Mod [] w w' ∧ mm = l1.length - k) l1.length ⟨0, rfl, by omega, by simp, Mod.refl _, rfl⟩ ?_
 rintro mm x w1 ⟨k, rfl, hk, ht, M, rfl⟩
 refine yaC (fun hlt => ?_) fun hge => ?_
 ·have g1 : k < l1.length := by omega
  have g2 : k < l2.length := by omega
  obtain ⟨x, hx⟩ : ∃ x, l1[k]? = some x := ⟨_, List.getElem?_eq_getElem g1⟩
  obtain ⟨y, hy⟩ : ∃ y, l2[k]? = some y := ⟨_, List.getElem?_eq_getElem g2⟩
  refine (h1.keep0 M).ix hx fun q hq => yaM (by simpa [add_zero] using hq 0 _ rfl) (yaH (hq 1 _ rfl) (yaM (hq 2 _ rfl) (yaH (hq 3 _ rfl) ?_)))
  refine (h2.keep0 M).ix hy fun q hq => yaM (by simpa [add_zero] using hq 0 _ rfl) (yaH (hq 1 _ rfl) (yaM (hq 2 _ rfl) (yaH (hq 3 _ rfl) ?_)))
  refine ⟨_, fun w' _ => neR x y _ _ w', ?_⟩
  refine yaC (fun hne => ?_) fun heq => ?_
  ·intro w2 A2
   refine ⟨congrArg Value.bool (decide_eq_false fun e => hne ?_).symm, M.go0 A2.mod (by simp)⟩
   subst e
   rw [hx] at hy
   exact Option.some.inj hy
  ·intro w2 A2
   have he : x = y := Decidable.not_not.1 heq
   subst he
   exact yyC (l1.length - (k + 1)) (by omega) ⟨k + 1, by rw [yaG (by omega) (by omega)]; omega, by omega, yb4 ht hx hy, M.go0 A2.mod (by simp), rfl⟩
 ·have hk : k = l1.length := by omega
  subst hk
  rw [List.take_length, hlen, List.take_length] at ht
  exact ⟨congrArg Value.bool (decide_eq_true ht).symm, M⟩
def PBatch.v (b : PBatch) (rs : Sl) : Value := .agg #[.int .i64 b.prod, .int .i64 b.epoch, .int .i64 b.seq, .slice rs.a rs.n rs.c]
theorem yt6 {w : World} {x y : PBatch} {s t : Sl} (h1 : ybS w 4 yeR s.a s.n x.recs) (h2 : ybS w 4 yeR t.a t.n y.recs) (hl : x.recs.length ≤ 1000000) :
  Calls pP 106 #[x.v s, y.v t] w fun e w' => e = .returned (.bool (decide (x = y))) ∧ Mod [] w w' := by
 obtain ⟨a1, a2, a3, a4⟩ := x
 obtain ⟨b1, b2, b3, b4⟩ := y
 refine yaQ (yF5 ?_)
 intro c1 f1 c2 f2
 simp only [PBatch.mk.injEq]
 refine yaB (fun g1 => ?_) fun g1 => ?_
 ·have g1 : a1 = b1 := by simpa using g1
  refine yaB (fun g2 => ?_) fun g2 => ?_
  ·have g2 : a2 = b2 := by simpa using g2
   refine yaB (fun g3 => ?_) fun g3 => ?_
   ·have g3 : a3 = b3 := by simpa using g3
    intro w1 A1
    refine (yGw (h1.keep0 A1.mod) (h2.keep0 A1.mod) hl).mono ?_
    rintro e w2 ⟨rfl, M2⟩
    exact ⟨_, rfl, yaI.of0 M2, by simp [g1, g2, g3], A1.mod.go0 M2 (by simp)⟩
   ·intro w1 A1
    exact ⟨congrArg Value.bool (decide_eq_false (by simp at g3; rintro ⟨_, _, h, _⟩; exact g3 h)).symm, A1.mod⟩
  ·intro w1 A1
   exact ⟨congrArg Value.bool (decide_eq_false (by simp at g2; rintro ⟨_, h, _⟩; exact g2 h)).symm, A1.mod⟩
 ·intro w1 A1
  exact ⟨congrArg Value.bool (decide_eq_false (by simp at g1; rintro ⟨h, _⟩; exact g1 h)).symm, A1.mod⟩
theorem yoZ {w : World} {x y : POp} {rs ts rs' ts' : Sl} (h1 : OpAt w x rs ts) (h2 : OpAt w y rs' ts') :
  Calls pP 72 #[x.v rs ts, y.v rs' ts'] w fun e w' => e = .returned (.bool (decide (x = y))) ∧ Mod [] w w' := by
 obtain ⟨k1, p1, n1, o1, b1, g1, m1, e1, r1, t1⟩ := x
 obtain ⟨k2, p2, n2, o2, b2, g2, m2, e2, r2, t2⟩ := y
 refine yaQ (yF6 ?_)
 intro c1 f1 c2 f2
 simp only [POp.mk.injEq]
 have no : ∀ {P : Prop} [Decidable P] {w' : World}, ¬ P → Mod [] w w' → (Value.bool false = Value.bool (decide P) ∧ Mod [] w w') := fun hn M => ⟨congrArg Value.bool (decide_eq_false hn).symm, M⟩
 refine yaB (fun q1 => ?_) fun q1 => ?_
 rotate_left
 ·intro w1 A1
  exact no (by simp at q1; rintro ⟨h, _⟩; exact q1 h) A1.mod
 have q1 : k1 = k2 := by simpa using q1
 intro w1 A1
 have M1 := A1.mod
 refine ⟨_, fun w' _ => yIJ p1 p2 _ _ w', yaB (fun q2 => ?_) fun q2 => no (by simp at q2; rintro ⟨_, h, _⟩; exact q2 h) M1⟩
 have q2 : p1 = p2 := by simpa using q2
 refine yaB (fun q3 => ?_) fun q3 => no (by simp at q3; rintro ⟨_, _, h, _⟩; exact q3 h) M1
 have q3 : n1 = n2 := by simpa using q3
 refine yaB (fun q4 => ?_) fun q4 => no (by simp at q4; rintro ⟨_, _, _, h, _⟩; exact q4 h) M1
 have q4 : o1 = o2 := by simpa using q4
 rw [yf9, yf9]
 refine yaB (fun q5 => ?_) fun q5 => no (by simp at q5; rintro ⟨_, _, _, _, _, h, _⟩; exact q5 h) M1
 have q5 : g1 = g2 := by simpa using q5
 refine yaB (fun q6 => ?_) fun q6 => no (by simp at q6; rintro ⟨_, _, _, _, _, _, h, _⟩; exact q6 h) M1
 have q6 : m1 = m2 := by simpa using q6
 refine yaB (fun q7 => ?_) fun q7 => no (by simp at q7; rintro ⟨_, _, _, _, _, _, _, h, _⟩; exact q7 h) M1
 have q7 : e1 = e2 := by simpa using q7
 refine yaB (fun q8 => ?_) fun q8 => no (by simp at q8; rintro ⟨_, _, _, _, _, _, _, _, h, _⟩; exact q8 h) M1
 have q8 : r1 = r2 := by simpa using q8
 refine (yt6 (x := b1) (y := b2) (s := rs) (t := rs') (h1.recs.keep0 M1) (h2.recs.keep0 M1) h1.lr).mono ?_
 rintro e w2 ⟨rfl, M2⟩
 have N2 := M1.go0 M2 (by simp)
 refine ⟨_, rfl, yaI.of0 M2, yaB (fun q9 => ?_) fun q9 => no (by simp at q9; rintro ⟨_, _, _, _, h, _⟩; exact q9 h) N2⟩
 have q9 : b1 = b2 := by simpa using q9
 refine (yGv (h1.topics.keep0 N2) (h2.topics.keep0 N2) h1.lt).mono ?_
 rintro e w3 ⟨rfl, M3⟩
 exact ⟨_, rfl, yaI.of0 M3, by simp [q1, q2, q3, q4, q5, q6, q7, q8, q9], N2.go0 M3 (by simp)⟩
theorem yjB (n : Int) (w : World) : Calls pP 164 #[.int .i64 n] w fun e w' => e = .returned (.bool (num n)) ∧ w' = w :=
 yaQ (yFT (yaC (fun h => ⟨by simp [num]; omega, rfl⟩) (fun h => ⟨by simp [num]; omega, rfl⟩)))
theorem yyI {l : List PRec} {k : Nat} {x : PRec} (hx : l[k]? = some x) (h : ∀ y ∈ l.take k, ygE y = 0) (hne : ygE x ≠ 0) : (l.find? fun r => ygE r ≠ 0) = some x := by
 have hk : k < l.length := (List.getElem?_eq_some_iff.1 hx).1
 have e : l = l.take k ++ x :: l.drop (k + 1) := by
  have h2 : l[k] = x := (List.getElem?_eq_some_iff.1 hx).2
  conv => lhs; rw [← List.take_append_drop k l, List.drop_eq_getElem_cons hk, h2]
 rw [e, List.find?_append, List.find?_eq_none.2 (by intro y hy; simp [h y hy])]
 simp [hne]
theorem yo0 {w : World} {b : PBatch} {rs : Sl} (h : ybS w 4 yeR rs.a rs.n b.recs) (hl : b.recs.length ≤ 1000000) :
  Calls pP 163 #[b.v rs] w fun e w' => e = .returned (.int .i64 (yb0 b)) ∧ Mod [] w w' := by
 refine yaQ (yFW ?_)
 have hn := h.1
 intro b1 f1 w1 A1
 have l1 := A1.lt b1 (by simp)
 have bad : ∀ {k : Int} {w' : World}, yb0 b = k → Mod [] w w' → (Value.int .i64 k = Value.int .i64 (yb0 b) ∧ Mod [] w w') := fun e M => ⟨by rw [e], M⟩
 refine (yjB b.prod w1).mono ?_
 rintro e w2 ⟨rfl, rfl⟩
 refine ⟨_, rfl, yaI.of0 (Mod.refl _), yaB (fun q1 => bad (by rw [yb0, if_pos (by rw [yB7 q1]; rfl)]) A1.mod) fun q1 => ?_⟩
 refine (yjB b.epoch w2).mono ?_
 rintro e w3 ⟨rfl, rfl⟩
 refine ⟨_, rfl, yaI.of0 (Mod.refl _), yaB (fun q2 => bad (by rw [yb0, if_pos (by rw [yB7 q2]; simp)]) A1.mod) fun q2 => ?_⟩
 refine (yjB b.seq w3).mono ?_
 rintro e w4 ⟨rfl, rfl⟩
 refine ⟨_, rfl, yaI.of0 (Mod.refl _), yaB (fun q3 => bad (by rw [yb0, if_pos (by rw [yB7 q3]; simp)]) A1.mod) fun q3 => ?_⟩
 have e0 : yb0 b = if b.recs.length = 0 then 30 else if b.recs.length > 16 then 2 else match b.recs.find? fun r => ygE r ≠ 0 with | none => 0 | some r => ygE r := by
  rw [yb0, if_neg (by rw [yAJ q1, yAJ q2, yAJ q3]; decide)] <;> rfl
 refine yaB (fun q4 => bad (by rw [e0, if_pos (by simp at q4; omega)]) A1.mod) fun q4 => ?_
 rw [if_neg (by simp at q4; omega)] at e0
 refine yaC (fun q5 => bad (by rw [e0, if_pos (by omega)]) A1.mod) fun q5 => ?_
 rw [if_neg (by omega)] at e0
 refine yx5 (fun mm x w' => ∃ k : Nat, x = k ∧ k ≤ b.recs.length ∧ (∀ y ∈ b.recs.take k, ygE y = 0) ∧ Mod [] w w' ∧ mm = b.recs.length - k) b.recs.length ⟨0, rfl, by omega, by simp, A1.mod, rfl⟩ ?_
 rintro mm x w5 ⟨k, rfl, hk, hz, M5, rfl⟩
 refine yaC (fun hlt => ?_) fun hge => ?_
 ·obtain ⟨y, hy⟩ : ∃ y, b.recs[k]? = some y := ⟨_, List.getElem?_eq_getElem (by omega)⟩
  refine (h.keep0 M5).ix hy fun q hq => yaM (by simpa [add_zero] using hq 0 _ rfl) (yaH (hq 1 _ rfl) (yaM (hq 2 _ rfl) (yaH (hq 3 _ rfl) ?_)))
  intro b6 f6 w6 A6
  refine (yeD y w6).mono ?_
  rintro e w7 ⟨rfl, M7⟩
  have N7 := (M5.go0 A6.mod (by simp)).go0 M7 (by simp)
  refine ⟨_, rfl, yaI.of0 M7, yaB (fun q6 => ?_) fun q6 => ?_⟩
  ·have q6 : ygE y ≠ 0 := by simpa using q6
   exact bad (by rw [e0, yyI hy hz q6]) N7
  ·have q6 : ygE y = 0 := by simpa using q6
   refine yx4 (b.recs.length - (k + 1)) (by omega) ⟨k + 1, by rw [yaG (by omega) (by omega)]; omega, by omega, ?_, N7, rfl⟩
   rw [List.take_add_one, hy]
   intro z hz'
   rcases List.mem_append.1 hz' with h | h
   ·exact hz z h
   ·simp at h; subst h; exact q6
 ·have : k = b.recs.length := by omega
  subst this
  rw [List.take_length] at hz
  refine bad ?_ M5
  rw [e0, List.find?_eq_none.2 (by intro y hy; simp [hz y hy])]
structure ChSt (w0 w : World) (bc bo : Nat) (F A : Bool) (E : Int) (cs : List Value) : Prop where
 c : w.heap[bc]? = some (.cells #[.bool F, .bool A, .int .i64 E] 160)
 o : w.heap[bo]? = some (.cells cs.toArray 49)
 m : Mod [bc, bo] w0 w
 ne : bc ≠ bo
theorem ChSt.adv {w0 w w' : World} {bc bo : Nat} {F A : Bool} {E : Int} {cs : List Value} (h : ChSt w0 w bc bo F A E cs) {N : List Nat} (M : Adv [] N w w') : ChSt w0 w' bc bo F A E cs :=
 ⟨M.mod.keep0 h.c, M.mod.keep0 h.o, (h.m.trans M.mod).less (by simp), h.ne⟩
theorem ChSt.m0 {w0 w w' : World} {bc bo : Nat} {F A : Bool} {E : Int} {cs : List Value} (h : ChSt w0 w bc bo F A E cs) (M : Mod [] w w') : ChSt w0 w' bc bo F A E cs :=
 ⟨M.keep0 h.c, M.keep0 h.o, (h.m.trans M).less (by simp), h.ne⟩
theorem ChSt.setC {w0 w w' : World} {bc bo : Nat} {F A F' A' : Bool} {E E' : Int} {cs : List Value} (h : ChSt w0 w bc bo F A E cs) (hc : w'.heap[bc]? = some (.cells #[.bool F', .bool A', .int .i64 E'] 160)) (M : Mod [bc] w w') : ChSt w0 w' bc bo F' A' E' cs :=
 ⟨hc, M.keep h.o (by simpa using h.ne.symm), (h.m.trans M).less (by simp), h.ne⟩
theorem ChSt.setO {w0 w w' : World} {bc bo : Nat} {F A : Bool} {E : Int} {cs cs' : List Value} (h : ChSt w0 w bc bo F A E cs) (ho : w'.heap[bo]? = some (.cells cs'.toArray 49)) (M : Mod [bo] w w') : ChSt w0 w' bc bo F A E cs' :=
 ⟨M.keep h.c (by simpa using h.ne), ho, (h.m.trans M).less (by simp), h.ne⟩
theorem yEI {cs : List Value} {off : Nat} {v : Value} : yb1 cs.toArray off [v] = (cs.set off v).toArray := by simp [yb1]
theorem yk0 {w0 w : World} {bc bo off : Nat} {F A : Bool} {E x : Int} {cs : List Value} {R : World → Prop} (H : ChSt w0 w bc bo F A E cs) (hc : cs[off]? = some (.int .i64 x)) (k : ∀ w', ChSt w0 w' bc bo F (A || !num x) E (cs.set off (.int .i64 0)) → R w') :
  Calls pP 176 #[.pointer (some ⟨bc, 0, none⟩), .pointer (some ⟨bo, off, none⟩)] w fun e w' => e = .returned (.tuple #[]) ∧ R w' := by
 have hlt : off < cs.length := (List.getElem?_eq_some_iff.1 hc).1
 refine yaQ (yGf ?_)
 refine yiK (b := bc) (i := 1) H.c rfl ?_
 refine yaB (fun g => ?_) fun g => ?_
 ·subst g
  refine yc7 (b := bc) (o := 1) H.c rfl (by simp) fun w1 h1 M1 => ?_
  have H1 := H.setC (F' := F) (A' := true) (E' := E) h1 M1
  refine yc7 (b := bo) (o := off) H1.o rfl (by simp; omega) fun w2 h2 M2 => ?_
  exact ⟨rfl, k w2 (H1.setO (by rw [h2, yEI]) M2)⟩
 ·subst g
  refine ye0 (b := bo) (i := off) H.o (by simpa using hc) ?_
  refine (ycI x w).mono ?_
  rintro e w1 ⟨rfl, rfl⟩
  refine ⟨_, rfl, ?_⟩
  refine yc7 (b := bc) (o := 1) H.c rfl (by simp) fun w2 h2 M2 => ?_
  have H2 := H.setC (F' := F) (A' := !num x) (E' := E) h2 M2
  refine yc7 (b := bo) (o := off) H2.o rfl (by simp; omega) fun w3 h3 M3 => ?_
  exact ⟨rfl, k w3 (H2.setO (by rw [h3, yEI]) M3)⟩
theorem yeF {w0 w : World} {bc bo off : Nat} {F A : Bool} {E : Int} {x : ByteArray} {cs : List Value} {R : World → Prop} (H : ChSt w0 w bc bo F A E cs) (hc : cs[off]? = some (.string x)) (k : ∀ w', ChSt w0 w' bc bo (F || !ybU x) A E (cs.set off (.string es)) → R w') :
  Calls pP 174 #[.pointer (some ⟨bc, 0, none⟩), .pointer (some ⟨bo, off, none⟩)] w fun e w' => e = .returned (.tuple #[]) ∧ R w' := by
 have hlt : off < cs.length := (List.getElem?_eq_some_iff.1 hc).1
 refine yaQ (yGg ?_)
 refine yiK (b := bc) (i := 0) H.c rfl ?_
 refine yaB (fun g => ?_) fun g => ?_
 ·subst g
  refine yc7 (b := bc) (o := 0) H.c rfl (by simp) fun w1 h1 M1 => ?_
  have H1 := H.setC (F' := true) (A' := A) (E' := E) h1 M1
  refine yc7 (b := bo) (o := off) H1.o rfl (by simp; omega) fun w2 h2 M2 => ?_
  exact ⟨rfl, k w2 (H1.setO (by rw [h2, yEI]; rfl) M2)⟩
 ·subst g
  refine yAQ (b := bo) (i := off) H.o (by simpa using hc) ?_
  refine (yqB x w).mono ?_
  rintro e w1 ⟨rfl, M1⟩
  have H1 := H.m0 M1
  refine ⟨_, rfl, ?_⟩
  refine yc7 (b := bc) (o := 0) H1.c rfl (by simp) fun w2 h2 M2 => ?_
  have H2 := H1.setC (F' := !ybU x) (A' := A) (E' := E) h2 M2
  refine yc7 (b := bo) (o := off) H2.o rfl (by simp; omega) fun w3 h3 M3 => ?_
  exact ⟨rfl, k w3 (H2.setO (by rw [h3, yEI]; rfl) M3)⟩
theorem yqS {w0 w : World} {bc bo off : Nat} {F A : Bool} {E : Int} {x : Bool} {cs : List Value} {R : World → Prop} (H : ChSt w0 w bc bo F A E cs) (hc : cs[off]? = some (.bool x)) (k : ∀ w', ChSt w0 w' bc bo F A E (cs.set off (.bool false)) → R w') :
  Calls pP 173 #[.pointer (some ⟨bc, 0, none⟩), .pointer (some ⟨bo, off, none⟩)] w fun e w' => e = .returned (.tuple #[]) ∧ R w' := by
 have hlt : off < cs.length := (List.getElem?_eq_some_iff.1 hc).1
 refine yaQ (yGh ?_)
 refine yc7 (b := bo) (o := off) H.o rfl (by simp; omega) fun w2 h2 M2 => ?_
 exact ⟨rfl, k w2 (H.setO (by rw [h2, yEI]) M2)⟩
theorem yo1 {w0 w : World} {bc bo : Nat} {F A : Bool} {E : Int} {b : PBatch} {rs : Sl} {cs : List Value} {R : World → Prop} (H : ChSt w0 w bc bo F A E cs) (h5 : cs[5]? = some (.int .i64 b.prod)) (h6 : cs[6]? = some (.int .i64 b.epoch)) (h7 : cs[7]? = some (.int .i64 b.seq)) (h8 : cs[8]? = some (.slice rs.a rs.n rs.c))
  (hs : ybS w 4 yeR rs.a rs.n b.recs) (hl : b.recs.length ≤ 1000000) (k : ∀ w', ChSt w0 w' bc bo F A (yb0 b) ((((cs.set 5 (.int .i64 0)).set 6 (.int .i64 0)).set 7 (.int .i64 0)).set 8 (.slice none 0 0)) → R w') :
  Calls pP 172 #[.pointer (some ⟨bc, 0, none⟩), .pointer (some ⟨bo, 5, none⟩)] w fun e w' => e = .returned (.tuple #[]) ∧ R w' := by
 have hlt : 8 < cs.length := (List.getElem?_eq_some_iff.1 h8).1
 refine yaQ (yGi ?_)
 refine ye0 (b := bo) (i := 5) H.o (by simpa using h5) (ye0 (b := bo) (i := 6) H.o (by simpa using h6) (ye0 (b := bo) (i := 7) H.o (by simpa using h7) (ycG (b := bo) (i := 8) H.o (by simpa using h8) ?_)))
 refine (yo0 (b := b) (rs := rs) hs hl).mono ?_
 rintro e w1 ⟨rfl, M1⟩
 have H1 := H.m0 M1
 refine ⟨_, rfl, ?_⟩
 refine yc7 (b := bc) (o := 2) H1.c rfl (by simp) fun w2 h2 M2 => ?_
 have H2 := H1.setC (F' := F) (A' := A) (E' := yb0 b) h2 M2
 refine yc7 (b := bo) (o := 5) H2.o rfl (by simp; omega) fun w3 h3 M3 => ?_
 exact ⟨rfl, k w3 (H2.setO (by rw [h3]; simp [yb1]) M3)⟩
theorem yGx (s : ByteArray) (w : World) : Calls pP 178 #[.string s] w fun e w' => e = .returned (.bool (!ybU s)) ∧ Mod [] w w' := by
 refine yaQ (yGm ?_)
 refine (yqB s w).mono ?_
 rintro e w1 ⟨rfl, M1⟩
 exact ⟨_, rfl, rfl, M1⟩
theorem yqT {w : World} {a : Option Addr} {n c : Nat} {l : List ByteArray} (h : ybS w 1 yi6 a n l) (hl : l.length ≤ 1000000) :
  Calls pP 179 #[.slice a n c, .func (.func 178) #[] #[]] w fun e w' => ∃ v, e = .returned v ∧ ∃ x : Int, v = .int .i64 x ∧ (0 ≤ x ↔ l.all ybU = false) ∧ Mod [] w w' := by
 refine yGq ?_
 have hn := h.1
 refine yyH (fun mm x w' => ∃ k : Nat, x = k ∧ k ≤ l.length ∧ (l.take k).all ybU = true ∧ Mod [] w w' ∧ mm = l.length - k) l.length ⟨0, rfl, by omega, by simp, Mod.refl _, rfl⟩ ?_
 rintro mm x w1 ⟨k, rfl, hk, ha, M1, rfl⟩
 refine yaC (fun hlt => ?_) fun hge => ?_
 ·obtain ⟨y, hy⟩ : ∃ y, l[k]? = some y := ⟨_, List.getElem?_eq_getElem (by omega)⟩
  refine (h.keep0 M1).ix hy fun q hq => yaH (by simpa [add_zero] using hq 0 _ rfl) ?_
  refine (yGx y w1).mono ?_
  rintro e w2 ⟨rfl, M2⟩
  have N2 := M1.go0 M2 (by simp)
  refine ⟨_, rfl, yaB (fun g => ?_) fun g => ?_⟩
  ·refine ⟨_, rfl, ⟨fun _ => ?_, fun _ => by omega⟩, N2⟩
   rw [List.all_eq_false]
   exact ⟨y, List.mem_of_getElem? hy, by simpa using g⟩
  ·refine yyG (l.length - (k + 1)) (by omega) ⟨k + 1, by rw [yaG (by omega) (by omega)]; omega, by omega, ?_, N2, rfl⟩
   rw [yb5 hy, ha]; simpa using g
 ·have : k = l.length := by omega
  subst this
  rw [List.take_length] at ha
  exact ⟨_, rfl, ⟨fun h => by omega, fun h => by rw [ha] at h; cases h⟩, M1⟩
theorem yj5 {w : World} {a : Option Addr} {n c : Nat} {l : List ByteArray} (h : ybS w 1 yi6 a n l) (hl : l.length ≤ 1000000) :
  Calls pP 177 #[.slice a n c, .func (.func 178) #[] #[]] w fun e w' => e = .returned (.bool (!l.all ybU)) ∧ Mod [] w w' := by
 refine yaQ (yGn ?_)
 refine (yqT h hl).mono ?_
 rintro e w1 ⟨_, rfl, x, rfl, hx, M1⟩
 refine ⟨_, rfl, congrArg Value.bool ?_, M1⟩
 cases ha : l.all ybU
 ·exact decide_eq_true (hx.2 ha)
 ·exact decide_eq_false fun h => by have := hx.1 h; rw [ha] at this; cases this
theorem yk1 : ∀ (l : List ByteArray) (x y : ByteArray), yhV (l ++ [x, y]) = (yhV (l ++ [x]) && yDw x y)
 | [], x, y => by simp [yhV]
 | [a], x, y => by simp [yhV, Bool.and_assoc]
 | a :: b :: r, x, y => by
  have := yk1 (b :: r) x y
  simp only [List.cons_append] at this ⊢
  rw [yhV, yhV, this, Bool.and_assoc]
theorem yo2 {l : List ByteArray} {k : Nat} {x y : ByteArray} (hx : l[k]? = some x) (hy : l[k + 1]? = some y) : yhV (l.take (k + 2)) = (yhV (l.take (k + 1)) && yDw x y) := by
 have e1 : l.take (k + 1) = l.take k ++ [x] := by rw [List.take_add_one, hx]; rfl
 have e2 : l.take (k + 2) = l.take k ++ [x, y] := by rw [List.take_add_one, hy, e1]; simp
 rw [e1, e2, yk1]
theorem yo3 {w0 w : World} {bc bo : Nat} {F A : Bool} {E : Int} {l : List ByteArray} {ts : Sl} {cs : List Value} {R : World → Prop} (H : ChSt w0 w bc bo F A E cs) (hc : cs[13]? = some (.slice ts.a ts.n ts.c))
  (hs : ybS w 1 yi6 ts.a ts.n l) (hl : l.length ≤ 1000000) (k : ∀ w', ChSt w0 w' bc bo (F || !ydZ l) A E (cs.set 13 (.slice none 0 0)) → R w') :
  Calls pP 175 #[.pointer (some ⟨bc, 0, none⟩), .pointer (some ⟨bo, 13, none⟩)] w fun e w' => e = .returned (.tuple #[]) ∧ R w' := by
 have hlt : 13 < cs.length := (List.getElem?_eq_some_iff.1 hc).1
 have hn := hs.1
 refine yaQ (yGl ?_)
 refine yyF (fun mm t x w' => ∃ j : Nat, x = ((j + 1 : Nat) : Int) ∧ j ≤ l.length ∧ t = yhV (l.take (j + 1)) ∧ Mod [] w w' ∧ mm = l.length - j) l.length ⟨0, rfl, by omega, ?_, Mod.refl _, rfl⟩ ?_
 ·cases l <;> simp [yhV]
 rintro mm t x w1 ⟨j, rfl, hj, rfl, M1, rfl⟩
 have H1 := H.m0 M1
 have hcell : cs.toArray[13]? = some (.slice ts.a ts.n ts.c) := by simpa using hc
 refine ycG (b := bo) (i := 13) H1.o hcell ?_
 refine yaC (fun hlt2 => ?_) fun hge => ?_
 ·have g1 : j + 1 < l.length := by omega
  obtain ⟨x, hx⟩ : ∃ x, l[j]? = some x := ⟨_, List.getElem?_eq_getElem (by omega)⟩
  obtain ⟨y, hy⟩ : ∃ y, l[j + 1]? = some y := ⟨_, List.getElem?_eq_getElem g1⟩
  have ew : IntKind.wrap .i64 (((j + 1 : Nat) : Int) + 1) = ((j + 1 + 1 : Nat) : Int) := by rw [yaG (by omega) (by omega)]; omega
  have em : IntKind.wrap .i64 (((j + 1 : Nat) : Int) - 1) = (j : Int) := by rw [yaG (by omega) (by omega)]; omega
  refine yaB (fun g => ?_) fun g => ?_
  ·refine ycG (b := bo) (i := 13) H1.o hcell ?_
   rw [em]
   refine (hs.keep0 M1).ix hx fun q hq => yaH (x := x) (by simpa [add_zero] using hq 0 _ rfl) ?_
   refine ycG (b := bo) (i := 13) H1.o hcell ?_
   refine (hs.keep0 M1).ix hy fun q hq => yaH (x := y) (by simpa [add_zero] using hq 0 _ rfl) ?_
   intro w2 A2
   refine yoY (l.length - (j + 1)) (by omega) ⟨j + 1, ew, by omega, ?_, M1.go0 A2.mod (by simp), rfl⟩
   rw [yo2 hx hy, g]; rfl
  ·intro w2 A2
   refine yoY (l.length - (j + 1)) (by omega) ⟨j + 1, ew, by omega, ?_, M1.go0 A2.mod (by simp), rfl⟩
   rw [yo2 hx hy, g]; rfl
 ·rw [List.take_of_length_le (by omega)]
  refine ycG (b := bo) (i := 13) H1.o hcell ?_
  refine (yj5 (hs.keep0 M1) hl).mono ?_
  rintro e w2 ⟨rfl, M2⟩
  have H2 := H1.m0 M2
  refine ⟨_, rfl, ?_⟩
  have fin : ∀ {f : Bool}, (F || !ydZ l) = f → st w2 ⟨bc, 0, none⟩ [.bool f] fun w3 => st w3 ⟨bo, 13, none⟩ [.slice none 0 0] fun w4 => (Value.tuple #[] = Value.tuple #[] ∧ R w4) := fun {f} hf => by
   refine yc7 (b := bc) (o := 0) H2.c rfl (by simp) fun w3 h3 M3 => ?_
   have H3 := H2.setC (F' := f) (A' := A) (E' := E) h3 M3
   refine yc7 (b := bo) (o := 13) H3.o rfl (by simp; omega) fun w4 h4 M4 => ?_
   refine ⟨rfl, k w4 ?_⟩
   rw [hf]
   exact H3.setO (by rw [h4, yEI]) M4
  refine yiK (b := bc) (i := 0) H2.c rfl ?_
  refine yaB (fun g => fin (by rw [g]; rfl)) fun g => ?_
  subst g
  refine ycG (b := bo) (i := 13) H2.o hcell ?_
  refine yaB (fun g => fin ?_) fun g => ?_
  ·have : l.length = 0 := by simp at g; omega
   simp [ydZ, this]
  refine ycG (b := bo) (i := 13) H2.o hcell ?_
  refine yaC (fun g2 => fin ?_) fun g2 => ?_
  ·have : ¬ (l.length ≤ 8) := by omega
   simp [ydZ, this]
  have hl8 : decide (1 ≤ l.length ∧ l.length ≤ 8) = true := decide_eq_true (by simp at g; omega)
  refine yaB (fun g3 => fin ?_) fun g3 => fin ?_
  ·rw [ydZ, yB7 g3]; simp
  ·rw [ydZ, yAJ g3, hl8]; simp
theorem yqU {w0 w : World} {bc bo : Nat} {F A : Bool} {E x : Int} {t : ByteArray} {cs : List Value} {R : World → Prop} (H : ChSt w0 w bc bo F A E cs) (h1 : cs[1]? = some (.string t)) (h2 : cs[2]? = some (.int .i64 x)) (k : ∀ w', ChSt w0 w' bc bo (F || !ybU t) (A || !num x) E ((cs.set 1 (.string es)).set 2 (.int .i64 0)) → R w') :
  Calls pP 60 #[.iface 158 (.pointer (some ⟨bc, 0, none⟩)), .pointer (some ⟨bo, 1, none⟩)] w fun e w' => e = .returned (.tuple #[]) ∧ R w' := by
 refine yaQ (yGr ?_)
 intro w1 A1
 refine yeF (off := 1) (H.adv A1) h1 fun w2 H => ?_
 intro w3 A3
 refine yk0 (off := 2) (x := x) (H.adv A3) (by rw [List.getElem?_set_ne (by decide)]; exact h2) fun w4 H => ?_
 exact ⟨rfl, k w4 H⟩
theorem ymJ {w0 w : World} {bc bo : Nat} {F A : Bool} {E : Int} {g m : ByteArray} {cs : List Value} {R : World → Prop} (H : ChSt w0 w bc bo F A E cs) (h1 : cs[9]? = some (.string g)) (h2 : cs[10]? = some (.string m)) (k : ∀ w', ChSt w0 w' bc bo ((F || !ybU g) || !ybU m) A E ((cs.set 9 (.string es)).set 10 (.string es)) → R w') :
  Calls pP 118 #[.iface 158 (.pointer (some ⟨bc, 0, none⟩)), .pointer (some ⟨bo, 0, none⟩)] w fun e w' => e = .returned (.tuple #[]) ∧ R w' := by
 refine yaQ (yGs ?_)
 intro w1 A1
 refine yeF (off := 9) (H.adv A1) h1 fun w2 H => ?_
 intro w3 A3
 refine yeF (off := 10) (x := m) (H.adv A3) (by rw [List.getElem?_set_ne (by decide)]; exact h2) fun w4 H => ?_
 exact ⟨rfl, k w4 H⟩
def ybL : Sl := ⟨none, 0, 0⟩
def chR (o : POp) (rs : Sl) : Sl := if ha o.kind 98 then ybL else rs
def chT (o : POp) (ts : Sl) : Sl := if ha o.kind 114 then ybL else ts
set_option maxHeartbeats 2000000 in
theorem yo4 {w0 w : World} {bc bo : Nat} {o : POp} {rs ts : Sl} {R : World → Prop} (H : ChSt w0 w bc bo false false 0 (o.cs rs ts)) (h0 : ¬ (o.kind < 0 ∨ o.kind > 12))
  (hop : ∀ w', Mod [bc, bo] w0 w' → OpAt w' o rs ts) (k : ∀ w', ChSt w0 w' bc bo (chF o) (chA o) (chE o) ((chO o).cs (chR o rs) (chT o ts)) → R w') :
  Calls pP 93 #[.iface 158 (.pointer (some ⟨bc, 0, none⟩)), .pointer (some ⟨bo, 0, none⟩)] w fun e w' => e = .returned (.tuple #[]) ∧ R w' := by
 refine yaQ (yGt ?_)
 obtain ⟨kd, pt, n, off, b, g, m, gen, robin, topics⟩ := o
 obtain ⟨b1, b2, b3, b4⟩ := b
 simp only at h0
 refine ye0 (b := bo) (i := 0) H.o rfl ?_
 have hk : kd = 0 ∨ kd = 1 ∨ kd = 2 ∨ kd = 3 ∨ kd = 4 ∨ kd = 5 ∨ kd = 6 ∨ kd = 7 ∨ kd = 8 ∨ kd = 9 ∨ kd = 10 ∨ kd = 11 ∨ kd = 12 := by omega
 rcases hk with rfl | rfl | rfl | rfl | rfl | rfl | rfl | rfl | rfl | rfl | rfl | rfl | rfl
 all_goals
  repeat (first
   | refine brT rfl ?_
   | refine brF rfl ?_
   | (intro w' A'; have H := H.adv A'; clear A')
   | refine yk0 H rfl fun w' H => ?_
   | refine yeF H rfl fun w' H => ?_
   | refine yqS H rfl fun w' H => ?_
   | refine yqU H rfl rfl fun w' H => ?_
   | refine ymJ H rfl rfl fun w' H => ?_
   | refine yo1 (b := ⟨b1, b2, b3, b4⟩) (rs := rs) H rfl rfl rfl rfl (hop _ H.m).recs (hop _ H.m).lr fun w' H => ?_
   | refine yo3 (ts := ts) H rfl (hop _ H.m).topics (hop _ H.m).lt fun w' H => ?_)
  refine ⟨rfl, k _ ?_⟩
  simpa [chF, chA, chE, chO, chR, chT, ha, yIn, POp.cs, ybL, ybK, Bool.or_comm, Bool.or_left_comm, Bool.or_assoc] using H
theorem ysK {w : World} {o : POp} {rs ts : Sl} (h : OpAt w o rs ts) :
  Calls pP 92 #[o.v rs ts] w fun e w' => e = .returned (.int .i64 (opE o)) ∧ Mod [] w w' := by
 refine yaQ (yGu ?_)
 intro b1 f1
 refine yaC (fun q1 => ?_) fun q1 => ?_
 ·intro w1 A1
  exact ⟨by rw [opE, if_pos (.inl q1)], A1.mod⟩
 refine yaC (fun q2 => ?_) fun q2 => ?_
 ·intro w1 A1
  exact ⟨by rw [opE, if_pos (.inr (by omega))], A1.mod⟩
 have h0 : ¬ (o.kind < 0 ∨ o.kind > 12) := by omega
 intro b4 f4 w5 A5 c1 c4
 have hne : b4 ≠ b1 := by
  rintro rfl
  rw [c1] at c4; cases c4
 have l1 := A5.lt b1 (by simp)
 have l4 := A5.lt b4 (by simp)
 have hop : ∀ w', Mod [b4, b1] w5 w' → OpAt w' o rs ts := fun w' M => h.keep0 (A5.mod.go0 M (by simp; omega))
 refine yo4 (o := o) (rs := rs) (ts := ts) ⟨c4, c1, (Mod.refl _).less (by simp), hne⟩ h0 hop fun w6 H => ?_
 have M6 : Mod [] w w6 := A5.mod.go0 H.m (by simp; omega)
 refine ⟨_, _, _, _, _, _, _, _, _, _, _, _, _, _, _, _, _, _, H.o, _, _, _, H.c, ?_⟩
 have law := yx3 o h0
 refine yaB (fun q3 => ?_) fun q3 => ?_
 ·intro w7 A7 _ _
  exact ⟨by rw [law, q3]; rfl, M6.go0 A7.mod (by simpa using f1)⟩
 intro w7 A7 d1 d4
 have M7 : Mod [] w w7 := M6.go0 A7.mod (by simpa using f1)
 have hop7 := h.keep0 M7
 have hA : OpAt w7 { chO o with kind := 0 } (chR o rs) (chT o ts) := by
  refine ⟨?_, ?_, ?_, ?_⟩
  ·unfold chR chO; simp only; split
   ·exact ⟨rfl, fun i x hx => by simp [ybK] at hx⟩
   ·exact hop7.recs
  ·unfold chT chO; simp only; split
   ·exact ⟨rfl, fun i x hx => by simp at hx⟩
   ·exact hop7.topics
  ·unfold chO; simp only; split
   ·simp [ybK]
   ·exact hop7.lr
  ·unfold chO; simp only; split
   ·simp
   ·exact hop7.lt
 have h00 : OpAt w7 op0 ybL ybL := (yqK w7 0).at
 refine (yoZ (x := { chO o with kind := 0 }) (y := op0) hA h00).mono ?_
 rintro e w8 ⟨rfl, M8⟩
 have c8 := M8.keep0 d1
 have e8 := M8.keep0 d4
 refine ⟨_, rfl, _, _, _, _, _, _, _, _, _, _, _, _, _, _, _, _, _, _, c8, _, _, _, e8, ?_⟩
 have M9 := M7.go0 M8 (by simp)
 refine yaB (fun q4 => ?_) fun q4 => ?_
 ·exact ⟨by rw [law, q3, q4]; rfl, M9⟩
 refine yaB (fun q5 => ?_) fun q5 => ?_
 ·exact ⟨by rw [law, q3, q4, q5]; rfl, M9⟩
 ·exact ⟨by rw [law, q3, q4, q5]; rfl, M9⟩
end Go.Proofs.YtkbcmppbjfpjmaaGreat
