/- Replies as data. -/
import Derived.Test.YtohgihgddknmmaaWd2
namespace Go.Proofs.Ytohgihgddknmmaa
open Go Go.RowKit
set_option linter.unusedVariables false
set_option linter.unusedSimpArgs false

structure PRec where
  hk : Bool
  key : ByteArray
  tomb : Bool
  val : ByteArray
  deriving DecidableEq
structure PFound where
  off : Int
  r : PRec
  deriving DecidableEq
structure PPart where
  t : ByteArray
  n : Int
  deriving DecidableEq
structure PRep where
  e : Int
  off : Int
  n : Int
  gen : Int
  found : List PFound
  parts : List PPart
  deriving DecidableEq
/-- A slice's value. -/
structure Sl where
  a : Option Addr
  n : Nat
  c : Nat
def Sl.v (s : Sl) : Value := .slice s.a s.n s.c
def PRec.v (r : PRec) : Value := .agg #[.bool r.hk, .string r.key, .bool r.tomb, .string r.val]
def PFound.v (x : PFound) : Value := .agg #[.int .i64 x.off, .bool x.r.hk, .string x.r.key, .bool x.r.tomb, .string x.r.val]
def PPart.v (x : PPart) : Value := .agg #[.string x.t, .int .i64 x.n]
def encF (x : PFound) : List Value := [.int .i64 x.off, .bool x.r.hk, .string x.r.key, .bool x.r.tomb, .string x.r.val]
def encP (x : PPart) : List Value := [.string x.t, .int .i64 x.n]
theorem encF_len (x : PFound) : (encF x).length = 5 := rfl
theorem encP_len (x : PPart) : (encP x).length = 2 := rfl
/-- A reply's cells, its slices by where they lie. -/
def PRep.cs (r : PRep) (f p : Sl) : List Value := [.int .i64 r.e, .int .i64 r.off, .int .i64 r.n, .int .i64 r.gen, .slice f.a f.n f.c, .slice p.a p.n p.c]
def PRep.v (r : PRep) (f p : Sl) : Value := .agg #[.int .i64 r.e, .int .i64 r.off, .int .i64 r.n, .int .i64 r.gen, .slice f.a f.n f.c, .slice p.a p.n p.c]
/-- What its slices read as. -/
structure RepAt (w : World) (r : PRep) (f p : Sl) : Prop where
  found : SlAt w 5 encF f.a f.n r.found
  parts : SlAt w 2 encP p.a p.n r.parts
  lf : r.found.length ≤ 1000000
  lp : r.parts.length ≤ 1000000
/-- .. in memory of one's own. -/
structure RepOwn (w : World) (base : Nat) (r : PRep) (f p : Sl) : Prop where
  found : Row w base 111 5 encF f.a f.n f.c r.found
  parts : Row w base 29 2 encP p.a p.n p.c r.parts
  lf : r.found.length ≤ 1000000
  lp : r.parts.length ≤ 1000000
theorem RepOwn.at {w : World} {base : Nat} {r : PRep} {f p : Sl} (h : RepOwn w base r f p) : RepAt w r f p := ⟨h.found.sl encF_len, h.parts.sl encP_len, h.lf, h.lp⟩
theorem RepAt.keep0 {w w' : World} {r : PRep} {f p : Sl} (h : RepAt w r f p) (M : Mod [] w w') : RepAt w' r f p := ⟨h.found.keep0 M, h.parts.keep0 M, h.lf, h.lp⟩
/-- .. of any length. -/
structure RepAtW (w : World) (r : PRep) (f p : Sl) : Prop where
  found : SlAt w 5 encF f.a f.n r.found
  parts : SlAt w 2 encP p.a p.n r.parts
  lf : r.found.length ≤ 9223372036854775807
  lp : r.parts.length ≤ 9223372036854775807
theorem RepAtW.keep0 {w w' : World} {r : PRep} {f p : Sl} (h : RepAtW w r f p) (M : Mod [] w w') : RepAtW w' r f p := ⟨h.found.keep0 M, h.parts.keep0 M, h.lf, h.lp⟩
theorem RepAt.wide {w : World} {r : PRep} {f p : Sl} (h : RepAt w r f p) : RepAtW w r f p := ⟨h.found, h.parts, by have := h.lf; omega, by have := h.lp; omega⟩
theorem RepOwn.keep0 {w w' : World} {base : Nat} {r : PRep} {f p : Sl} (h : RepOwn w base r f p) (M : Mod [] w w') : RepOwn w' base r f p := ⟨h.found.keep0 M, h.parts.keep0 M, h.lf, h.lp⟩
theorem RepOwn.rebase {w : World} {base base' : Nat} {r : PRep} {f p : Sl} (h : RepOwn w base r f p) (hb : base' ≤ base) : RepOwn w base' r f p := ⟨h.found.rebase hb, h.parts.rebase hb, h.lf, h.lp⟩

theorem neF (x y : PFound) (o1 o2 : Operand) (w : World) : Sem.run Try.prog (do eqGuard .neq 111 o1 o2 x.v y.v; Go.binOp .neq 111 x.v y.v) w = .ok (.bool (decide (x ≠ y))) w := by
  obtain ⟨a, b, c, d, e⟩ := x
  obtain ⟨a', b', c', d', e'⟩ := y
  simp [go_sem, Sem.run_bind, PFound.v]
  by_cases h1 : a = a' <;> by_cases h2 : b = b' <;> by_cases h3 : c = c' <;> by_cases h4 : d = d' <;> by_cases h5 : e = e' <;> simp [h1, h2, h3, h4, h5, toList_inj]
theorem neP (x y : PPart) (o1 o2 : Operand) (w : World) : Sem.run Try.prog (do eqGuard .neq 29 o1 o2 x.v y.v; Go.binOp .neq 29 x.v y.v) w = .ok (.bool (decide (x ≠ y))) w := by
  obtain ⟨a, b⟩ := x
  obtain ⟨a', b'⟩ := y
  simp [go_sem, Sem.run_bind, PPart.v]
  by_cases h1 : a = a' <;> by_cases h2 : b = b' <;> simp [h1, h2, toList_inj]
end Go.Proofs.Ytohgihgddknmmaa
