/- A function from the code of the model to a condition ('den'), and that the condition suffices: what is then to be shown of a Go function is a plain Prop, which the kernel computes out of the function's code. -/
import Derived.Test.YtohgihgddknmmaaRows
import Derived.WalkKit
import Derived.WalkSpells
import Derived.WalkLawsBesides
import Derived.Deep.Quiet
namespace Go.Proofs.Ytohgihgddknmmaa
open Go Go.RowKit
set_option linter.unusedVariables false
set_option linter.unusedSimpArgs false

/-! ### worlds -/

/-- w' is w with new blocks, and with other contents in the blocks S alone. -/
structure Mod (S : List Nat) (w w' : World) : Prop where
  os : w'.os = w.os
  tape : w'.tape = w.tape
  output : w'.output = w.output
  size : w.heap.size ≤ w'.heap.size
  block : ∀ k, k < w.heap.size → k ∉ S → w'.heap[k]? = w.heap[k]?

theorem Mod.refl (w : World) : Mod [] w w := ⟨rfl, rfl, rfl, Nat.le_refl _, fun _ _ _ => rfl⟩
theorem Mod.trans {S T : List Nat} {a b c : World} (h : Mod S a b) (k : Mod T b c) : Mod (S ++ T) a c :=
  ⟨k.os.trans h.os, k.tape.trans h.tape, k.output.trans h.output, Nat.le_trans h.size k.size, fun i hi hS => by
    simp only [List.mem_append, not_or] at hS
    exact (k.block i (Nat.lt_of_lt_of_le hi h.size) hS.2).trans (h.block i hi hS.1)⟩
/-- Only such blocks count as were there. -/
theorem Mod.less {S T : List Nat} {w w' : World} (h : Mod S w w') (hs : ∀ k, k ∈ S → k < w.heap.size → k ∈ T) : Mod T w w' :=
  ⟨h.os, h.tape, h.output, h.size, fun k hk hT => h.block k hk (fun hS => hT (hs k hS hk))⟩
theorem Mod.keep {S : List Nat} {w w' : World} (h : Mod S w w') {b : Nat} {o : Obj} (hb : w.heap[b]? = some o) (hS : b ∉ S) : w'.heap[b]? = some o :=
  (h.block b (Array.getElem?_eq_some_iff.1 hb).1 hS).trans hb
theorem Mod.keep0 {w w' : World} (h : Mod [] w w') {b : Nat} {o : Obj} (hb : w.heap[b]? = some o) : w'.heap[b]? = some o := h.keep hb (by simp)
theorem Mod.below {S : List Nat} {w w' : World} (h : Mod S w w') (hs : ∀ k, k ∈ S → w.heap.size ≤ k) : Below w.heap.size w w' :=
  ⟨h.os, h.tape, h.output, h.size, fun k hk => h.block k hk (fun hS => by have := hs k hS; omega)⟩
theorem Mod.of_below {w w' : World} (h : Below w.heap.size w w') : Mod [] w w' := ⟨h.os, h.tape, h.output, h.size, fun k hk _ => h.block k hk⟩
theorem Mod.drewN (w : World) (n : Nat) : Mod [] w (w.drewN n) := ⟨rfl, rfl, rfl, Nat.le_refl _, fun _ _ _ => rfl⟩

theorem lt_of_block {w : World} {b : Nat} {o : Obj} (h : w.heap[b]? = some o) : b < w.heap.size := (Array.getElem?_eq_some_iff.1 h).1
theorem Mod.cell {S : List Nat} {w w' : World} (h : Mod S w w') {a : Addr} (hb : a.block < w.heap.size) (hS : a.block ∉ S) : w'.cell? a = w.cell? a :=
  World.cell?_of_block (w := w) (h.block a.block hb hS)
theorem block_of_cell {w : World} {a : Addr} {v : Value} (h : w.cell? a = some v) : a.block < w.heap.size := by
  unfold World.cell? at h
  split at h
  · rename_i hb; exact lt_of_block hb
  · cases h
theorem Mod.cell0 {w w' : World} (h : Mod [] w w') {a : Addr} {v : Value} (hc : w.cell? a = some v) : w'.cell? a = some v :=
  (h.cell (block_of_cell hc) (by simp)).trans hc

/-! ### frames, operands -/
abbrev Fr := List Value
def ev (fr : Fr) : Operand → Value
  | .tmp t => fr.getD t undef
  | .const v => v
  | .global g => .pointer (some ⟨g, 0, none⟩)
  | .func f => .func (.func f) #[] #[]
def pt (fr : Fr) : Option Tmp → Value → Fr
  | none, _ => fr
  | some d, v => fr.set d v
def act (fr : Fr) : Act := { tmps := ⟨fr⟩, defers := [] }
theorem eval_act (fr : Fr) : (act fr).eval = ev fr := by
  funext x
  cases x <;> simp [act, Act.eval, ev]
theorem put_act (fr : Fr) (d : Option Tmp) (v : Value) : (act fr).put d v = act (pt fr d v) := by
  cases d with
  | none => rfl
  | some d =>
    show (⟨(Array.mk fr).setIfInBounds d v, []⟩ : Act) = ⟨⟨fr.set d v⟩, []⟩
    congr 1
    apply Array.ext'
    simp

/-- What needs no world. -/
def pureRun {α : Type} (P : Program) : Sem α → Option α
  | .pure a => some a
  | .program k => pureRun P (k P)
  | .mark _ k => pureRun P k
  | _ => none
theorem run_of_pureRun {α : Type} {P : Program} : ∀ {s : Sem α} {a : α}, pureRun P s = some a → ∀ w, s.run P w = .ok a w
  | .pure _, _, h, w => by simp [pureRun] at h; subst h; rfl
  | .program k, _, h, w => by simp only [pureRun] at h; simp only [Sem.run]; exact run_of_pureRun h w
  | .mark _ k, _, h, w => by simp only [pureRun] at h; simp only [Sem.run]; exact run_of_pureRun h w
  | .load .., _, h, _ => by cases h
  | .store .., _, h, _ => by cases h
  | .new .., _, h, _ => by cases h
  | .shape .., _, h, _ => by cases h
  | .freeze .., _, h, _ => by cases h
  | .frozen .., _, h, _ => by cases h
  | .getObj .., _, h, _ => by cases h
  | .setObj .., _, h, _ => by cases h
  | .choose .., _, h, _ => by cases h
  | .sys .., _, h, _ => by cases h
  | .halt .., _, h, _ => by cases h

/-! ### values of a type, by variables -/
inductive Leaf where
  | int (k : IntKind)
  | bool
  | string
  | ptr
  | slice
  | map
  | any

def leaves (P : Program) : Nat → TypeId → List Leaf
  | 0, _ => []
  | n + 1, t => match P.underlying t with
    | some (.int k) => [.int k]
    | some .bool => [.bool]
    | some .string => [.string]
    | some (.pointer _) => [.ptr]
    | some (.slice _) => [.slice]
    | some (.map _ _) => [.map]
    | some (.struct fs) => fs.toList.flatMap fun f => leaves P n f.type
    | some (.array l e) => (List.replicate l (leaves P n e)).flatten
    | _ => [.any]
def isAggB (P : Program) (t : TypeId) : Bool := match P.underlying t with
  | some (.struct _) | some (.array _ _) => true
  | _ => false
def exLs : List Leaf → (List Value → Prop) → Prop
  | [], F => F []
  | .int k :: r, F => ∃ x : Int, exLs r fun vs => F (.int k x :: vs)
  | .bool :: r, F => ∃ x : Bool, exLs r fun vs => F (.bool x :: vs)
  | .string :: r, F => ∃ x : ByteArray, exLs r fun vs => F (.string x :: vs)
  | .ptr :: r, F => ∃ x : Option Addr, exLs r fun vs => F (.pointer x :: vs)
  | .map :: r, F => ∃ x : Option Nat, exLs r fun vs => F (.map x :: vs)
  | .slice :: r, F => ∃ (x : Option Addr) (n c : Nat), exLs r fun vs => F (.slice x n c :: vs)
  | .any :: r, F => ∃ x : Value, exLs r fun vs => F (x :: vs)
theorem exLs_out {F : List Value → Prop} : ∀ {ls : List Leaf}, exLs ls F → ∃ vs, F vs
  | [], h => ⟨_, h⟩
  | .int k :: r, ⟨_, h⟩ => let ⟨vs, h⟩ := exLs_out h; ⟨_, h⟩
  | .bool :: r, ⟨_, h⟩ => let ⟨vs, h⟩ := exLs_out h; ⟨_, h⟩
  | .string :: r, ⟨_, h⟩ => let ⟨vs, h⟩ := exLs_out h; ⟨_, h⟩
  | .ptr :: r, ⟨_, h⟩ => let ⟨vs, h⟩ := exLs_out h; ⟨_, h⟩
  | .map :: r, ⟨_, h⟩ => let ⟨vs, h⟩ := exLs_out h; ⟨_, h⟩
  | .slice :: r, ⟨_, _, _, h⟩ => let ⟨vs, h⟩ := exLs_out h; ⟨_, h⟩
  | .any :: r, ⟨_, h⟩ => let ⟨vs, h⟩ := exLs_out h; ⟨_, h⟩
def exT (P : Program) (t : TypeId) (F : Value → Prop) : Prop :=
  exLs (leaves P 20 t) fun vs => match isAggB P t, vs with
    | true, vs => F (.agg ⟨vs⟩)
    | false, [v] => F v
    | _, _ => False
theorem exT_out {P : Program} {t : TypeId} {F : Value → Prop} (h : exT P t F) : ∃ v, F v := by
  obtain ⟨vs, h⟩ := exLs_out h
  split at h
  · exact ⟨_, h⟩
  · exact ⟨_, h⟩
  · exact h.elim
def exTs (P : Program) : List TypeId → (List Value → Prop) → Prop
  | [], F => F []
  | t :: r, F => exT P t fun v => exTs P r fun vs => F (v :: vs)
theorem exTs_out {P : Program} : ∀ {ts : List TypeId} {F : List Value → Prop}, exTs P ts F → ∃ vs, F vs
  | [], _, h => ⟨_, h⟩
  | t :: r, _, h => let ⟨_, h⟩ := exT_out h; let ⟨_, h⟩ := exTs_out h; ⟨_, h⟩
def exRes (P : Program) (ts : List TypeId) (F : Value → Prop) : Prop := exTs P ts fun vs => match vs with
  | [v] => F v
  | vs => F (.tuple ⟨vs⟩)
theorem exRes_out {P : Program} {ts : List TypeId} {F : Value → Prop} (h : exRes P ts F) : ∃ v, F v := by
  obtain ⟨vs, h⟩ := exTs_out h
  split at h <;> exact ⟨_, h⟩
def resTypes (P : Program) (f : FuncId) : List TypeId := match P.funcs[f]? with
  | some fn => fn.resultTypes.toList
  | none => []

/-! ### the words of a condition -/
def brB (t : Bool) (A B : Prop) : Prop := match t with
  | true => A
  | false => B
theorem brB_true {A B : Prop} : brB true A B = A := rfl
theorem brB_false {A B : Prop} : brB false A B = B := rfl
theorem brB_of {t : Bool} {A B : Prop} (h1 : t = true → A) (h2 : t = false → B) : brB t A B := by
  cases t
  · exact h2 rfl
  · exact h1 rfl
theorem brB_dec {p : Prop} [Decidable p] {A B : Prop} (h1 : p → A) (h2 : ¬ p → B) : brB (decide p) A B := by
  by_cases h : p
  · simpa [brB, h] using h1 h
  · simpa [brB, h] using h2 h

def call (P : Program) (f : FuncId) (args : Array Value) (w : World) (K : Value → World → Prop) : Prop :=
  Calls P f args w fun e w' => exRes P (resTypes P f) fun v => e = .returned v ∧ K v w'
/-- .. in a region whose order is open: one value, in every world that is w with new blocks. -/
def callQ (P : Program) (f : FuncId) (args : Array Value) (w : World) (K : Value → Prop) : Prop :=
  exRes P (resTypes P f) fun v => (∀ w', Mod [] w w' → Calls P f args w' fun e w'' => e = .returned v ∧ Mod [] w' w'') ∧ K v

def ldInt (k : IntKind) (w : World) (a : Addr) (F : Int → Prop) : Prop := match w.cell? a with
  | some (.int k' x) => k' = k ∧ F x
  | _ => False
def ldBool (w : World) (a : Addr) (F : Bool → Prop) : Prop := match w.cell? a with
  | some (.bool x) => F x
  | _ => False
def ldStr (w : World) (a : Addr) (F : ByteArray → Prop) : Prop := match w.cell? a with
  | some (.string x) => F x
  | _ => False
def ldPtr (w : World) (a : Addr) (F : Option Addr → Prop) : Prop := match w.cell? a with
  | some (.pointer x) => F x
  | _ => False
def ldMap (w : World) (a : Addr) (F : Option Nat → Prop) : Prop := match w.cell? a with
  | some (.map x) => F x
  | _ => False
def ldSlice (w : World) (a : Addr) (F : Option Addr → Nat → Nat → Prop) : Prop := match w.cell? a with
  | some (.slice x n c) => F x n c
  | _ => False
def ldAny (w : World) (a : Addr) (F : Value → Prop) : Prop := match w.cell? a with
  | some v => F v
  | _ => False
def ldL (w : World) (a : Addr) : Nat → List Leaf → (List Value → Prop) → Prop
  | _, [], F => F []
  | i, .int k :: r, F => ldInt k w (a.add i) fun x => ldL w a (i + 1) r fun vs => F (.int k x :: vs)
  | i, .bool :: r, F => ldBool w (a.add i) fun x => ldL w a (i + 1) r fun vs => F (.bool x :: vs)
  | i, .string :: r, F => ldStr w (a.add i) fun x => ldL w a (i + 1) r fun vs => F (.string x :: vs)
  | i, .ptr :: r, F => ldPtr w (a.add i) fun x => ldL w a (i + 1) r fun vs => F (.pointer x :: vs)
  | i, .map :: r, F => ldMap w (a.add i) fun x => ldL w a (i + 1) r fun vs => F (.map x :: vs)
  | i, .slice :: r, F => ldSlice w (a.add i) fun x n c => ldL w a (i + 1) r fun vs => F (.slice x n c :: vs)
  | i, .any :: r, F => ldAny w (a.add i) fun x => ldL w a (i + 1) r fun vs => F (x :: vs)

theorem ldL_out {w : World} {a : Addr} : ∀ {ls : List Leaf} {i : Nat} {F : List Value → Prop}, ldL w a i ls F → ∃ vs, F vs ∧ vs.length = ls.length ∧ ∀ j v, vs[j]? = some v → w.cell? (a.add (i + j)) = some v
  | [], _, _, h => ⟨[], h, rfl, by simp⟩
  | l :: r, i, F, h => by
    have key : ∀ v, w.cell? (a.add i) = some v → ldL w a (i + 1) r (fun vs => F (v :: vs)) → ∃ vs, F vs ∧ vs.length = (l :: r).length ∧ ∀ j v, vs[j]? = some v → w.cell? (a.add (i + j)) = some v := by
      intro v hv h
      obtain ⟨vs, h1, h2, h3⟩ := ldL_out h
      refine ⟨v :: vs, h1, by simp [h2], fun j u hu => ?_⟩
      cases j with
      | zero => simp at hu; subst hu; exact hv
      | succ j => rw [show i + (j + 1) = i + 1 + j by omega]; exact h3 j u (by simpa using hu)
    cases l <;> simp only [ldL, ldInt, ldBool, ldStr, ldPtr, ldMap, ldSlice, ldAny] at h
    case int k =>
      split at h
      · rename_i hc; obtain ⟨rfl, h⟩ := h; exact key _ hc h
      · exact h.elim
    all_goals
      split at h
      · rename_i hc; exact key _ hc h
      · exact h.elim

def ldT (P : Program) (t : TypeId) (w : World) (a : Addr) (F : Value → Prop) : Prop :=
  match (leaves P 20 t).length == P.cellsOf t with
  | true => ldL w a 0 (leaves P 20 t) fun vs => match isAggB P t, vs with
    | true, vs => F (.agg ⟨vs⟩)
    | false, [v] => F v
    | _, _ => False
  | false => False

theorem run_loadCells {P : Program} {a : Addr} (w : World) : ∀ (vs : List Value) (i : Nat) (acc : Array Value), (∀ j v, vs[j]? = some v → w.cell? (a.add (i + j)) = some v) → (loadCellsFrom a i vs.length acc).run P w = .ok (acc ++ vs.toArray) w
  | [], i, acc, _ => by simp [loadCellsFrom, Sem.run]
  | v :: vs, i, acc, h => by
    have h0 := h 0 v (by simp)
    simp only [Nat.add_zero] at h0
    have ih := run_loadCells (P := P) (a := a) w vs (i + 1) (acc.push v) (fun j u hu => by rw [show i + 1 + j = i + (j + 1) by omega]; exact h (j + 1) u (by simpa using hu))
    simp only [List.length_cons, loadCellsFrom, load, Sem.run_bind, Sem.run, h0, Result.andThen, ih]
    simp

theorem info_of_underlying {P : Program} {t : TypeId} {d : TypeDesc} (h : P.underlying t = some d) : ∃ i, P.info? t = some i := by
  unfold Program.underlying at h
  cases hi : P.info? t with
  | none => simp [hi] at h
  | some i => exact ⟨i, rfl⟩

theorem run_isAgg {P : Program} {t : TypeId} {d : TypeDesc} (h : P.underlying t = some d) (w : World) : (isAgg t).run P w = .ok (isAggB P t) w := by
  unfold isAgg isAggB
  simp only [Sem.run_bind, run_underlying h, Result.andThen, h]
  cases d <;> rfl

theorem run_sizeOf {P : Program} {t : TypeId} {d : TypeDesc} (h : P.underlying t = some d) (w : World) : (sizeOf t).run P w = .ok (P.cellsOf t) w := by
  obtain ⟨i, hi⟩ := info_of_underlying h
  simp [sizeOf, typeInfo, Program.cellsOf, hi, Sem.run_bind, program, Sem.run, Result.andThen]

theorem leaves_desc {P : Program} {t : TypeId} {n : Nat} (h : P.underlying t = none) : leaves P (n + 1) t = [.any] := by simp [leaves, h]

theorem ldT_run {P : Program} {t : TypeId} {w : World} {a : Addr} {F : Value → Prop} (h : ldT P t w a F) (hd : (P.underlying t).isSome = true) : ∃ v, F v ∧ ∀ w', Mod [] w w' → (Instr.loadAt t (.pointer (some a))).run P w' = .ok v w' := by
  unfold ldT at h
  split at h
  case h_2 => exact h.elim
  rename_i hlen
  obtain ⟨d, hd⟩ := Option.isSome_iff_exists.1 hd
  obtain ⟨vs, h, hl, hc⟩ := ldL_out h
  have hlen' : (leaves P 20 t).length = P.cellsOf t := by simpa using hlen
  cases hg : isAggB P t with
  | true =>
    simp only [hg] at h
    refine ⟨_, h, fun w' hm => ?_⟩
    have hc' : ∀ j v, vs[j]? = some v → w'.cell? (a.add (0 + j)) = some v := fun j v hv => hm.cell0 (hc j v hv)
    have := run_loadCells (P := P) w' vs 0 #[] hc'
    simp only [Instr.loadAt, Instr.sureAddr, loadVar, Sem.run_bind, Sem.run, Result.andThen, run_isAgg hd, run_sizeOf hd, hg, if_true, loadCells, ← hlen', ← hl, this]
    simp [this]
  | false =>
    simp only [hg] at h
    match vs, h, hl, hc with
    | [v], h, hl, hc =>
      refine ⟨_, h, fun w' hm => ?_⟩
      have hc0 := hm.cell0 (hc 0 v (by simp))
      simp only [Nat.add_zero] at hc0
      have ha : a.add 0 = a := by simp [Addr.add]
      rw [ha] at hc0
      simp [Instr.loadAt, Instr.sureAddr, loadVar, Sem.run_bind, Sem.run, Result.andThen, run_isAgg hd, hg, load, hc0]

/-! ### operations that only read -/

/-- A reading of the model's own, by its run; the value's type by variables. -/
def rdT (P : Program) (ex : (Value → Prop) → Prop) (s : Sem Value) (w : World) (K : Value → Prop) : Prop :=
  ex fun v => (∀ w', Mod [] w w' → s.run P w' = .ok v w') ∧ K v
def ixA (a : Option Addr) (len : Nat) (i : Int) (size : Nat) (F : Addr → Prop) : Prop := ∃ a', a = some a' ∧ 0 ≤ i ∧ i < len ∧ F (a'.add (i.toNat * size))
def byteAt (s : ByteArray) (i : Nat) : Int := (s.data.toList.getD i 0).toNat
def ixS (s : ByteArray) (i : Int) (F : Int → Prop) : Prop := 0 ≤ i ∧ i < s.size ∧ F (byteAt s i.toNat)
def slS (s : ByteArray) (lo hi : Int) (F : ByteArray → Prop) : Prop := 0 ≤ lo ∧ lo ≤ hi ∧ hi ≤ s.size ∧ F (s.extract lo.toNat hi.toNat)
def slV (a : Option Addr) (cap : Nat) (lo hi mx : Int) (size : Nat) (F : Option Addr → Nat → Nat → Prop) : Prop :=
  0 ≤ lo ∧ lo ≤ hi ∧ hi ≤ mx ∧ mx ≤ cap ∧ F (if mx = lo then a else a.map (·.add (lo.toNat * size))) (hi - lo).toNat (mx - lo).toNat
def catS (x y : ByteArray) (F : ByteArray → Prop) : Prop := x.size + y.size ≤ 9223372036854775807 ∧ F (x ++ y)
def nz (y : Int) (F : Prop) : Prop := y ≠ 0 ∧ F
def nn (y : Int) (F : Prop) : Prop := 0 ≤ y ∧ F

/-- 'x' where nil must not stand. -/
def ckPtr (x : Option Addr) (F : Addr → Prop) : Prop := match x with
  | some a => F a
  | none => False

def pureOp (P : Program) (o : Oper) (ρ : Operand → Value) (K : Value → Prop) : Prop := match pureRun P (execOp ρ o) with
  | some (.value v) => K v
  | _ => False

/-- A bound of a slice expression: an int's value. -/
def bnd (ρ : Operand → Value) (d : Int) : Option Operand → Option Int
  | none => some d
  | some x => match ρ x with
    | .int _ n => some n
    | _ => none

def isIntB (P : Program) (t : TypeId) : Bool := match P.underlying t with
  | some (.int _) | some .bool | some .string => true
  | _ => false

def constB : Operand → Bool
  | .const _ => true
  | _ => false
def quietOp (P : Program) (o : Oper) (ρ : Operand → Value) (w : World) (K : Value → Prop) : Prop :=
  match o.op with
  | .load t a => match ρ a, (P.underlying t).isSome with
    | .pointer (some a), true => ldT P t w a K
    | _, _ => False
  | .indexAddr t x i => match P.underlying t with
    | some (.slice e) => match ρ x, ρ i, (P.underlying e).isSome with
      | .slice a n _, .int _ i, true => ixA a n i (P.cellsOf e) fun a => K (.pointer (some a))
      | _, _, _ => False
    | _ => pureOp P o ρ K
  | .index t x i => match P.underlying t with
    | some .string => match ρ x, ρ i with
      | .string s, .int _ i => ixS s i fun c => K (.int .u8 c)
      | _, _ => False
    | some (.array _ e) => match constB i with
      | true => pureOp P o ρ K
      | false => exT P e fun v => (∀ w' : World, (Instr.index t (ρ x) (ρ i)).run P w' = .ok v w') ∧ K v
    | _ => pureOp P o ρ K
  | .slice t x lo hi mx => match P.underlying t with
    | some .string => match ρ x, mx with
      | .string s, none => match bnd ρ 0 lo, bnd ρ s.size hi with
        | some l, some h => slS s l h fun s => K (.string s)
        | _, _ => False
      | _, _ => False
    | some (.slice e) => match ρ x, (P.underlying e).isSome with
      | .slice a n c, true => match bnd ρ 0 lo, bnd ρ n hi, bnd ρ c mx, hi, mx with
        | some l, some h, some m, _, none => slV a c l h m (P.cellsOf e) fun a n c => K (.slice a n c)
        | some l, some h, some m, some _, some _ => slV a c l h m (P.cellsOf e) fun a n c => K (.slice a n c)
        | _, _, _, _, _ => False
      | _, _ => False
    | _ => pureOp P o ρ K
  | .lookup t _ _ ok => match P.underlying t with
    | some (.map _ e) => rdT P (fun F => exT P e fun v => match ok with
        | true => ∃ b : Bool, F (.tuple #[v, .bool b])
        | false => F v) (Instr.lookup t (match o.op with | .lookup _ x _ _ => ρ x | _ => undef) (match o.op with | .lookup _ _ i _ => ρ i | _ => undef) ok) w K
    | _ => False
  | .binOp op t x y _ => match op, P.underlying t with
    | .quo, some (.int _) => match ρ x, ρ y with
      | .int k a, .int k' b => match k == k' with
        | true => nz b (K (.int k (k.wrap (a.tdiv b))))
        | false => False
      | _, _ => False
    | .rem, some (.int _) => match ρ x, ρ y with
      | .int k a, .int k' b => match k == k' with
        | true => nz b (K (.int k (a.tmod b)))
        | false => False
      | _, _ => False
    | .shl, some (.int _) => match ρ x, ρ y with
      | .int k a, .int _ b => nn b (K (.int k (k.wrap (a * 2 ^ (min b.toNat k.bits)))))
      | _, _ => False
    | .shr, some (.int _) => match ρ x, ρ y with
      | .int k a, .int _ b => nn b (K (.int k (a.fdiv (2 ^ (min b.toNat k.bits)))))
      | _, _ => False
    | .add, some .string => match ρ x, ρ y with
      | .string a, .string b => catS a b fun s => K (.string s)
      | _, _ => False
    | .eql, some (.slice _) => match ρ y with
      | .slice none _ _ => match ρ x with
        | .slice a _ _ => K (.bool a.isNone)
        | _ => False
      | _ => False
    | .neq, some (.slice _) => match ρ y with
      | .slice none _ _ => match ρ x with
        | .slice a _ _ => K (.bool (!a.isNone))
        | _ => False
      | _ => False
    | .eql, some (.pointer _) => match ρ y with
      | .pointer none => match ρ x with
        | .pointer a => K (.bool a.isNone)
        | _ => False
      | _ => False
    | .neq, some (.pointer _) => match ρ y with
      | .pointer none => match ρ x with
        | .pointer a => K (.bool (!a.isNone))
        | _ => False
      | _ => False
    | .eql, some (.map _ _) => match ρ y with
      | .map none => match ρ x with
        | .map a => K (.bool a.isNone)
        | _ => False
      | _ => False
    | .neq, some (.map _ _) => match ρ y with
      | .map none => match ρ x with
        | .map a => K (.bool (!a.isNone))
        | _ => False
      | _ => False
    | .eql, some (.struct _) | .eql, some (.array _ _) | .eql, some (.interface _) => rdT P (fun F => ∃ b : Bool, F (.bool b)) (do eqGuard .eql t x y (ρ x) (ρ y); Go.binOp .eql t (ρ x) (ρ y)) w K
    | .neq, some (.struct _) | .neq, some (.array _ _) | .neq, some (.interface _) => rdT P (fun F => ∃ b : Bool, F (.bool b)) (do eqGuard .neq t x y (ρ x) (ρ y); Go.binOp .neq t (ρ x) (ρ y)) w K
    | _, _ => pureOp P o ρ K
  | .nilCheck x => match ρ x with
    | .pointer a => ckPtr a fun a => K (.pointer (some a))
    | _ => pureOp P o ρ K
  | .call c => match c.callee with
    | .builtin .len => match (c.argTypes[0]?).bind P.underlying with
      | some (.map _ _) => rdT P (fun F => ∃ n : Int, F (.int .i64 n)) (Builtin.len_ c.argTypes o.type (c.args.map ρ)) w K
      | _ => pureOp P o ρ K
    | _ => pureOp P o ρ K
  | _ => pureOp P o ρ K

/-- Operations that look into the heap. -/
def readB (P : Program) (o : Oper) : Bool := match o.op with
  | .load _ _ | .lookup _ _ _ _ => true
  | .binOp op t _ _ _ => match op, P.underlying t with
    | .eql, some (.struct _) | .eql, some (.array _ _) | .eql, some (.interface _) | .neq, some (.struct _) | .neq, some (.array _ _) | .neq, some (.interface _) => true
    | _, _ => false
  | .call c => match c.callee with
    | .builtin .len => match (c.argTypes[0]?).bind P.underlying with
      | some (.map _ _) => true
      | _ => false
    | _ => false
  | _ => false

theorem pureOp_run {P : Program} {o : Oper} {ρ : Operand → Value} {K : Value → Prop} (h : pureOp P o ρ K) : ∃ v, K v ∧ ∀ w, (execOp ρ o).run P w = .ok (.value v) w := by
  unfold pureOp at h
  split at h
  · rename_i v hv; exact ⟨v, h, fun w => run_of_pureRun hv w⟩
  · exact h.elim

theorem run_value {P : Program} {s : Sem Value} {v : Value} {w w' : World} (h : s.run P w = .ok v w') : (do pure (Next.value (← s)) : Sem Next).run P w = .ok (.value v) w' := by
  simp [Sem.run_bind, h, Result.andThen]

theorem rdT_out {P : Program} {ex : (Value → Prop) → Prop} (hex : ∀ F, ex F → ∃ v, F v) {s : Sem Value} {w : World} {K : Value → Prop} (h : rdT P ex s w K) : ∃ v, K v ∧ ∀ w', Mod [] w w' → s.run P w' = .ok v w' :=
  let ⟨v, h1, h2⟩ := hex _ h
  ⟨v, h2, h1⟩

theorem byteAt_get {s : ByteArray} {i : Nat} (h : i < s.size) : byteAt s i = (s[i].toNat : Int) := by
  have : s.data.toList.getD i 0 = s[i] := by
    have h' : i < s.data.toList.length := by simpa using h
    rw [List.getD_eq_getElem?_getD, List.getElem?_eq_getElem h']; rfl
  rw [byteAt, this]

theorem bnd_cases {ρ : Operand → Value} {d l : Int} {x : Option Operand} (h : bnd ρ d x = some l) : (x = none ∧ l = d) ∨ ∃ y k, x = some y ∧ ρ y = .int k l := by
  cases x with
  | none => simp [bnd] at h; exact .inl ⟨rfl, h.symm⟩
  | some y =>
    simp only [bnd] at h
    split at h
    · rename_i k n hy; cases h; exact .inr ⟨y, k, rfl, hy⟩
    · cases h

theorem run_sliceBound {P : Program} {w : World} {k : IntKind} {i : Int} {y : Nat} {code : BoundsCode} (h0 : 0 ≤ i) (h1 : i ≤ y) : (Instr.sliceBound (.int k i) y code).run P w = .ok i.toNat w := by
  simp [Instr.sliceBound, asIntOf, Sem.run_bind, Result.andThen, h0, h1]

theorem run_slS {P : Program} {t : TypeId} (hu : P.underlying t = some .string) (w : World) {ρ : Operand → Value} {s : ByteArray} {lo hi : Option Operand} {l h : Int} (hl : bnd ρ 0 lo = some l) (hh : bnd ρ s.size hi = some h) (g1 : 0 ≤ l) (g2 : l ≤ h) (g3 : h ≤ s.size) :
    (Instr.sliceAt t (.string s) (lo.map ρ) (hi.map ρ) (none : Option Value)).run P w = .ok (.string (s.extract l.toNat h.toNat)) w := by
  have h0 : (0 : Int) ≤ h := by omega
  have g2' : l ≤ (h.toNat : Int) := by omega
  have g1' : l ≤ (s.size : Int) := by omega
  rcases bnd_cases hl with ⟨rfl, rfl⟩ | ⟨x, k, rfl, hx⟩ <;> rcases bnd_cases hh with ⟨rfl, rfl⟩ | ⟨y, k', rfl, hy⟩
  · simp [Instr.sliceAt, Instr.slice, Instr.sliceBounds, Sem.run_bind, run_underlying hu, Result.andThen]
  · simp [Instr.sliceAt, Instr.slice, Instr.sliceBounds, Sem.run_bind, run_underlying hu, Result.andThen, hy, run_sliceBound h0 g3]
  · simp [Instr.sliceAt, Instr.slice, Instr.sliceBounds, Sem.run_bind, run_underlying hu, Result.andThen, hx, run_sliceBound g1 g1']
  · simp [Instr.sliceAt, Instr.slice, Instr.sliceBounds, Sem.run_bind, run_underlying hu, Result.andThen, hx, hy, run_sliceBound h0 g3, run_sliceBound g1 g2']

theorem run_slV {P : Program} {t e : TypeId} {d : TypeDesc} (hu : P.underlying t = some (.slice e)) (hd : P.underlying e = some d) (w : World) {ρ : Operand → Value} {a : Option Addr} {n c : Nat} {lo hi mx : Option Operand} {l h m : Int}
    (hl : bnd ρ 0 lo = some l) (hh : bnd ρ n hi = some h) (hm : bnd ρ c mx = some m) (hmx : mx = none ∨ hi.isSome = true) (g1 : 0 ≤ l) (g2 : l ≤ h) (g3 : h ≤ m) (g4 : m ≤ c) :
    (Instr.sliceAt t (.slice a n c) (lo.map ρ) (hi.map ρ) (mx.map ρ)).run P w = .ok (.slice (if m = l then a else a.map (·.add (l.toNat * P.cellsOf e))) (h - l).toNat (m - l).toNat) w := by
  have m0 : (0 : Int) ≤ m := by omega
  have h0 : (0 : Int) ≤ h := by omega
  have e1 : (if m.toNat = l.toNat then a else a.map (·.add (l.toNat * P.cellsOf e))) = (if m = l then a else a.map (·.add (l.toNat * P.cellsOf e))) := by
    by_cases hml : m = l
    · simp [hml]
    · rw [if_neg hml, if_neg (by omega)]
  have e2 : h.toNat - l.toNat = (h - l).toNat := by omega
  have e3 : m.toNat - l.toNat = (m - l).toNat := by omega
  have k1 : h ≤ (m.toNat : Int) := by omega
  have k2 : l ≤ (h.toNat : Int) := by omega
  have k3 : h ≤ (c : Int) := by omega
  have k4 : l ≤ (n : Int) ∨ hi.isSome = true := by
    rcases bnd_cases hh with ⟨rfl, rfl⟩ | ⟨y, k', rfl, hy⟩
    · exact .inl g2
    · exact .inr rfl
  rw [← e1, ← e2, ← e3]
  rcases bnd_cases hm with ⟨rfl, rfl⟩ | ⟨z, k'', rfl, hz⟩
  · rcases bnd_cases hl with ⟨rfl, rfl⟩ | ⟨x, k, rfl, hx⟩ <;> rcases bnd_cases hh with ⟨rfl, rfl⟩ | ⟨y, k', rfl, hy⟩
    · simp [Instr.sliceAt, Instr.slice, Instr.sliceBounds, Sem.run_bind, run_underlying hu, Result.andThen, run_sizeOf hd]
    · simp [Instr.sliceAt, Instr.slice, Instr.sliceBounds, Sem.run_bind, run_underlying hu, Result.andThen, hy, run_sliceBound h0 k3, run_sizeOf hd]
    · simp [Instr.sliceAt, Instr.slice, Instr.sliceBounds, Sem.run_bind, run_underlying hu, Result.andThen, hx, run_sliceBound g1 g2, run_sizeOf hd]
    · simp [Instr.sliceAt, Instr.slice, Instr.sliceBounds, Sem.run_bind, run_underlying hu, Result.andThen, hx, hy, run_sliceBound h0 k3, run_sliceBound g1 k2, run_sizeOf hd]
  · rcases hmx with hmx | hmx
    · cases hmx
    rcases bnd_cases hl with ⟨rfl, rfl⟩ | ⟨x, k, rfl, hx⟩ <;> rcases bnd_cases hh with ⟨rfl, rfl⟩ | ⟨y, k', rfl, hy⟩
    · cases hmx
    · simp [Instr.sliceAt, Instr.slice, Instr.sliceBounds, Sem.run_bind, run_underlying hu, Result.andThen, hy, hz, run_sliceBound m0 g4, run_sliceBound h0 k1, run_sizeOf hd]
    · cases hmx
    · simp [Instr.sliceAt, Instr.slice, Instr.sliceBounds, Sem.run_bind, run_underlying hu, Result.andThen, hx, hy, hz, run_sliceBound m0 g4, run_sliceBound h0 k1, run_sliceBound g1 k2, run_sizeOf hd]

theorem run_eqGuard_other {P : Program} {op : BinOp} {t : TypeId} {x y : Operand} {a b : Value} (w : World) (ha : ∀ c, a ≠ .agg c) (hn : a ≠ .nilIface) : (eqGuard op t x y a b).run P w = .ok () w := by
  unfold eqGuard
  cases op <;> simp [Sem.run] <;> cases a <;> simp_all [Sem.run]

theorem equalIn_slice_nil {P : Program} {t e : TypeId} (hu : P.underlying t = some (.slice e)) (a : Option Addr) (n c n' c' d : Nat) (w : World) : (Op.equalIn (d + 1) t (.slice a n c) (.slice none n' c')).run P w = .ok a.isNone w := by
  cases a <;> simp [Op.equalIn, Sem.run_bind, run_underlying hu, Result.andThen]
theorem equal_slice_nil {P : Program} {t e : TypeId} (hu : P.underlying t = some (.slice e)) (a : Option Addr) (n c n' c' : Nat) (w : World) : (Op.equal t (.slice a n c) (.slice none n' c')).run P w = .ok a.isNone w :=
  equalIn_slice_nil hu a n c n' c' 9999 w
theorem equalIn_ptr_nil {P : Program} {t e : TypeId} (hu : P.underlying t = some (.pointer e)) (a : Option Addr) (d : Nat) (w : World) : (Op.equalIn (d + 1) t (.pointer a) (.pointer none)).run P w = .ok a.isNone w := by
  cases a <;> simp [Op.equalIn, Sem.run_bind, run_underlying hu, Result.andThen]
theorem equal_ptr_nil {P : Program} {t e : TypeId} (hu : P.underlying t = some (.pointer e)) (a : Option Addr) (w : World) : (Op.equal t (.pointer a) (.pointer none)).run P w = .ok a.isNone w :=
  equalIn_ptr_nil hu a 9999 w

theorem equalIn_map_nil {P : Program} {t k e : TypeId} (hu : P.underlying t = some (.map k e)) (a : Option Nat) (d : Nat) (w : World) : (Op.equalIn (d + 1) t (.map a) (.map none)).run P w = .ok a.isNone w := by
  cases a <;> simp [Op.equalIn, Sem.run_bind, run_underlying hu, Result.andThen]
theorem equal_map_nil {P : Program} {t k e : TypeId} (hu : P.underlying t = some (.map k e)) (a : Option Nat) (w : World) : (Op.equal t (.map a) (.map none)).run P w = .ok a.isNone w :=
  equalIn_map_nil hu a 9999 w

theorem quietOp_run {P : Program} {o : Oper} {ρ : Operand → Value} {w : World} {K : Value → Prop} (h : quietOp P o ρ w K) : ∃ v, K v ∧ ∀ w', (readB P o = true → Mod [] w w') → (execOp ρ o).run P w' = .ok (.value v) w' := by
  have pure_ : pureOp P o ρ K → ∃ v, K v ∧ ∀ w', (readB P o = true → Mod [] w w') → (execOp ρ o).run P w' = .ok (.value v) w' := fun h =>
    let ⟨v, h1, h2⟩ := pureOp_run h
    ⟨v, h1, fun w' _ => h2 w'⟩
  unfold quietOp at h
  split at h
  · -- load
    rename_i t a hop
    split at h
    · rename_i a' ha hd
      obtain ⟨v, h1, h2⟩ := ldT_run h hd
      refine ⟨v, h1, fun w' hm => ?_⟩
      simp only [execOp, hop, ha]
      exact run_value (h2 w' (hm (by simp [readB, hop])))
    · exact h.elim
  · -- indexAddr
    rename_i t x i hop
    split at h
    · rename_i e hu
      split at h
      · rename_i a n c k i' hx hi he
        obtain ⟨a', rfl, h0, hn, h⟩ := h
        refine ⟨_, h, fun w' _ => ?_⟩
        obtain ⟨d, hd⟩ := Option.isSome_iff_exists.1 he
        simp only [execOp, hop, hx, hi]
        refine run_value ?_
        simp [Instr.indexAt, asIntOf, Sem.run_bind, run_underlying hu, Result.andThen, h0, hn, run_sizeOf hd]
      · exact h.elim
    · exact pure_ h
  · -- index
    rename_i t x i hop
    split at h
    · rename_i hu
      split at h
      · rename_i s k i' hx hi
        obtain ⟨h0, hn, h⟩ := h
        refine ⟨_, h, fun w' _ => ?_⟩
        simp only [execOp, hop, hx, hi]
        refine run_value ?_
        have hn' : i'.toNat < s.size := by omega
        rw [byteAt_get hn']
        simp [Instr.index, asIntOf, Sem.run_bind, run_underlying hu, Result.andThen, h0, getElem?_pos s i'.toNat hn']
      · exact h.elim
    · split at h
      · exact pure_ h
      · obtain ⟨v, h1, h2⟩ := exT_out h
        refine ⟨v, h2, fun w' _ => ?_⟩
        simp only [execOp, hop]
        exact run_value (h1 w')
    · exact pure_ h
  · -- slice
    rename_i t x lo hi mx hop
    split at h
    · rename_i hu
      split at h
      · rename_i s hx
        split at h
        · rename_i l hh hl hhh
          obtain ⟨g1, g2, g3, h⟩ := h
          refine ⟨_, h, fun w' _ => ?_⟩
          simp only [execOp, hop, hx]
          exact run_value (run_slS hu w' hl hhh g1 g2 g3)
        · exact h.elim
      · exact h.elim
    · rename_i e hu
      split at h
      · rename_i a n c hx he
        obtain ⟨d, hd⟩ := Option.isSome_iff_exists.1 he
        split at h
        · rename_i l hh m hl hhh hm
          obtain ⟨g1, g2, g3, g4, h⟩ := h
          refine ⟨_, h, fun w' _ => ?_⟩
          simp only [execOp, hop, hx]
          exact run_value (run_slV hu hd w' hl hhh hm (.inl rfl) g1 g2 g3 g4)
        · rename_i l hh m hi' mx' hl hhh hm
          obtain ⟨g1, g2, g3, g4, h⟩ := h
          refine ⟨_, h, fun w' _ => ?_⟩
          simp only [execOp, hop, hx]
          exact run_value (run_slV hu hd w' hl hhh hm (.inr rfl) g1 g2 g3 g4)
        · exact h.elim
      · exact h.elim
    · exact pure_ h
  · -- lookup
    rename_i t x i ok hop
    split at h
    · rename_i k e hu
      have := rdT_out (fun F hF => by
        obtain ⟨v, hv⟩ := exT_out hF
        cases ok
        · exact ⟨_, hv⟩
        · obtain ⟨b, hv⟩ := hv; exact ⟨_, hv⟩) h
      obtain ⟨v, h1, h2⟩ := this
      refine ⟨v, h1, fun w' hm => ?_⟩
      have := h2 w' (hm (by simp [readB, hop]))
      simp only [hop] at this
      simp only [execOp, hop]
      exact run_value this
    · exact h.elim
  · -- binOp
    rename_i op t x y ty hop
    have fin : ∀ {v : Value} {w' : World}, (do eqGuard op t x y (ρ x) (ρ y); Go.binOp op t (ρ x) (ρ y) : Sem Value).run P w' = .ok v w' → (execOp ρ o).run P w' = .ok (.value v) w' := fun h => by
      simp only [execOp, hop]; exact run_value h
    split at h
    · rename_i q hu
      split at h
      · rename_i k a k' b hx hy
        split at h
        · rename_i hk
          obtain ⟨h0, h⟩ := h
          have hk : k = k' := by simpa using hk
          subst hk
          refine ⟨_, h, fun w' _ => fin ?_⟩
          rw [hx, hy]
          simp [Sem.run_bind, run_eqGuard_other, Result.andThen, Go.binOp, Op.intDiv, h0]
        · exact h.elim
      · exact h.elim
    · rename_i q hu
      split at h
      · rename_i k a k' b hx hy
        split at h
        · rename_i hk
          obtain ⟨h0, h⟩ := h
          have hk : k = k' := by simpa using hk
          subst hk
          refine ⟨_, h, fun w' _ => fin ?_⟩
          rw [hx, hy]
          simp [Sem.run_bind, run_eqGuard_other, Result.andThen, Go.binOp, Op.intDiv, h0]
        · exact h.elim
      · exact h.elim
    · rename_i q hu
      split at h
      · rename_i k a k' b hx hy
        obtain ⟨h0, h⟩ := h
        refine ⟨_, h, fun w' _ => fin ?_⟩
        rw [hx, hy]
        simp [Sem.run_bind, run_eqGuard_other, Result.andThen, Go.binOp, Op.shift, show ¬ b < 0 by omega]
      · exact h.elim
    · rename_i q hu
      split at h
      · rename_i k a k' b hx hy
        obtain ⟨h0, h⟩ := h
        refine ⟨_, h, fun w' _ => fin ?_⟩
        rw [hx, hy]
        simp [Sem.run_bind, run_eqGuard_other, Result.andThen, Go.binOp, Op.shift, show ¬ b < 0 by omega]
      · exact h.elim
    · rename_i hu
      split at h
      · rename_i a b hx hy
        obtain ⟨h0, h⟩ := h
        refine ⟨_, h, fun w' _ => fin ?_⟩
        rw [hx, hy]
        have : ¬ (IntKind.i64.max < ((a.size + b.size : Nat) : Int)) := by simp [IntKind.max, IntKind.signed, IntKind.bits]; omega
        simp only [Sem.run_bind, run_eqGuard_other w' (a := .string a) (by simp) (by simp), Result.andThen, Go.binOp, Op.stringOp, gt_iff_lt, if_neg this]
        rfl
      · exact h.elim
    · rename_i e hu
      split at h
      · rename_i n c hy
        split at h
        · rename_i a n' c' hx
          refine ⟨_, h, fun w' _ => fin ?_⟩
          rw [hx, hy]
          simp [Sem.run_bind, run_eqGuard_other, Result.andThen, Go.binOp, equal_slice_nil hu]
        · exact h.elim
      · exact h.elim
    · rename_i e hu
      split at h
      · rename_i n c hy
        split at h
        · rename_i a n' c' hx
          refine ⟨_, h, fun w' _ => fin ?_⟩
          rw [hx, hy]
          simp [Sem.run_bind, run_eqGuard_other, Result.andThen, Go.binOp, equal_slice_nil hu]
        · exact h.elim
      · exact h.elim
    · rename_i e hu
      split at h
      · rename_i hy
        split at h
        · rename_i a hx
          refine ⟨_, h, fun w' _ => fin ?_⟩
          rw [hx, hy]
          simp [Sem.run_bind, run_eqGuard_other, Result.andThen, Go.binOp, equal_ptr_nil hu]
        · exact h.elim
      · exact h.elim
    · rename_i e hu
      split at h
      · rename_i hy
        split at h
        · rename_i a hx
          refine ⟨_, h, fun w' _ => fin ?_⟩
          rw [hx, hy]
          simp [Sem.run_bind, run_eqGuard_other, Result.andThen, Go.binOp, equal_ptr_nil hu]
        · exact h.elim
      · exact h.elim
    · rename_i k e hu
      split at h
      · rename_i hy
        split at h
        · rename_i a hx
          refine ⟨_, h, fun w' _ => fin ?_⟩
          rw [hx, hy]
          simp [Sem.run_bind, run_eqGuard_other, Result.andThen, Go.binOp, equal_map_nil hu]
        · exact h.elim
      · exact h.elim
    · rename_i k e hu
      split at h
      · rename_i hy
        split at h
        · rename_i a hx
          refine ⟨_, h, fun w' _ => fin ?_⟩
          rw [hx, hy]
          simp [Sem.run_bind, run_eqGuard_other, Result.andThen, Go.binOp, equal_map_nil hu]
        · exact h.elim
      · exact h.elim
    all_goals first
      | exact pure_ h
      | (obtain ⟨v, h1, h2⟩ := rdT_out (fun F hF => let ⟨_, hF⟩ := hF; ⟨_, hF⟩) h
         exact ⟨v, h1, fun w' hm => fin (h2 w' (hm (by simp [readB, hop, *])))⟩)
  · -- nilCheck
    rename_i x hop
    split at h
    · rename_i a hx
      unfold ckPtr at h
      split at h
      · refine ⟨_, h, fun w' _ => ?_⟩
        simp [execOp, hop, hx, Sem.run]
      · exact h.elim
    · exact pure_ h
  · -- call
    rename_i c hop
    split at h
    · rename_i hc
      split at h
      · rename_i k e hu
        obtain ⟨v, h1, h2⟩ := rdT_out (fun F hF => let ⟨_, hF⟩ := hF; ⟨_, hF⟩) h
        refine ⟨v, h1, fun w' hm => ?_⟩
        have := h2 w' (hm (by simp [readB, hop, hc, hu]))
        simp [execOp, hop, resolve, hc, invoke, Go.builtin, Sem.run_bind, Result.andThen, this]
      · exact pure_ h
    · exact pure_ h
  · exact pure_ h

theorem quietOp_runM {P : Program} {o : Oper} {ρ : Operand → Value} {w : World} {K : Value → Prop} (h : quietOp P o ρ w K) : ∃ v, K v ∧ ∀ w', Mod [] w w' → (execOp ρ o).run P w' = .ok (.value v) w' :=
  let ⟨v, h1, h2⟩ := quietOp_run h
  ⟨v, h1, fun w' hm => h2 w' (fun _ => hm)⟩

end Go.Proofs.Ytohgihgddknmmaa
