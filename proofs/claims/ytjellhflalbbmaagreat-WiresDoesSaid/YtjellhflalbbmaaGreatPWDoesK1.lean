/- Part 1 of the proof of PWDoes. -/
import Derived.Test.YtjellhflalbbmaaGreatRows
import Derived.WalkKit
import Derived.WalkSpells
import Derived.WalkLawsBesides
import Derived.Deep.Quiet
import Derived.KernelRfl
import Derived.Maps.Keyed
import Derived.Maps.RangeRun
import Derived.DeepKeys4
import Derived.Lib.Strings
import Derived.Shelf.RegionOpenPlain
import Derived.Lib.Slices
import Derived.Lib.Walk
import Derived.Lib.Builder
import Derived.Lib.FrozenHead
import Derived.Lib.OthersKept
import Derived.Lib.AppendStr
import Derived.Lib.UnsafeStr
import Derived.Lib.MakeNoZero
import Derived.Laws.Externs
import Derived.Laws.IdiomCopy
import Derived.Laws.BitsLemmas
import Derived.RangeFuncBox
import Derived.RangeFuncLeaves
import Derived.RangeFuncNested
import Derived.Shelf.Abstract
import Derived.OwnWalkIn
import Derived.TacticsInMore
import Derived.LoopNIn
import Derived.LoopIn
import Derived.Maps.AppendAt
import Derived.Sort.LoopGhostIn
import Derived.Laws.Bits64b
import Derived.Laws.IdiomStrings
import Derived.Test.YtjellhflalbbmaaGreatProg
import Derived.Shelf.Lay
import Derived.Shelf.Strings.FuncGrows
import Derived.Laws.RangeAny
import Derived.Ground.GgwProg
import Derived.Ground.NamesProg
import Derived.ArgAppend
import Derived.Deep.RegionWith
import Derived.ProofKit
import Derived.OpenShut
import Derived.ShutString
import Derived.ChangeOld
import Derived.Below
import Derived.Deep.Slices
import Derived.Shelf.SlIterI.Nil
import Derived.Shelf.SortM.Plain
import Derived.Shelf.SortM.SortNone
import Derived.Ground.GgzProg
import Derived.Ground.SlgmProg
import Derived.Shelf.SlMaps.Clone
namespace Go.Proofs.YtjellhflalbbmaaGreat
open Go Go.RowKit
set_option linter.all false
abbrev OA := Option Addr
abbrev BA := ByteArray
noncomputable abbrev pP := Tryz.prog
abbrev VWP := Value → World → Prop
structure Mod (S : List Nat) (w w' : World) : Prop where
 os : w'.os = w.os
 tape : w'.tape = w.tape
 output : w'.output = w.output
 size : w.heap.size ≤ w'.heap.size
 block : ∀ k, k < w.heap.size → k ∉ S → w'.heap[k]? = w.heap[k]?
theorem Mod.refl (w : World) : Mod [] w w := ⟨rfl, rfl, rfl, Nat.le_refl _, fun _ _ _ => rfl⟩
theorem Mod.trans {S T : List Nat} {a b c : World} (h : Mod S a b) (k : Mod T b c) : Mod (S ++ T) a c :=
 ⟨k.os.trans h.os, k.tape.trans h.tape, k.output.trans h.output, Nat.le_trans h.size k.size, fun i hi hS => by
  simp only [List.mem_append, not_or] at hS
  exact (k.block i (Nat.lt_of_lt_of_le hi h.size) hS.2).trans (h.block i hi hS.1)⟩
theorem Mod.less {S T : List Nat} {w w' : World} (h : Mod S w w') (hs : ∀ k, k ∈ S → k < w.heap.size → k ∈ T) : Mod T w w' :=
 ⟨h.os, h.tape, h.output, h.size, fun k hk hT => h.block k hk (fun hS => hT (hs k hS hk))⟩
theorem Mod.keep {S : List Nat} {w w' : World} (h : Mod S w w') {b : Nat} {o : Obj} (hb : w.heap[b]? = some o) (hS : b ∉ S) : w'.heap[b]? = some o :=
 (h.block b (Array.getElem?_eq_some_iff.1 hb).1 hS).trans hb
theorem Mod.keep0 {w w' : World} (h : Mod [] w w') {b : Nat} {o : Obj} (hb : w.heap[b]? = some o) : w'.heap[b]? = some o := h.keep hb (by simp)
theorem Mod.below {S : List Nat} {w w' : World} (h : Mod S w w') (hs : ∀ k, k ∈ S → w.heap.size ≤ k) : Below w.heap.size w w' :=
 ⟨h.os, h.tape, h.output, h.size, fun k hk => h.block k hk (fun hS => by have := hs k hS; omega)⟩
theorem Mod.of_below {w w' : World} (h : Below w.heap.size w w') : Mod [] w w' := ⟨h.os, h.tape, h.output, h.size, fun k hk _ => h.block k hk⟩
theorem Mod.drewN (w : World) (n : Nat) : Mod [] w (w.drewN n) := ⟨rfl, rfl, rfl, Nat.le_refl _, fun _ _ _ => rfl⟩
theorem yaK {w : World} {b : Nat} {o : Obj} (h : w.heap[b]? = some o) : b < w.heap.size := (Array.getElem?_eq_some_iff.1 h).1
theorem Mod.cell {S : List Nat} {w w' : World} (h : Mod S w w') {a : Addr} (hb : a.block < w.heap.size) (hS : a.block ∉ S) : w'.cell? a = w.cell? a :=
 World.cell?_of_block (w := w) (h.block a.block hb hS)
theorem yhG {w : World} {a : Addr} {v : Value} (h : w.cell? a = some v) : a.block < w.heap.size := by
 unfold World.cell? at h
 split at h
 ·rename_i hb; exact yaK hb
 ·cases h
theorem Mod.cell0 {w w' : World} (h : Mod [] w w') {a : Addr} {v : Value} (hc : w.cell? a = some v) : w'.cell? a = some v :=
 (h.cell (yhG hc) (by simp)).trans hc
abbrev Fr := List Value
def ev (fr : Fr) : Operand → Value
 | .tmp t => fr.getD t undef
 | .const v => v
 | .global g => .pointer (some ⟨g, 0, none⟩)
 | .func f => .func (.func f) #[] #[]
def pt (fr : Fr) : Option Tmp → Value → Fr
 | none, _ => fr
 | some d, v => fr.set d v
def act (fr : Fr) : Act := { tmps := ⟨fr⟩, defers := [] }
def yd3 {α : Type} (P : Program) : Sem α → Option α
 | .pure a => some a
 | .program k => yd3 P (k P)
 | .mark _ k => yd3 P k
 | _ => none
theorem ybW {α : Type} {P : Program} : ∀ {s : Sem α} {a : α}, yd3 P s = some a → ∀ w, s.run P w = .ok a w
 | .pure _, _, h, w => by simp [yd3] at h; subst h; rfl
 | .program k, _, h, w => by simp only [yd3] at h; simp only [Sem.run]; exact ybW h w
 | .mark _ k, _, h, w => by simp only [yd3] at h; simp only [Sem.run]; exact ybW h w
 | .load .., _, h, _ => by cases h
 | .store .., _, h, _ => by cases h
 | .new .., _, h, _ => by cases h
 | .shape .., _, h, _ => by cases h
 | .freeze .., _, h, _ => by cases h
 | .frozen .., _, h, _ => by cases h
 | .getObj .., _, h, _ => by cases h
 | .setObj .., _, h, _ => by cases h
 | .choose .., _, h, _ => by cases h
 | .sys .., _, h, _ => by cases h
 | .halt .., _, h, _ => by cases h
inductive Leaf where
 | int (k : IntKind)
 | bool
 | string
 | ptr
 | slice
 | map
 | any
def yeH (P : Program) : Nat → TypeId → List Leaf
 | 0, _ => []
 | n + 1, t => match P.underlying t with
  | some (.int k) => [.int k]
  | some .bool => [.bool]
  | some .string => [.string]
  | some (.pointer _) => [.ptr]
  | some (.slice _) => [.slice]
  | some (.map _ _) => [.map]
  | some (.struct fs) => fs.toList.flatMap fun f => yeH P n f.type
  | some (.array l e) => (List.replicate l (yeH P n e)).flatten
  | _ => [.any]
def yi9 (P : Program) (t : TypeId) : Bool := match P.underlying t with
 | some (.struct _) | some (.array _ _) => true
 | _ => false
def yDx : List Leaf → (List Value → Prop) → Prop
 | [], F => F []
 | .int k :: r, F => ∃ x : Int, yDx r fun vs => F (.int k x :: vs)
 | .bool :: r, F => ∃ x : Bool, yDx r fun vs => F (.bool x :: vs)
 | .string :: r, F => ∃ x : ByteArray, yDx r fun vs => F (.string x :: vs)
 | .ptr :: r, F => ∃ x : Option Addr, yDx r fun vs => F (.pointer x :: vs)
 | .map :: r, F => ∃ x : Option Nat, yDx r fun vs => F (.map x :: vs)
 | .slice :: r, F => ∃ (x : Option Addr) (n c : Nat), yDx r fun vs => F (.slice x n c :: vs)
 | .any :: r, F => ∃ x : Value, yDx r fun vs => F (x :: vs)
theorem ydV {F : List Value → Prop} : ∀ {ls : List Leaf}, yDx ls F → ∃ vs, F vs
 | [], h => ⟨_, h⟩
 | .int k :: r, ⟨_, h⟩ => let ⟨vs, h⟩ := ydV h; ⟨_, h⟩
 | .bool :: r, ⟨_, h⟩ => let ⟨vs, h⟩ := ydV h; ⟨_, h⟩
 | .string :: r, ⟨_, h⟩ => let ⟨vs, h⟩ := ydV h; ⟨_, h⟩
 | .ptr :: r, ⟨_, h⟩ => let ⟨vs, h⟩ := ydV h; ⟨_, h⟩
 | .map :: r, ⟨_, h⟩ => let ⟨vs, h⟩ := ydV h; ⟨_, h⟩
 | .slice :: r, ⟨_, _, _, h⟩ => let ⟨vs, h⟩ := ydV h; ⟨_, h⟩
 | .any :: r, ⟨_, h⟩ => let ⟨vs, h⟩ := ydV h; ⟨_, h⟩
def exT (P : Program) (t : TypeId) (F : Value → Prop) : Prop :=
 yDx (yeH P 20 t) fun vs => match yi9 P t, vs with
  | true, vs => F (.agg ⟨vs⟩)
  | false, [v] => F v
  | _, _ => False
theorem ynN {P : Program} {t : TypeId} {F : Value → Prop} (h : exT P t F) : ∃ v, F v := by
 obtain ⟨vs, h⟩ := ydV h
 split at h
 ·exact ⟨_, h⟩
 ·exact ⟨_, h⟩
 ·exact h.elim
def yMe (P : Program) : List TypeId → (List Value → Prop) → Prop
 | [], F => F []
 | t :: r, F => exT P t fun v => yMe P r fun vs => F (v :: vs)
theorem yuP {P : Program} : ∀ {ts : List TypeId} {F : List Value → Prop}, yMe P ts F → ∃ vs, F vs
 | [], _, h => ⟨_, h⟩
 | t :: r, _, h => let ⟨_, h⟩ := ynN h; let ⟨_, h⟩ := yuP h; ⟨_, h⟩
def yIG (P : Program) (ts : List TypeId) (F : Value → Prop) : Prop := yMe P ts fun vs => match vs with
 | [v] => F v
 | vs => F (.tuple ⟨vs⟩)
theorem yz2 {P : Program} {ts : List TypeId} {F : Value → Prop} (h : yIG P ts F) : ∃ v, F v := by
 obtain ⟨vs, h⟩ := yuP h
 split at h <;> exact ⟨_, h⟩
def yDB (P : Program) (f : FuncId) : List TypeId := match P.funcs[f]? with
 | some fn => fn.resultTypes.toList
 | none => []
def brB (t : Bool) (A B : Prop) : Prop := match t with
 | true => A
 | false => B
theorem yuQ {A B : Prop} : brB true A B = A := rfl
theorem yd4 {A B : Prop} : brB false A B = B := rfl
theorem yaC {t : Bool} {A B : Prop} (h1 : t = true → A) (h2 : t = false → B) : brB t A B := by
 cases t
 ·exact h2 rfl
 ·exact h1 rfl
theorem yaE {p : Prop} [Decidable p] {A B : Prop} (h1 : p → A) (h2 : ¬ p → B) : brB (decide p) A B := by
 by_cases h : p
 ·simpa [brB, h] using h1 h
 ·simpa [brB, h] using h2 h
def call (P : Program) (f : FuncId) (args : Array Value) (w : World) (K : VWP) : Prop :=
 Calls P f args w fun e w' => yIG P (yDB P f) fun v => e = .returned v ∧ K v w'
def yaF (k : IntKind) (w : World) (a : Addr) (F : Int → Prop) : Prop := match w.cell? a with
 | some (.int k' x) => k' = k ∧ F x
 | _ => False
def ya1 (w : World) (a : Addr) (F : Bool → Prop) : Prop := match w.cell? a with
 | some (.bool x) => F x
 | _ => False
def yaT (w : World) (a : Addr) (F : ByteArray → Prop) : Prop := match w.cell? a with
 | some (.string x) => F x
 | _ => False
def yxA (w : World) (a : Addr) (F : Option Addr → Prop) : Prop := match w.cell? a with
 | some (.pointer x) => F x
 | _ => False
def yGw (w : World) (a : Addr) (F : Option Nat → Prop) : Prop := match w.cell? a with
 | some (.map x) => F x
 | _ => False
def yaS (w : World) (a : Addr) (F : Option Addr → Nat → Nat → Prop) : Prop := match w.cell? a with
 | some (.slice x n c) => F x n c
 | _ => False
def yGx (w : World) (a : Addr) (F : Value → Prop) : Prop := match w.cell? a with
 | some v => F v
 | _ => False
def ldL (w : World) (a : Addr) : Nat → List Leaf → (List Value → Prop) → Prop
 | _, [], F => F []
 | i, .int k :: r, F => yaF k w (a.add i) fun x => ldL w a (i + 1) r fun vs => F (.int k x :: vs)
 | i, .bool :: r, F => ya1 w (a.add i) fun x => ldL w a (i + 1) r fun vs => F (.bool x :: vs)
 | i, .string :: r, F => yaT w (a.add i) fun x => ldL w a (i + 1) r fun vs => F (.string x :: vs)
 | i, .ptr :: r, F => yxA w (a.add i) fun x => ldL w a (i + 1) r fun vs => F (.pointer x :: vs)
 | i, .map :: r, F => yGw w (a.add i) fun x => ldL w a (i + 1) r fun vs => F (.map x :: vs)
 | i, .slice :: r, F => yaS w (a.add i) fun x n c => ldL w a (i + 1) r fun vs => F (.slice x n c :: vs)
 | i, .any :: r, F => yGx w (a.add i) fun x => ldL w a (i + 1) r fun vs => F (x :: vs)
theorem yz3 {w : World} {a : Addr} : ∀ {ls : List Leaf} {i : Nat} {F : List Value → Prop}, ldL w a i ls F → ∃ vs, F vs ∧ vs.length = ls.length ∧ ∀ j v, vs[j]? = some v → w.cell? (a.add (i + j)) = some v
 | [], _, _, h => ⟨[], h, rfl, by simp⟩
 | l :: r, i, F, h => by
  have key : ∀ v, w.cell? (a.add i) = some v → ldL w a (i + 1) r (fun vs => F (v :: vs)) → ∃ vs, F vs ∧ vs.length = (l :: r).length ∧ ∀ j v, vs[j]? = some v → w.cell? (a.add (i + j)) = some v := by
   intro v hv h
   obtain ⟨vs, h1, h2, h3⟩ := yz3 h
   refine ⟨v :: vs, h1, by simp [h2], fun j u hu => ?_⟩
   cases j with
   | zero => simp at hu; subst hu; exact hv
   | succ j => rw [show i + (j + 1) = i + 1 + j by omega]; exact h3 j u (by simpa using hu)
  cases l <;> simp only [ldL, yaF, ya1, yaT, yxA, yGw, yaS, yGx] at h
  case int k =>
   split at h
   ·rename_i hc; obtain ⟨rfl, h⟩ := h; exact key _ hc h
   ·exact h.elim
  all_goals
   split at h
   ·rename_i hc; exact key _ hc h
   ·exact h.elim
def ldT (P : Program) (t : TypeId) (w : World) (a : Addr) (F : Value → Prop) : Prop :=
 match (yeH P 20 t).length == P.cellsOf t with
 | true => ldL w a 0 (yeH P 20 t) fun vs => match yi9 P t, vs with
  | true, vs => F (.agg ⟨vs⟩)
  | false, [v] => F v
  | _, _ => False
 | false => False
theorem yhH {P : Program} {a : Addr} (w : World) : ∀ (vs : List Value) (i : Nat) (acc : Array Value), (∀ j v, vs[j]? = some v → w.cell? (a.add (i + j)) = some v) → (loadCellsFrom a i vs.length acc).run P w = .ok (acc ++ vs.toArray) w
 | [], i, acc, _ => by simp [loadCellsFrom, Sem.run]
 | v :: vs, i, acc, h => by
  have h0 := h 0 v (by simp)
  simp only [Nat.add_zero] at h0
  have ih := yhH (P := P) (a := a) w vs (i + 1) (acc.push v) (fun j u hu => by rw [show i + 1 + j = i + (j + 1) by omega]; exact h (j + 1) u (by simpa using hu))
  simp only [List.length_cons, loadCellsFrom, load, Sem.run_bind, Sem.run, h0, Result.andThen, ih]
  simp
theorem yhI {P : Program} {t : TypeId} {d : TypeDesc} (h : P.underlying t = some d) : ∃ i, P.info? t = some i := by
 unfold Program.underlying at h
 cases hi : P.info? t with
 | none => simp [hi] at h
 | some i => exact ⟨i, rfl⟩
theorem yqH {P : Program} {t : TypeId} {d : TypeDesc} (h : P.underlying t = some d) (w : World) : (isAgg t).run P w = .ok (yi9 P t) w := by
 unfold isAgg yi9
 simp only [Sem.run_bind, run_underlying h, Result.andThen, h]
 cases d <;> rfl
theorem yb6 {P : Program} {t : TypeId} {d : TypeDesc} (h : P.underlying t = some d) (w : World) : (sizeOf t).run P w = .ok (P.cellsOf t) w := by
 obtain ⟨i, hi⟩ := yhI h
 simp [sizeOf, typeInfo, Program.cellsOf, hi, Sem.run_bind, program, Sem.run, Result.andThen]
theorem ynO {P : Program} {t : TypeId} {w : World} {a : Addr} {F : Value → Prop} (h : ldT P t w a F) (hd : (P.underlying t).isSome = true) : ∃ v, F v ∧ ∀ w', Mod [] w w' → (Instr.loadAt t (.pointer (some a))).run P w' = .ok v w' := by
 unfold ldT at h
 split at h
 case h_2 => exact h.elim
 rename_i hlen
 obtain ⟨d, hd⟩ := Option.isSome_iff_exists.1 hd
 obtain ⟨vs, h, hl, hc⟩ := yz3 h
 have hlen' : (yeH P 20 t).length = P.cellsOf t := by simpa using hlen
 cases hg : yi9 P t with
 | true =>
  simp only [hg] at h
  refine ⟨_, h, fun w' hm => ?_⟩
  have hc' : ∀ j v, vs[j]? = some v → w'.cell? (a.add (0 + j)) = some v := fun j v hv => hm.cell0 (hc j v hv)
  have := yhH (P := P) w' vs 0 #[] hc'
  simp only [Instr.loadAt, Instr.sureAddr, loadVar, Sem.run_bind, Sem.run, Result.andThen, yqH hd, yb6 hd, hg, if_true, loadCells, ← hlen', ← hl, this]
  simp [this]
 | false =>
  simp only [hg] at h
  match vs, h, hl, hc with
  | [v], h, hl, hc =>
   refine ⟨_, h, fun w' hm => ?_⟩
   have hc0 := hm.cell0 (hc 0 v (by simp))
   simp only [Nat.add_zero] at hc0
   have ha : a.add 0 = a := by simp [Addr.add]
   rw [ha] at hc0
   simp [Instr.loadAt, Instr.sureAddr, loadVar, Sem.run_bind, Sem.run, Result.andThen, yqH hd, hg, load, hc0]
def rdT (P : Program) (ex : (Value → Prop) → Prop) (s : Sem Value) (w : World) (K : Value → Prop) : Prop :=
 ex fun v => (∀ w', Mod [] w w' → s.run P w' = .ok v w') ∧ K v
def ixA (a : Option Addr) (len : Nat) (i : Int) (size : Nat) (F : Addr → Prop) : Prop := ∃ a', a = some a' ∧ 0 ≤ i ∧ i < len ∧ F (a'.add (i.toNat * size))
def ylV (s : ByteArray) (i : Nat) : Int := (s.data.toList.getD i 0).toNat
def ixS (s : ByteArray) (i : Int) (F : Int → Prop) : Prop := 0 ≤ i ∧ i < s.size ∧ F (ylV s i.toNat)
def slS (s : ByteArray) (lo hi : Int) (F : ByteArray → Prop) : Prop := 0 ≤ lo ∧ lo ≤ hi ∧ hi ≤ s.size ∧ F (s.extract lo.toNat hi.toNat)
def slV (a : Option Addr) (cap : Nat) (lo hi mx : Int) (size : Nat) (F : Option Addr → Nat → Nat → Prop) : Prop :=
 0 ≤ lo ∧ lo ≤ hi ∧ hi ≤ mx ∧ mx ≤ cap ∧ F (if mx = lo then a else a.map (·.add (lo.toNat * size))) (hi - lo).toNat (mx - lo).toNat
def yfP (x y : ByteArray) (F : ByteArray → Prop) : Prop := x.size + y.size ≤ 9223372036854775807 ∧ F (x ++ y)
def nz (y : Int) (F : Prop) : Prop := y ≠ 0 ∧ F
def nn (y : Int) (F : Prop) : Prop := 0 ≤ y ∧ F
def ysE (x : Option Addr) (F : Addr → Prop) : Prop := match x with
 | some a => F a
 | none => False
def yeI (P : Program) (o : Oper) (ρ : Operand → Value) (K : Value → Prop) : Prop := match yd3 P (execOp ρ o) with
 | some (.value v) => K v
 | _ => False
def bnd (ρ : Operand → Value) (d : Int) : Option Operand → Option Int
 | none => some d
 | some x => match ρ x with
  | .int _ n => some n
  | _ => none
def yIH : Operand → Bool
 | .const _ => true
 | _ => false
def ygZ (P : Program) (o : Oper) (ρ : Operand → Value) (w : World) (K : Value → Prop) : Prop :=
 match o.op with
 | .load t a => match ρ a, (P.underlying t).isSome with
  | .pointer (some a), true => ldT P t w a K
  | _, _ => False
 | .indexAddr t x i => match P.underlying t with
  | some (.slice e) => match ρ x, ρ i, (P.underlying e).isSome with
   | .slice a n _, .int _ i, true => ixA a n i (P.cellsOf e) fun a => K (.pointer (some a))
   | _, _, _ => False
  | _ => yeI P o ρ K
 | .index t x i => match P.underlying t with
  | some .string => match ρ x, ρ i with
   | .string s, .int _ i => ixS s i fun c => K (.int .u8 c)
   | _, _ => False
  | some (.array _ e) => match yIH i with
   | true => yeI P o ρ K
   | false => exT P e fun v => (∀ w' : World, (Instr.index t (ρ x) (ρ i)).run P w' = .ok v w') ∧ K v
  | _ => yeI P o ρ K
 | .slice t x lo hi mx => match P.underlying t with
  | some .string => match ρ x, mx with
   | .string s, none => match bnd ρ 0 lo, bnd ρ s.size hi with
    | some l, some h => slS s l h fun s => K (.string s)
    | _, _ => False
   | _, _ => False
  | some (.slice e) => match ρ x, (P.underlying e).isSome with
   | .slice a n c, true => match bnd ρ 0 lo, bnd ρ n hi, bnd ρ c mx, hi, mx with
    | some l, some h, some m, _, none => slV a c l h m (P.cellsOf e) fun a n c => K (.slice a n c)
    | some l, some h, some m, some _, some _ => slV a c l h m (P.cellsOf e) fun a n c => K (.slice a n c)
    | _, _, _, _, _ => False
   | _, _ => False
  | _ => yeI P o ρ K
 | .lookup t _ _ ok => match P.underlying t with
  | some (.map _ e) => rdT P (fun F => exT P e fun v => match ok with
    | true => ∃ b : Bool, F (.tuple #[v, .bool b])
    | false => F v) (Instr.lookup t (match o.op with | .lookup _ x _ _ => ρ x | _ => undef) (match o.op with | .lookup _ _ i _ => ρ i | _ => undef) ok) w K
  | _ => False
 | .binOp op t x y _ => match op, P.underlying t with
  | .quo, some (.int _) => match ρ x, ρ y with
   | .int k a, .int k' b => match k == k' with
    | true => nz b (K (.int k (k.wrap (a.tdiv b))))
    | false => False
   | _, _ => False
  | .rem, some (.int _) => match ρ x, ρ y with
   | .int k a, .int k' b => match k == k' with
    | true => nz b (K (.int k (a.tmod b)))
    | false => False
   | _, _ => False
  | .shl, some (.int _) => match ρ x, ρ y with
   | .int k a, .int _ b => nn b (K (.int k (k.wrap (a * 2 ^ (min b.toNat k.bits)))))
   | _, _ => False
  | .shr, some (.int _) => match ρ x, ρ y with
   | .int k a, .int _ b => nn b (K (.int k (a.fdiv (2 ^ (min b.toNat k.bits)))))
   | _, _ => False
  | .add, some .string => match ρ x, ρ y with
   | .string a, .string b => yfP a b fun s => K (.string s)
   | _, _ => False
  | .eql, some (.slice _) => match ρ y with
   | .slice none _ _ => match ρ x with
    | .slice a _ _ => K (.bool a.isNone)
    | _ => False
   | _ => False
  | .neq, some (.slice _) => match ρ y with
   | .slice none _ _ => match ρ x with
    | .slice a _ _ => K (.bool (!a.isNone))
    | _ => False
   | _ => False
  | .eql, some (.pointer _) => match ρ y with
   | .pointer none => match ρ x with
    | .pointer a => K (.bool a.isNone)
    | _ => False
   | _ => False
  | .neq, some (.pointer _) => match ρ y with
   | .pointer none => match ρ x with
    | .pointer a => K (.bool (!a.isNone))
    | _ => False
   | _ => False
  | .eql, some (.map _ _) => match ρ y with
   | .map none => match ρ x with
    | .map a => K (.bool a.isNone)
    | _ => False
   | _ => False
  | .neq, some (.map _ _) => match ρ y with
   | .map none => match ρ x with
    | .map a => K (.bool (!a.isNone))
    | _ => False
   | _ => False
  | .eql, some (.struct _) | .eql, some (.array _ _) | .eql, some (.interface _) => rdT P (fun F => ∃ b : Bool, F (.bool b)) (do eqGuard .eql t x y (ρ x) (ρ y); Go.binOp .eql t (ρ x) (ρ y)) w K
  | .neq, some (.struct _) | .neq, some (.array _ _) | .neq, some (.interface _) => rdT P (fun F => ∃ b : Bool, F (.bool b)) (do eqGuard .neq t x y (ρ x) (ρ y); Go.binOp .neq t (ρ x) (ρ y)) w K
  | _, _ => yeI P o ρ K
 | .nilCheck x => match ρ x with
  | .pointer a => ysE a fun a => K (.pointer (some a))
  | _ => yeI P o ρ K
 | .call c => match c.callee with
  | .builtin .len => match (c.argTypes[0]?).bind P.underlying with
   | some (.map _ _) => rdT P (fun F => ∃ n : Int, F (.int .i64 n)) (Builtin.len_ c.argTypes o.type (c.args.map ρ)) w K
   | _ => yeI P o ρ K
  | _ => yeI P o ρ K
 | _ => yeI P o ρ K
def yh6 (P : Program) (o : Oper) : Bool := match o.op with
 | .load _ _ | .lookup _ _ _ _ => true
 | .binOp op t _ _ _ => match op, P.underlying t with
  | .eql, some (.struct _) | .eql, some (.array _ _) | .eql, some (.interface _) | .neq, some (.struct _) | .neq, some (.array _ _) | .neq, some (.interface _) => true
  | _, _ => false
 | .call c => match c.callee with
  | .builtin .len => match (c.argTypes[0]?).bind P.underlying with
   | some (.map _ _) => true
   | _ => false
  | _ => false
 | _ => false
theorem ylW {P : Program} {o : Oper} {ρ : Operand → Value} {K : Value → Prop} (h : yeI P o ρ K) : ∃ v, K v ∧ ∀ w, (execOp ρ o).run P w = .ok (.value v) w := by
 unfold yeI at h
 split at h
 ·rename_i v hv; exact ⟨v, h, fun w => ybW hv w⟩
 ·exact h.elim
theorem ybB {P : Program} {s : Sem Value} {v : Value} {w w' : World} (h : s.run P w = .ok v w') : (do pure (Next.value (← s)) : Sem Next).run P w = .ok (.value v) w' := by
 simp [Sem.run_bind, h, Result.andThen]
theorem ysF {P : Program} {ex : (Value → Prop) → Prop} (hex : ∀ F, ex F → ∃ v, F v) {s : Sem Value} {w : World} {K : Value → Prop} (h : rdT P ex s w K) : ∃ v, K v ∧ ∀ w', Mod [] w w' → s.run P w' = .ok v w' :=
 let ⟨v, h1, h2⟩ := hex _ h
 ⟨v, h2, h1⟩
theorem yxB {s : ByteArray} {i : Nat} (h : i < s.size) : ylV s i = (s[i].toNat : Int) := by
 have : s.data.toList.getD i 0 = s[i] := by
  have h' : i < s.data.toList.length := by simpa using h
  rw [List.getD_eq_getElem?_getD, List.getElem?_eq_getElem h']; rfl
 rw [ylV, this]
theorem ydI {ρ : Operand → Value} {d l : Int} {x : Option Operand} (h : bnd ρ d x = some l) : (x = none ∧ l = d) ∨ ∃ y k, x = some y ∧ ρ y = .int k l := by
 cases x with
 | none => simp [bnd] at h; exact .inl ⟨rfl, h.symm⟩
 | some y =>
  simp only [bnd] at h
  split at h
  ·rename_i k n hy; cases h; exact .inr ⟨y, k, rfl, hy⟩
  ·cases h
theorem ya2 {P : Program} {w : World} {k : IntKind} {i : Int} {y : Nat} {code : BoundsCode} (h0 : 0 ≤ i) (h1 : i ≤ y) : (Instr.sliceBound (.int k i) y code).run P w = .ok i.toNat w := by
 simp [Instr.sliceBound, asIntOf, Sem.run_bind, Result.andThen, h0, h1]
theorem yGy {P : Program} {t : TypeId} (hu : P.underlying t = some .string) (w : World) {ρ : Operand → Value} {s : ByteArray} {lo hi : Option Operand} {l h : Int} (hl : bnd ρ 0 lo = some l) (hh : bnd ρ s.size hi = some h) (g1 : 0 ≤ l) (g2 : l ≤ h) (g3 : h ≤ s.size) :
  (Instr.sliceAt t (.string s) (lo.map ρ) (hi.map ρ) (none : Option Value)).run P w = .ok (.string (s.extract l.toNat h.toNat)) w := by
 have h0 : (0 : Int) ≤ h := by omega
 have g2' : l ≤ (h.toNat : Int) := by omega
 have g1' : l ≤ (s.size : Int) := by omega
 rcases ydI hl with ⟨rfl, rfl⟩ | ⟨x, k, rfl, hx⟩ <;> rcases ydI hh with ⟨rfl, rfl⟩ | ⟨y, k', rfl, hy⟩
 ·simp [Instr.sliceAt, Instr.slice, Instr.sliceBounds, Sem.run_bind, run_underlying hu, Result.andThen]
 ·simp [Instr.sliceAt, Instr.slice, Instr.sliceBounds, Sem.run_bind, run_underlying hu, Result.andThen, hy, ya2 h0 g3]
 ·simp [Instr.sliceAt, Instr.slice, Instr.sliceBounds, Sem.run_bind, run_underlying hu, Result.andThen, hx, ya2 g1 g1']
 ·simp [Instr.sliceAt, Instr.slice, Instr.sliceBounds, Sem.run_bind, run_underlying hu, Result.andThen, hx, hy, ya2 h0 g3, ya2 g1 g2']
theorem yz4 {P : Program} {t e : TypeId} {d : TypeDesc} (hu : P.underlying t = some (.slice e)) (hd : P.underlying e = some d) (w : World) {ρ : Operand → Value} {a : Option Addr} {n c : Nat} {lo hi mx : Option Operand} {l h m : Int}
  (hl : bnd ρ 0 lo = some l) (hh : bnd ρ n hi = some h) (hm : bnd ρ c mx = some m) (hmx : mx = none ∨ hi.isSome = true) (g1 : 0 ≤ l) (g2 : l ≤ h) (g3 : h ≤ m) (g4 : m ≤ c) :
  (Instr.sliceAt t (.slice a n c) (lo.map ρ) (hi.map ρ) (mx.map ρ)).run P w = .ok (.slice (if m = l then a else a.map (·.add (l.toNat * P.cellsOf e))) (h - l).toNat (m - l).toNat) w := by
 have m0 : (0 : Int) ≤ m := by omega
 have h0 : (0 : Int) ≤ h := by omega
 have e1 : (if m.toNat = l.toNat then a else a.map (·.add (l.toNat * P.cellsOf e))) = (if m = l then a else a.map (·.add (l.toNat * P.cellsOf e))) := by
  by_cases hml : m = l
  ·simp [hml]
  ·rw [if_neg hml, if_neg (by omega)]
 have e2 : h.toNat - l.toNat = (h - l).toNat := by omega
 have e3 : m.toNat - l.toNat = (m - l).toNat := by omega
 have k1 : h ≤ (m.toNat : Int) := by omega
 have k2 : l ≤ (h.toNat : Int) := by omega
 have k3 : h ≤ (c : Int) := by omega
 have k4 : l ≤ (n : Int) ∨ hi.isSome = true := by
  rcases ydI hh with ⟨rfl, rfl⟩ | ⟨y, k', rfl, hy⟩
  ·exact .inl g2
  ·exact .inr rfl
 rw [← e1, ← e2, ← e3]
 rcases ydI hm with ⟨rfl, rfl⟩ | ⟨z, k'', rfl, hz⟩
 ·rcases ydI hl with ⟨rfl, rfl⟩ | ⟨x, k, rfl, hx⟩ <;> rcases ydI hh with ⟨rfl, rfl⟩ | ⟨y, k', rfl, hy⟩
  ·simp [Instr.sliceAt, Instr.slice, Instr.sliceBounds, Sem.run_bind, run_underlying hu, Result.andThen, yb6 hd]
  ·simp [Instr.sliceAt, Instr.slice, Instr.sliceBounds, Sem.run_bind, run_underlying hu, Result.andThen, hy, ya2 h0 k3, yb6 hd]
  ·simp [Instr.sliceAt, Instr.slice, Instr.sliceBounds, Sem.run_bind, run_underlying hu, Result.andThen, hx, ya2 g1 g2, yb6 hd]
  ·simp [Instr.sliceAt, Instr.slice, Instr.sliceBounds, Sem.run_bind, run_underlying hu, Result.andThen, hx, hy, ya2 h0 k3, ya2 g1 k2, yb6 hd]
 ·rcases hmx with hmx | hmx
  ·cases hmx
  rcases ydI hl with ⟨rfl, rfl⟩ | ⟨x, k, rfl, hx⟩ <;> rcases ydI hh with ⟨rfl, rfl⟩ | ⟨y, k', rfl, hy⟩
  ·cases hmx
  ·simp [Instr.sliceAt, Instr.slice, Instr.sliceBounds, Sem.run_bind, run_underlying hu, Result.andThen, hy, hz, ya2 m0 g4, ya2 h0 k1, yb6 hd]
  ·cases hmx
  ·simp [Instr.sliceAt, Instr.slice, Instr.sliceBounds, Sem.run_bind, run_underlying hu, Result.andThen, hx, hy, hz, ya2 m0 g4, ya2 h0 k1, ya2 g1 k2, yb6 hd]
theorem yaX {P : Program} {op : BinOp} {t : TypeId} {x y : Operand} {a b : Value} (w : World) (ha : ∀ c, a ≠ .agg c) (hn : a ≠ .nilIface) : (eqGuard op t x y a b).run P w = .ok () w := by
 unfold eqGuard
 cases op <;> simp [Sem.run] <;> cases a <;> simp_all [Sem.run]
theorem yh7 {P : Program} {t e : TypeId} (hu : P.underlying t = some (.slice e)) (a : Option Addr) (n c n' c' d : Nat) (w : World) : (Op.equalIn (d + 1) t (.slice a n c) (.slice none n' c')).run P w = .ok a.isNone w := by
 cases a <;> simp [Op.equalIn, Sem.run_bind, run_underlying hu, Result.andThen]
theorem yfX {P : Program} {t e : TypeId} (hu : P.underlying t = some (.slice e)) (a : Option Addr) (n c n' c' : Nat) (w : World) : (Op.equal t (.slice a n c) (.slice none n' c')).run P w = .ok a.isNone w :=
 yh7 hu a n c n' c' 9999 w
theorem yj2 {P : Program} {t e : TypeId} (hu : P.underlying t = some (.pointer e)) (a : Option Addr) (d : Nat) (w : World) : (Op.equalIn (d + 1) t (.pointer a) (.pointer none)).run P w = .ok a.isNone w := by
 cases a <;> simp [Op.equalIn, Sem.run_bind, run_underlying hu, Result.andThen]
theorem yhJ {P : Program} {t e : TypeId} (hu : P.underlying t = some (.pointer e)) (a : Option Addr) (w : World) : (Op.equal t (.pointer a) (.pointer none)).run P w = .ok a.isNone w :=
 yj2 hu a 9999 w
theorem yj3 {P : Program} {t k e : TypeId} (hu : P.underlying t = some (.map k e)) (a : Option Nat) (d : Nat) (w : World) : (Op.equalIn (d + 1) t (.map a) (.map none)).run P w = .ok a.isNone w := by
 cases a <;> simp [Op.equalIn, Sem.run_bind, run_underlying hu, Result.andThen]
theorem yhK {P : Program} {t k e : TypeId} (hu : P.underlying t = some (.map k e)) (a : Option Nat) (w : World) : (Op.equal t (.map a) (.map none)).run P w = .ok a.isNone w :=
 yj3 hu a 9999 w
theorem yg0 {P : Program} {o : Oper} {ρ : Operand → Value} {w : World} {K : Value → Prop} (h : ygZ P o ρ w K) : ∃ v, K v ∧ ∀ w', (yh6 P o = true → Mod [] w w') → (execOp ρ o).run P w' = .ok (.value v) w' := by
  have pure_ : yeI P o ρ K → ∃ v, K v ∧ ∀ w', (yh6 P o = true → Mod [] w w') → (execOp ρ o).run P w' = .ok (.value v) w' := fun h =>
    let ⟨v, h1, h2⟩ := ylW h
    ⟨v, h1, fun w' _ => h2 w'⟩
  unfold ygZ at h
  split at h
  ·
    rename_i t a hop
    split at h
    · rename_i a' ha hd
      obtain ⟨v, h1, h2⟩ := ynO h hd
      refine ⟨v, h1, fun w' hm => ?_⟩
      simp only [execOp, hop, ha]
      exact ybB (h2 w' (hm (by simp [yh6, hop])))
    · exact h.elim
  ·
    rename_i t x i hop
    split at h
    · rename_i e hu
      split at h
      · rename_i a n c k i' hx hi he
        obtain ⟨a', rfl, h0, hn, h⟩ := h
        refine ⟨_, h, fun w' _ => ?_⟩
        obtain ⟨d, hd⟩ := Option.isSome_iff_exists.1 he
        simp only [execOp, hop, hx, hi]
        refine ybB ?_
        simp [Instr.indexAt, asIntOf, Sem.run_bind, run_underlying hu, Result.andThen, h0, hn, yb6 hd]
      · exact h.elim
    · exact pure_ h
  ·
    rename_i t x i hop
    split at h
    · rename_i hu
      split at h
      · rename_i s k i' hx hi
        obtain ⟨h0, hn, h⟩ := h
        refine ⟨_, h, fun w' _ => ?_⟩
        simp only [execOp, hop, hx, hi]
        refine ybB ?_
        have hn' : i'.toNat < s.size := by omega
        rw [yxB hn']
        simp [Instr.index, asIntOf, Sem.run_bind, run_underlying hu, Result.andThen, h0, getElem?_pos s i'.toNat hn']
      · exact h.elim
    · split at h
      · exact pure_ h
      · obtain ⟨v, h1, h2⟩ := ynN h
        refine ⟨v, h2, fun w' _ => ?_⟩
        simp only [execOp, hop]
        exact ybB (h1 w')
    · exact pure_ h
  ·
    rename_i t x lo hi mx hop
    split at h
    · rename_i hu
      split at h
      · rename_i s hx
        split at h
        · rename_i l hh hl hhh
          obtain ⟨g1, g2, g3, h⟩ := h
          refine ⟨_, h, fun w' _ => ?_⟩
          simp only [execOp, hop, hx]
          exact ybB (yGy hu w' hl hhh g1 g2 g3)
        · exact h.elim
      · exact h.elim
    · rename_i e hu
      split at h
      · rename_i a n c hx he
        obtain ⟨d, hd⟩ := Option.isSome_iff_exists.1 he
        split at h
        · rename_i l hh m hl hhh hm
          obtain ⟨g1, g2, g3, g4, h⟩ := h
          refine ⟨_, h, fun w' _ => ?_⟩
          simp only [execOp, hop, hx]
          exact ybB (yz4 hu hd w' hl hhh hm (.inl rfl) g1 g2 g3 g4)
        · rename_i l hh m hi' mx' hl hhh hm
          obtain ⟨g1, g2, g3, g4, h⟩ := h
          refine ⟨_, h, fun w' _ => ?_⟩
          simp only [execOp, hop, hx]
          exact ybB (yz4 hu hd w' hl hhh hm (.inr rfl) g1 g2 g3 g4)
        · exact h.elim
      · exact h.elim
    · exact pure_ h
  ·
    rename_i t x i ok hop
    split at h
    · rename_i k e hu
      have := ysF (fun F hF => by
        obtain ⟨v, hv⟩ := ynN hF
        cases ok
        · exact ⟨_, hv⟩
        · obtain ⟨b, hv⟩ := hv; exact ⟨_, hv⟩) h
      obtain ⟨v, h1, h2⟩ := this
      refine ⟨v, h1, fun w' hm => ?_⟩
      have := h2 w' (hm (by simp [yh6, hop]))
      simp only [hop] at this
      simp only [execOp, hop]
      exact ybB this
    · exact h.elim
  ·
    rename_i op t x y ty hop
    have fin : ∀ {v : Value} {w' : World}, (do eqGuard op t x y (ρ x) (ρ y); Go.binOp op t (ρ x) (ρ y) : Sem Value).run P w' = .ok v w' → (execOp ρ o).run P w' = .ok (.value v) w' := fun h => by
      simp only [execOp, hop]; exact ybB h
    split at h
    · rename_i q hu
      split at h
      · rename_i k a k' b hx hy
        split at h
        · rename_i hk
          obtain ⟨h0, h⟩ := h
          have hk : k = k' := by simpa using hk
          subst hk
          refine ⟨_, h, fun w' _ => fin ?_⟩
          rw [hx, hy]
          simp [Sem.run_bind, yaX, Result.andThen, Go.binOp, Op.intDiv, h0]
        · exact h.elim
      · exact h.elim
    · rename_i q hu
      split at h
      · rename_i k a k' b hx hy
        split at h
        · rename_i hk
          obtain ⟨h0, h⟩ := h
          have hk : k = k' := by simpa using hk
          subst hk
          refine ⟨_, h, fun w' _ => fin ?_⟩
          rw [hx, hy]
          simp [Sem.run_bind, yaX, Result.andThen, Go.binOp, Op.intDiv, h0]
        · exact h.elim
      · exact h.elim
    · rename_i q hu
      split at h
      · rename_i k a k' b hx hy
        obtain ⟨h0, h⟩ := h
        refine ⟨_, h, fun w' _ => fin ?_⟩
        rw [hx, hy]
        simp [Sem.run_bind, yaX, Result.andThen, Go.binOp, Op.shift, show ¬ b < 0 by omega]
      · exact h.elim
    · rename_i q hu
      split at h
      · rename_i k a k' b hx hy
        obtain ⟨h0, h⟩ := h
        refine ⟨_, h, fun w' _ => fin ?_⟩
        rw [hx, hy]
        simp [Sem.run_bind, yaX, Result.andThen, Go.binOp, Op.shift, show ¬ b < 0 by omega]
      · exact h.elim
    · rename_i hu
      split at h
      · rename_i a b hx hy
        obtain ⟨h0, h⟩ := h
        refine ⟨_, h, fun w' _ => fin ?_⟩
        rw [hx, hy]
        have : ¬ (IntKind.i64.max < ((a.size + b.size : Nat) : Int)) := by simp [IntKind.max, IntKind.signed, IntKind.bits]; omega
        simp only [Sem.run_bind, yaX w' (a := .string a) (by simp) (by simp), Result.andThen, Go.binOp, Op.stringOp, gt_iff_lt, if_neg this]
        rfl
      · exact h.elim
    · rename_i e hu
      split at h
      · rename_i n c hy
        split at h
        · rename_i a n' c' hx
          refine ⟨_, h, fun w' _ => fin ?_⟩
          rw [hx, hy]
          simp [Sem.run_bind, yaX, Result.andThen, Go.binOp, yfX hu]
        · exact h.elim
      · exact h.elim
    · rename_i e hu
      split at h
      · rename_i n c hy
        split at h
        · rename_i a n' c' hx
          refine ⟨_, h, fun w' _ => fin ?_⟩
          rw [hx, hy]
          simp [Sem.run_bind, yaX, Result.andThen, Go.binOp, yfX hu]
        · exact h.elim
      · exact h.elim
    · rename_i e hu
      split at h
      · rename_i hy
        split at h
        · rename_i a hx
          refine ⟨_, h, fun w' _ => fin ?_⟩
          rw [hx, hy]
          simp [Sem.run_bind, yaX, Result.andThen, Go.binOp, yhJ hu]
        · exact h.elim
      · exact h.elim
    · rename_i e hu
      split at h
      · rename_i hy
        split at h
        · rename_i a hx
          refine ⟨_, h, fun w' _ => fin ?_⟩
          rw [hx, hy]
          simp [Sem.run_bind, yaX, Result.andThen, Go.binOp, yhJ hu]
        · exact h.elim
      · exact h.elim
    · rename_i k e hu
      split at h
      · rename_i hy
        split at h
        · rename_i a hx
          refine ⟨_, h, fun w' _ => fin ?_⟩
          rw [hx, hy]
          simp [Sem.run_bind, yaX, Result.andThen, Go.binOp, yhK hu]
        · exact h.elim
      · exact h.elim
    · rename_i k e hu
      split at h
      · rename_i hy
        split at h
        · rename_i a hx
          refine ⟨_, h, fun w' _ => fin ?_⟩
          rw [hx, hy]
          simp [Sem.run_bind, yaX, Result.andThen, Go.binOp, yhK hu]
        · exact h.elim
      · exact h.elim
    all_goals first
      | exact pure_ h
      | (obtain ⟨v, h1, h2⟩ := ysF (fun F hF => let ⟨_, hF⟩ := hF; ⟨_, hF⟩) h
         exact ⟨v, h1, fun w' hm => fin (h2 w' (hm (by simp [yh6, hop, *])))⟩)
  ·
    rename_i x hop
    split at h
    · rename_i a hx
      unfold ysE at h
      split at h
      · refine ⟨_, h, fun w' _ => ?_⟩
        simp [execOp, hop, hx, Sem.run]
      · exact h.elim
    · exact pure_ h
  ·
    rename_i c hop
    split at h
    · rename_i hc
      split at h
      · rename_i k e hu
        obtain ⟨v, h1, h2⟩ := ysF (fun F hF => let ⟨_, hF⟩ := hF; ⟨_, hF⟩) h
        refine ⟨v, h1, fun w' hm => ?_⟩
        have := h2 w' (hm (by simp [yh6, hop, hc, hu]))
        simp [execOp, hop, resolve, hc, invoke, Go.builtin, Sem.run_bind, Result.andThen, this]
      · exact pure_ h
    · exact pure_ h
  · exact pure_ h
def al (w : World) (o : Obj) (F : Nat → World → Prop) : Prop := F w.heap.size (w.alloc o)
def yxC : Value → Bool
 | .agg _ | .tuple _ => false
 | _ => true
def stC (w : World) (a : Addr) : Nat → List Value → (World → Prop) → Prop
 | _, [], F => F w
 | i, v :: r, F => yxC v = true ∧ (w.cell? (a.add i)).isSome = true ∧ w.frozen? (a.add i) = false ∧ stC (w.setCell (a.add i) v) a (i + 1) r F
def st (w : World) (a : Addr) (vs : List Value) (F : World → Prop) : Prop := stC w a 0 vs F
def eff {α : Type} (P : Program) (s : Sem α) (w : World) (F : α → World → Prop) : Prop := ∃ v w', s.run P w = .ok v w' ∧ F v w'
def ycE (P : Program) (s : Sem Value) (w : World) (F : Option Addr → Nat → Nat → World → Prop) : Prop := ∃ a n c w', s.run P w = .ok (.slice a n c) w' ∧ F a n c w'
def yII (P : Program) (s : Sem Value) (w : World) (F : Int → World → Prop) : Prop := ∃ n w', s.run P w = .ok (.int .i64 n) w' ∧ F n w'
def yIJ (P : Program) (s : Sem Value) (w : World) (F : Addr → World → Prop) : Prop := ∃ a w', s.run P w = .ok (.pointer (some a)) w' ∧ F a w'
def yL7 (P : Program) (s : Sem Unit) (w : World) (F : World → Prop) : Prop := ∃ w', s.run P w = .ok () w' ∧ F w'
def yIK (P : Program) (s : Sem Value) (w : World) (F : VWP) : Prop := ∃ v w', s.run P w = .ok v w' ∧ F v w'
def yj4 {α : Type} (P : Program) : Sem α → Option (Obj × (Nat → Option α))
 | .new o k => some (o, fun r => yd3 P (k r))
 | .program k => yj4 P (k P)
 | .mark _ k => yj4 P k
 | _ => none
theorem ydW {α : Type} {P : Program} : ∀ {s : Sem α} {o : Obj} {k : Nat → Option α} {a : α} {w : World}, yj4 P s = some (o, k) → k w.heap.size = some a → s.run P w = .ok a (w.alloc o)
 | .new o' k', o, k, a, w, h, hk => by
  simp only [yj4, Option.some.injEq, Prod.mk.injEq] at h
  obtain ⟨rfl, rfl⟩ := h
  simp only [Sem.run]
  exact ybW hk _
 | .program k', _, _, _, _, h, hk => by simp only [yj4] at h; simp only [Sem.run]; exact ydW h hk
 | .mark _ k', _, _, _, _, h, hk => by simp only [yj4] at h; simp only [Sem.run]; exact ydW h hk
 | .pure _, _, _, _, _, h, _ => by cases h
 | .load .., _, _, _, _, h, _ => by cases h
 | .store .., _, _, _, _, h, _ => by cases h
 | .shape .., _, _, _, _, h, _ => by cases h
 | .freeze .., _, _, _, _, h, _ => by cases h
 | .frozen .., _, _, _, _, h, _ => by cases h
 | .getObj .., _, _, _, _, h, _ => by cases h
 | .setObj .., _, _, _, _, h, _ => by cases h
 | .choose .., _, _, _, _, h, _ => by cases h
 | .sys .., _, _, _, _, h, _ => by cases h
 | .halt .., _, _, _, _, h, _ => by cases h
def yxD (P : Program) (o : Oper) (ρ : Operand → Value) (w : World) (K : VWP) : Prop := match yj4 P (execOp ρ o) with
 | some (ob, k) => al w ob fun b w' => match k b with
  | some (.value v) => K v w'
  | _ => False
 | none => False
def yE1 (P : Program) (o : Oper) (ρ : Operand → Value) (w : World) (K : VWP) : Prop := match yd3 P (execOp ρ o) with
 | some (.enter f args) => call P f args w K
 | some (.value v) => K v w
 | _ => False
def yDC (d : Option Tmp) (i : Nat) : List Oper → Option TypeId
 | [] => none
 | o :: r => match o.op, d with
  | .extract (.tmp t) j, some d => match Nat.beq t d && Nat.beq i j with
   | true => some o.type
   | false => yDC (some d) i r
  | _, d => yDC d i r
def yGz (P : Program) (t : Option TypeId) (F : Value → Prop) : Prop := match t with
 | some t => exT P t F
 | none => ∃ v, F v
theorem yqI {P : Program} {t : Option TypeId} {F : Value → Prop} (h : yGz P t F) : ∃ v, F v := by
 cases t
 ·exact h
 ·exact ynN h
def yMf (P : Program) (it : Value) (ty : TypeId) (w : World) (F0 : World → Prop) (F1 : Value → VWP) : Prop :=
 (∃ w', (Instr.next it false ty).run P w = .ok (.tuple #[.bool false]) w' ∧ F0 w') ∨ (∃ k v w', (Instr.next it false ty).run P w = .ok (.tuple #[.bool true, k, v]) w' ∧ F1 k v w')
def yMg (P : Program) (it : Value) (ty : TypeId) (w : World) (F0 : World → Prop) (F1 : Int → Int → World → Prop) : Prop :=
 (∃ w', (Instr.next it true ty).run P w = .ok (.tuple #[.bool false]) w' ∧ F0 w') ∨ (∃ k v w', (Instr.next it true ty).run P w = .ok (.tuple #[.bool true, .int .i64 k, .int .i32 v]) w' ∧ F1 k v w')
def yIL (P : Program) (it : Value) (tk tv : Option TypeId) (w : World) (F : Value → VWP) : Prop :=
 yGz P tk fun k => yGz P tv fun v => ∃ w', (Instr.entry it).run P w = .ok (.tuple #[k, v]) w' ∧ F k v w'
def yDD (P : Program) (rest : List Oper) (o : Oper) (ρ : Operand → Value) (w : World) (K : VWP) : Prop :=
 match o.op with
 | .alloc _ | .box _ _ | .buildSlice _ _ _ | .makeMap _ _ => yxD P o ρ w K
 | .store t a x => match ρ a, (ρ x).cells.size == P.cellsOf t, (P.underlying t).isSome with
  | .pointer (some a), true, true => st w a (ρ x).cells.toList fun w' => K undef w'
  | _, _, _ => False
 | .makeSlice t l c => ycE P (Instr.makeSlice t (ρ l) (ρ c)) w fun a n c w' => K (.slice a n c) w'
 | .mapUpdate t m k x => yL7 P (Instr.mapUpdate t (ρ m) (ρ k) (ρ x)) w fun w' => K undef w'
 | .insert t m k x => yL7 P (Instr.mapUpdate t (ρ m) (ρ k) (ρ x)) w fun w' => K undef w'
 | .range t x => yIJ P (Instr.range t (ρ x)) w fun a w' => K (.pointer (some a)) w'
 | .next it isS => match isS with
  | false => yMf P (ρ it) o.type w (fun w' => K (.tuple #[.bool false]) w') fun k v w' => K (.tuple #[.bool true, k, v]) w'
  | true => yMg P (ρ it) o.type w (fun w' => K (.tuple #[.bool false]) w') fun k v w' => K (.tuple #[.bool true, .int .i64 k, .int .i32 v]) w'
 | .entry it => yIL P (ρ it) (yDC o.dst 0 rest) (yDC o.dst 1 rest) w fun k v w' => K (.tuple #[k, v]) w'
 | .convert src dst x => match P.underlying src, P.underlying dst with
  | some .string, some (.slice _) => ycE P (Go.convert src dst (ρ x)) w fun a n c w' => K (.slice a n c) w'
  | some (.slice _), some .string => ∃ s w', (Go.convert src dst (ρ x)).run P w = .ok (.string s) w' ∧ K (.string s) w'
  | _, _ => yeI P o ρ fun v => K v w
 | .call c => match c.callee with
  | .builtin .append => ycE P (Builtin.append_ c.argTypes o.type (c.args.map ρ)) w fun a n c w' => K (.slice a n c) w'
  | .builtin .copy => yII P (Builtin.copy_ c.argTypes o.type (c.args.map ρ)) w fun n w' => K (.int .i64 n) w'
  | .builtin .delete => yIK P (Builtin.delete_ c.argTypes o.type (c.args.map ρ)) w K
  | .builtin .clear => yIK P (Builtin.clear_ c.argTypes o.type (c.args.map ρ)) w K
  | .builtin _ => ygZ P o ρ w fun v => K v w
  | _ => yE1 P o ρ w K
 | _ => ygZ P o ρ w fun v => K v w
def yE2 (P : Program) (o : Oper) : Bool := match o.op with
 | .alloc _ | .box _ _ | .buildSlice _ _ _ | .makeMap _ _ | .store .. | .makeSlice .. | .mapUpdate .. | .insert .. | .range .. | .next .. | .entry _ | .go _ | .defer _ | .panic _ | .send .. | .recv .. | .select .. => false
 | .convert src dst _ => match P.underlying src, P.underlying dst with
  | some .string, _ => false
  | some (.slice _), _ => false
  | _, _ => true
 | .call c => match c.callee with
  | .builtin .append | .builtin .copy | .builtin .delete | .builtin .clear => false
  | _ => true
 | _ => true
def yz5 (P : Program) (ops : Array Oper) : Bool := ops.toList.all (yE2 P) && Region.lexB .any ops
def yjL (P : Program) (s : Sem Next) (w : World) (K : VWP) : Prop := match s.run P w with
 | .ok (.value v) w' => K v w'
 | .ok .skip w' => K undef w'
 | .ok (.enter f args) w' => Calls P f args w' fun e w'' => ∃ v, e = .returned v ∧ K v w''
 | _ => False
theorem ycX {P : Program} {s : Sem Next} {w : World} {K K' : VWP} (h : yjL P s w K) (hk : ∀ v w', K v w' → K' v w') : yjL P s w K' := by
 unfold yjL at *
 split at h
 ·exact hk _ _ h
 ·exact hk _ _ h
 ·exact h.mono fun e w'' ⟨v, h1, h2⟩ => ⟨v, h1, hk _ _ h2⟩
 ·exact h.elim
theorem yj5 {P : Program} {o : Oper} {a : Act} {w : World} {K : VWP} {Q : Exit → Act → World → Prop} {next : Act → World → Prop} (h : yjL P (execOp a.eval o) w K) (hK : ∀ v w', K v w' → next (a.put o.dst v) w') : o.wp P a w next Q := by
 unfold yjL at h
 unfold Oper.wp
 split at h
 ·rename_i v w' he; rw [he]; exact hK _ _ h
 ·rename_i w' he; rw [he]; exact hK _ _ h
 ·rename_i f args w' he
  rw [he, Oper.upon_enter]
  refine Calls.mono h fun e w'' hv => ?_
  obtain ⟨v, rfl, hk⟩ := hv
  exact hK v w'' hk
 ·exact h.elim
theorem ycF {P : Program} {s : Sem Next} {w w' : World} {v : Value} {K : VWP} (he : s.run P w = .ok (.value v) w') (h : K v w') : yjL P s w K := by unfold yjL; rw [he]; exact h
theorem yqJ {P : Program} {s : Sem Next} {w w' : World} {K : VWP} (he : s.run P w = .ok .skip w') (h : K undef w') : yjL P s w K := by unfold yjL; rw [he]; exact h
theorem yz6 {P : Program} {f : FuncId} {args : Array Value} {w : World} {K : VWP} {s : Sem Next} (h : call P f args w K) (he : s.run P w = .ok (.enter f args) w) : yjL P s w K := by
 unfold yjL
 rw [he]
 refine Calls.mono h fun e w' h => ?_
 obtain ⟨v, hv⟩ := yz2 h
 exact ⟨v, hv.1, hv.2⟩
theorem ysG {P : Program} {a : Addr} {F : World → Prop} : ∀ {vs : List Value} {i : Nat} {w : World}, stC w a i vs F → ∃ w', (storeCells a vs i).run P w = .ok () w' ∧ F w'
 | [], i, w, h => ⟨w, rfl, h⟩
 | v :: r, i, w, h => by
  obtain ⟨hl, hc, hf, h⟩ := h
  obtain ⟨u, hu⟩ := Option.isSome_iff_exists.1 hc
  obtain ⟨w', h1, h2⟩ := ysG (P := P) h
  refine ⟨w', ?_, h2⟩
  simp only [storeCells, store, Sem.run_bind]
  have : (Sem.store .plain (a.add i) v (.pure ())).run P w = .ok () (w.setCell (a.add i) v) := by
   cases v <;> simp [yxC] at hl <;> simp [Sem.run, hu, hf]
  rw [this]
  exact h1
theorem yqK {P : Program} {rest : List Oper} {o : Oper} {ρ : Operand → Value} {w : World} {K : VWP} (h : yDD P rest o ρ w K) : yjL P (execOp ρ o) w K := by
 have quiet : ygZ P o ρ w (fun v => K v w) → yjL P (execOp ρ o) w K := fun h =>
  let ⟨v, h1, h2⟩ := yg0 h
  ycF (h2 w (fun _ => Mod.refl w)) h1
 have pure_ : yeI P o ρ (fun v => K v w) → yjL P (execOp ρ o) w K := fun h =>
  let ⟨v, h1, h2⟩ := ylW h
  ycF (h2 w) h1
 have new : yxD P o ρ w K → yjL P (execOp ρ o) w K := fun h => by
  unfold yxD at h
  split at h
  ·rename_i ob k hn
   unfold al at h
   simp only at h
   split at h
   ·rename_i v hv
    exact ycF (ydW hn hv) h
   ·exact h.elim
  ·exact h.elim
 have val : ∀ {s : Sem Value} {v : Value} {w' : World}, (execOp ρ o) = (do pure (Next.value (← s)) : Sem Next) → s.run P w = .ok v w' → K v w' → yjL P (execOp ρ o) w K := fun e hr hk =>
  ycF (w' := _) (by rw [e]; simp [Sem.run_bind, hr, Result.andThen]) hk
 have unit : ∀ {s : Sem Unit} {w' : World}, (execOp ρ o) = (do s; pure Next.skip : Sem Next) → s.run P w = .ok () w' → K undef w' → yjL P (execOp ρ o) w K := fun e hr hk =>
  yqJ (w' := _) (by rw [e]; simp [Sem.run_bind, hr, Result.andThen]) hk
 unfold yDD at h
 split at h
 case h_1 => exact new h
 case h_2 => exact new h
 case h_3 => exact new h
 case h_4 => exact new h
 case h_5 t a x hop =>
  split at h
  ·rename_i a' ha hs hd
   obtain ⟨d, hd⟩ := Option.isSome_iff_exists.1 hd
   obtain ⟨w', h1, h2⟩ := ysG (P := P) h
   refine unit (s := Instr.storeAt t (ρ a) (ρ x)) (by simp [execOp, hop]) ?_ h2
   have hs' : (ρ x).cells.size = P.cellsOf t := by simpa using hs
   simp [Instr.storeAt, Instr.sureAddr, storeVar, ha, Sem.run_bind, yb6 hd, Result.andThen, hs', h1]
  ·exact h.elim
 case h_6 t l c hop =>
  obtain ⟨a, n, c', w', h1, h2⟩ := h
  exact val (s := Instr.makeSlice t (ρ l) (ρ c)) (by simp [execOp, hop]) h1 h2
 case h_7 t m k x hop =>
  obtain ⟨w', h1, h2⟩ := h
  exact unit (s := Instr.mapUpdate t (ρ m) (ρ k) (ρ x)) (by simp [execOp, hop]) h1 h2
 case h_8 t m k x hop =>
  obtain ⟨w', h1, h2⟩ := h
  exact unit (s := Instr.mapUpdate t (ρ m) (ρ k) (ρ x)) (by simp [execOp, hop]) h1 h2
 case h_9 t x hop =>
  obtain ⟨a, w', h1, h2⟩ := h
  exact val (s := Instr.range t (ρ x)) (by simp [execOp, hop]) h1 h2
 case h_10 it isS hop =>
  cases isS
  ·rcases h with ⟨w', h1, h2⟩ | ⟨k, v, w', h1, h2⟩
   ·exact val (s := Instr.next (ρ it) false o.type) (by simp [execOp, hop]) h1 h2
   ·exact val (s := Instr.next (ρ it) false o.type) (by simp [execOp, hop]) h1 h2
  ·rcases h with ⟨w', h1, h2⟩ | ⟨k, v, w', h1, h2⟩
   ·exact val (s := Instr.next (ρ it) true o.type) (by simp [execOp, hop]) h1 h2
   ·exact val (s := Instr.next (ρ it) true o.type) (by simp [execOp, hop]) h1 h2
 case h_11 it hop =>
  obtain ⟨k, h⟩ := yqI h
  obtain ⟨v, w', h1, h2⟩ := yqI h
  exact val (s := Instr.entry (ρ it)) (by simp [execOp, hop]) h1 h2
 case h_12 src dst x hop =>
  split at h
  ·obtain ⟨a, n, c, w', h1, h2⟩ := h
   exact val (s := Go.convert src dst (ρ x)) (by simp [execOp, hop]) h1 h2
  ·obtain ⟨s, w', h1, h2⟩ := h
   exact val (s := Go.convert src dst (ρ x)) (by simp [execOp, hop]) h1 h2
  ·exact pure_ h
 case h_13 c hop =>
  split at h
  ·rename_i hc
   obtain ⟨a, n, c', w', h1, h2⟩ := h
   exact val (s := Builtin.append_ c.argTypes o.type (c.args.map ρ)) (by simp [execOp, hop, resolve, hc, invoke, Go.builtin]) h1 h2
  ·rename_i hc
   obtain ⟨n, w', h1, h2⟩ := h
   exact val (s := Builtin.copy_ c.argTypes o.type (c.args.map ρ)) (by simp [execOp, hop, resolve, hc, invoke, Go.builtin]) h1 h2
  ·rename_i hc
   obtain ⟨v, w', h1, h2⟩ := h
   exact val (s := Builtin.delete_ c.argTypes o.type (c.args.map ρ)) (by simp [execOp, hop, resolve, hc, invoke, Go.builtin]) h1 h2
  ·rename_i hc
   obtain ⟨v, w', h1, h2⟩ := h
   exact val (s := Builtin.clear_ c.argTypes o.type (c.args.map ρ)) (by simp [execOp, hop, resolve, hc, invoke, Go.builtin]) h1 h2
  ·exact quiet h
  ·unfold yE1 at h
   split at h
   ·rename_i f args he
    exact yz6 h (ybW he w)
   ·rename_i v he
    exact ycF (ybW he w) h
   ·exact h.elim
 case h_14 => exact quiet h
def yc6 (P : Program) (o : Oper) : Bool := yE2 P o && match o.op with
 | .call c => match c.callee with
  | .builtin _ => true
  | _ => false
 | _ => true
def yuR (o : Oper) : Bool := match o.op with
 | .alloc _ | .box _ _ | .buildSlice _ _ _ | .makeMap _ _ => true
 | _ => false
inductive Reach (ops : Array Oper) : Nat → Nat → Prop
 | edge {i j : Nat} {o : Oper} {e : Edge} (h : ops[i]? = some o) (he : e ∈ o.after) (hb : Region.binds .any e = true) (hj : e.on = j) : Reach ops i j
 | step {i j k : Nat} {o : Oper} {e : Edge} (h : ops[i]? = some o) (he : e ∈ o.after) (hb : Region.binds .any e = true) (hj : e.on = j) (r : Reach ops j k) : Reach ops i k
def yj6 (acc : List Nat) : List Edge → Nat
 | [] => 0
 | e :: r => if Region.binds .any e then (1 <<< e.on) ||| acc.getD e.on 0 ||| yj6 acc r else yj6 acc r
def ysH (acc : List Nat) : List Oper → List Nat
 | [] => acc
 | o :: r => ysH (acc ++ [yj6 acc o.after.toList]) r
def clo (ops : Array Oper) : List Nat := ysH [] ops.toList
def yjQ (m : List Nat) (i j : Nat) : Bool := (m.getD i 0).testBit j
theorem yh8 {ops : Array Oper} {acc : List Nat} (hacc : ∀ i j, (acc.getD i 0).testBit j = true → Reach ops i j) {i : Nat} {o : Oper} (ho : ops[i]? = some o) : ∀ {l : List Edge} {j : Nat}, (∀ e ∈ l, e ∈ o.after) → (yj6 acc l).testBit j = true → Reach ops i j
 | [], j, _, h => by simp [yj6] at h
 | e :: r, j, hl, h => by
  unfold yj6 at h
  split at h
  ·rename_i hb
   simp only [Nat.testBit_or, Bool.or_eq_true] at h
   rcases h with (h | h) | h
   ·refine .edge ho (hl e (by simp)) hb ?_
    simp [Nat.one_shiftLeft, Nat.testBit_two_pow] at h
    exact h
   ·exact .step ho (hl e (by simp)) hb rfl (hacc _ _ h)
   ·exact yh8 hacc ho (fun e he => hl e (by simp [he])) h
  ·exact yh8 hacc ho (fun e he => hl e (by simp [he])) h
theorem yhL {ops : Array Oper} : ∀ {l : List Oper} {acc : List Nat}, (∀ i j, (acc.getD i 0).testBit j = true → Reach ops i j) → (∀ k, l[k]? = ops[acc.length + k]?) → ∀ i j, ((ysH acc l).getD i 0).testBit j = true → Reach ops i j
 | [], acc, h, _, i, j, hij => h i j hij
 | o :: r, acc, h, hk, i, j, hij => by
  refine yhL (l := r) (acc := acc ++ [yj6 acc o.after.toList]) ?_ ?_ i j hij
  ·intro i j hij
   by_cases hi : i < acc.length
   ·rw [List.getD_eq_getElem?_getD, List.getElem?_append_left hi, ← List.getD_eq_getElem?_getD] at hij
    exact h i j hij
   ·by_cases he : i = acc.length
    ·subst he
     have h0 := hk 0
     simp at h0
     rw [List.getD_eq_getElem?_getD, List.getElem?_append_right (Nat.le_refl _)] at hij
     simp at hij
     exact yh8 h h0.symm (fun e he => by simpa using he) hij
    ·rw [List.getD_eq_getElem?_getD, List.getElem?_append_right (by omega)] at hij
     have : i - acc.length ≠ 0 := by omega
     rw [List.getElem?_eq_none (by simp; omega)] at hij
     simp at hij
  ·intro k
   have := hk (k + 1)
   simp only [List.getElem?_cons_succ] at this
   rw [this]; simp; congr 1; omega
theorem yqL {ops : Array Oper} {i j : Nat} (h : yjQ (clo ops) i j = true) : Reach ops i j :=
 yhL (l := ops.toList) (acc := []) (by simp) (by simp) i j h
def yhM (o : Oper) (j : Nat) : Bool := o.after.toList.any fun e => Region.binds .any e && e.on == j
def yjM (P : Program) (ops : Array Oper) (m : List Nat) (x y : Nat) : Bool := match ops[x]?, ops[y]? with
 | some ox, some oy => !(yhM ox y) && (yc6 P ox || yjQ m y x) && (ox.apart ops oy || yjQ m y x)
 | _, _ => false
def ycY (P : Program) (ops : Array Oper) (m : List Nat) : List Nat → Bool
 | [] => true
 | x :: L => L.all (yjM P ops m x) && ycY P ops m L
def yDy (ops : Array Oper) (x : Nat) : Bool := match ops[x]? with
 | some o => !(yhM o x) && (o.after.all fun e => !Region.binds .any e || decide (e.on < ops.size)) && (match o.op with | .select .. => false | _ => true)
 | none => false
def yz7 (n : Nat) (L : List Nat) : Bool := L.length == n && L.all (fun x => decide (x < n)) && decide L.Nodup && (List.range n).all (fun x => L.contains x)
def yjR (ops : Array Oper) (done : Nat) (p : Oper → Bool) : Nat → List Oper → Option Nat
 | _, [] => none
 | i, o :: r => match done.testBit i with
  | true => yjR ops done p (i + 1) r
  | false => match p o && o.after.all (fun e => !Region.binds .any e || done.testBit e.on) with
   | true => some i
   | false => yjR ops done p (i + 1) r
def yz8 (P : Program) (ops : Array Oper) : Nat → Nat → List Nat
 | 0, _ => []
 | n + 1, done => match yjR ops done (yc6 P) 0 ops.toList with
  | some i => i :: yz8 P ops n (done ||| (1 <<< i))
  | none => match yjR ops done (fun _ => true) 0 ops.toList with
   | some i => i :: yz8 P ops n (done ||| (1 <<< i))
   | none => []
def yGA (P : Program) (ops : Array Oper) : List Nat := yz8 P ops ops.size 0
def yL8 (P : Program) (ops : Array Oper) (L : List Nat) : Bool := yz7 ops.size L && ycY P ops (clo ops) L && L.all (yDy ops)
def yb8 (P : Program) (ops : Array Oper) (o : Oper) (v : Value) (a : Act) (w : World) : Prop :=
 (Region.wanted o (yielded ops a.tmps) = true ∧ ∀ w', (yh6 P o = true → Mod [] w w') → (execOp a.eval o).run P w' = .ok (.value v) w') ∨
 (Region.wanted o (yielded ops a.tmps) = false ∧ v = undef)
theorem yb8.of_same {P : Program} {ops : Array Oper} {o : Oper} {v : Value} {a a' : Act} {w : World} (hy : yb8 P ops o v a w) (he : execOp a'.eval o = execOp a.eval o)
  (hw : Region.wanted o (yielded ops a'.tmps) = Region.wanted o (yielded ops a.tmps)) : yb8 P ops o v a' w := by
 unfold yb8 at *
 rw [he, hw]
 exact hy
abbrev yr8 := List (Nat × Act × Value)
def Obl (P : Program) (ops : Array Oper) (m : List Nat) (i : Nat) (Γ : yr8) (w : World) : Prop := ∀ g ∈ Γ, yjQ m i g.1 = false → ∀ o, ops[g.1]? = some o → yb8 P ops o g.2.2 g.2.1 w
def sift (m : List Nat) (i : Nat) (Γ : yr8) : yr8 := Γ.filter fun g => !yjQ m i g.1
theorem yjS {m : List Nat} {i : Nat} {Γ : yr8} {g : Nat × Act × Value} : g ∈ sift m i Γ ↔ g ∈ Γ ∧ yjQ m i g.1 = false := by simp [sift]
def ydO (P : Program) (ops : Array Oper) (m : List Nat) (Q : Act → World → Prop) : List Nat → yr8 → Act → World → Prop
 | [], _, a, w => Q a w
 | i :: L, Γ, a, w => ∃ o, ops[i]? = some o ∧ match yc6 P o with
  | true => ∃ v, yb8 P ops o v a w ∧ ydO P ops m Q L ((i, a, v) :: Γ) (a.put o.dst v) w
  | false => (Region.wanted o (yielded ops a.tmps) = true → yjL P (execOp a.eval o) w fun v w' => Obl P ops m i Γ w' ∧ ydO P ops m Q L (sift m i Γ) (a.put o.dst v) w') ∧
   (Region.wanted o (yielded ops a.tmps) = false → ydO P ops m Q L Γ (a.put o.dst undef) w)
def yzY (P : Program) (ops : Array Oper) (Γ' Γ : yr8) : Prop := ∀ g' ∈ Γ', ∃ g ∈ Γ, g.1 = g'.1 ∧ ∀ o w, ops[g.1]? = some o → yb8 P ops o g.2.2 g.2.1 w → yb8 P ops o g'.2.2 g'.2.1 w
theorem yzY.cons {P : Program} {ops : Array Oper} {Γ' Γ : yr8} (h : yzY P ops Γ' Γ) (x : Nat × Act × Value) : yzY P ops (x :: Γ') (x :: Γ) := fun g hg => by
 rcases List.mem_cons.1 hg with rfl | hg
 ·exact ⟨_, by simp, rfl, fun _ _ _ h => h⟩
 ·obtain ⟨g', h1, h2⟩ := h g hg; exact ⟨g', by simp [h1], h2⟩
theorem yzY.drop {P : Program} {ops : Array Oper} (Γ : yr8) (x : Nat × Act × Value) : yzY P ops Γ (x :: Γ) := fun g hg => ⟨g, by simp [hg], rfl, fun _ _ _ h => h⟩
theorem Obl.less {P : Program} {ops : Array Oper} {m : List Nat} {i : Nat} {Γ Γ' : yr8} {w : World} (h : Obl P ops m i Γ w) (hl : yzY P ops Γ' Γ) : Obl P ops m i Γ' w := fun g' hg' hd o ho => by
 obtain ⟨g, hg, h1, h2⟩ := hl g' hg'
 rw [← h1] at ho hd
 exact h2 o w ho (h g hg hd o ho)
theorem yzY.sift {P : Program} {ops : Array Oper} {Γ' Γ : yr8} {m : List Nat} {i : Nat} (h : yzY P ops Γ' Γ) : yzY P ops (Go.Proofs.YtjellhflalbbmaaGreat.sift m i Γ') (Go.Proofs.YtjellhflalbbmaaGreat.sift m i Γ) := fun g' hg' => by
 obtain ⟨h1, h2⟩ := yjS.1 hg'
 obtain ⟨g, h3, h4, h5⟩ := h g' h1
 exact ⟨g, yjS.2 ⟨h3, by rw [h4]; exact h2⟩, h4, h5⟩
theorem yeX {P : Program} {ops : Array Oper} {m : List Nat} {Q : Act → World → Prop} : ∀ {L : List Nat} {Γ Γ' : yr8} {a : Act} {w : World}, ydO P ops m Q L Γ a w → yzY P ops Γ' Γ → ydO P ops m Q L Γ' a w
 | [], _, _, _, _, h, _ => h
 | i :: L, Γ, Γ', a, w, h, hl => by
  obtain ⟨o, ho, h⟩ := h
  refine ⟨o, ho, ?_⟩
  split at h
  ·obtain ⟨v, h1, h2⟩ := h
   exact ⟨v, h1, yeX h2 (hl.cons _)⟩
  ·exact ⟨fun hw => ycX (h.1 hw) fun v w' ⟨h1, h2⟩ => ⟨h1.less hl, yeX h2 hl.sift⟩, fun hw => yeX (h.2 hw) hl⟩
theorem yd5 {P : Program} {ops : Array Oper} {m : List Nat} {Q : Act → World → Prop} {j : Nat} {oj : Oper} (hj : ops[j]? = some oj) (hsj : ∀ cs b, oj.op ≠ .select cs b) {L2 : List Nat} :
  ∀ {qs : List Nat} {Γ : yr8} {a : Act} {w : World}, (∀ q ∈ qs, ∃ oq, ops[q]? = some oq ∧ yc6 P oq = true ∧ oq.apart ops oj = true ∧ yjQ m j q = false ∧ ∀ cs b, oq.op ≠ .select cs b) → ydO P ops m Q (qs ++ j :: L2) Γ a w →
  match yc6 P oj with
  | true => ∃ v, yb8 P ops oj v a w ∧ ydO P ops m Q (qs ++ L2) Γ (a.put oj.dst v) w
  | false => (Region.wanted oj (yielded ops a.tmps) = true → yjL P (execOp a.eval oj) w fun v w' => Obl P ops m j Γ w' ∧ ydO P ops m Q (qs ++ L2) (sift m j Γ) (a.put oj.dst v) w') ∧
   (Region.wanted oj (yielded ops a.tmps) = false → ydO P ops m Q (qs ++ L2) Γ (a.put oj.dst undef) w)
 | [], Γ, a, w, _, h => by
  obtain ⟨o, ho, h⟩ := h
  rw [hj] at ho; cases ho
  split at h
  ·rename_i hs
   try simp only [hs]
   obtain ⟨v, h1, h2⟩ := h
   exact ⟨v, h1, yeX h2 (yzY.drop _ _)⟩
  ·rename_i hs
   try simp only [hs]
   exact h
 | q :: qs, Γ, a, w, hq, h => by
  obtain ⟨oq, hoq, hsq, hap, hd, hsel⟩ := hq q (by simp)
  obtain ⟨h1, h2, h3⟩ := Oper.apart_spec hap
  obtain ⟨o, ho, h⟩ := h
  rw [hoq] at ho; cases ho
  simp only [hsq] at h
  obtain ⟨u, hu, h⟩ := h
  have ih := yd5 hj hsj (fun q' hq' => hq q' (by simp [hq'])) h
  have comm : ∀ v, (a.put oq.dst u).put oj.dst v = (a.put oj.dst v).put oq.dst u := fun v => Act.put_comm a u v h2
  have yq : ∀ v w', yb8 P ops oq u a w' → yb8 P ops oq u (a.put oj.dst v) w' := fun v w' hy => hy.of_same (execOp_put oq hsel a oj.dst v h3) (wanted_put oq a oj.dst v h3)
  have back : ∀ Γ v w', yb8 P ops oq u a w' → ydO P ops m Q (qs ++ L2) ((q, a, u) :: Γ) ((a.put oq.dst u).put oj.dst v) w' → ydO P ops m Q (q :: (qs ++ L2)) Γ (a.put oj.dst v) w' := fun Γ v w' hy h => by
   refine ⟨oq, hoq, ?_⟩
   simp only [hsq]
   refine ⟨u, yq v w' hy, ?_⟩
   rw [comm] at h
   refine yeX h fun g' hg' => ?_
   rcases List.mem_cons.1 hg' with rfl | hg'
   ·exact ⟨_, List.mem_cons_self, rfl, fun o w'' ho hy => by
     rw [hoq] at ho; cases ho
     exact yq v w'' hy⟩
   ·exact ⟨g', by simp [hg'], rfl, fun _ _ _ h => h⟩
  split at ih
  ·rename_i hs
   try simp only [hs]
   obtain ⟨v, h4, h5⟩ := ih
   refine ⟨v, h4.of_same (execOp_put oj hsj a oq.dst u h1).symm (wanted_put oj a oq.dst u h1).symm, ?_⟩
   exact back Γ v w hu h5
  ·rename_i hs
   try simp only [hs]
   rw [wanted_put oj a oq.dst u h1, execOp_put oj hsj a oq.dst u h1] at ih
   refine ⟨fun hw => ycX (ih.1 hw) fun v w' ⟨h4, h5⟩ => ⟨h4.less (yzY.drop _ _), back _ v w' (h4 _ List.mem_cons_self hd oq hoq) (show ydO P ops m Q (qs ++ L2) ((q, a, u) :: sift m j Γ) _ _ from (show sift m j ((q, a, u) :: Γ) = (q, a, u) :: sift m j Γ by simp [sift, hd]) ▸ h5)⟩, fun hw => back Γ undef w hu (ih.2 hw)⟩
theorem yjA {ops : Array Oper} {L : List Nat} (hc : ∀ x o, x ∉ L → ops[x]? = some o → ∀ e ∈ o.after, Region.binds .any e = true → e.on ∉ L) {i k : Nat} (h : Reach ops i k) :
  (∀ o, ops[i]? = some o → ∀ e ∈ o.after, Region.binds .any e = true → e.on ∉ L) → k ∉ L := by
 induction h with
 | edge h he hb hj => intro hi; rw [← hj]; exact hi _ h _ he hb
 | step h he hb hj r ih => intro hi; exact ih (fun o ho => hc _ o (by rw [← hj]; exact hi _ h _ he hb) ho)
theorem ycN {P : Program} {ops : Array Oper} {m : List Nat} : ∀ {qs L2 : List Nat} {j : Nat}, ycY P ops m (qs ++ j :: L2) = true → ∀ q ∈ qs, yjM P ops m q j = true
 | [], _, _, _, q, hq => by cases hq
 | x :: qs, L2, j, h, q, hq => by
  simp only [List.cons_append, ycY, Bool.and_eq_true, List.all_eq_true] at h
  rcases List.mem_cons.1 hq with rfl | hq
  ·exact h.1 j (by simp)
  ·exact ycN h.2 q hq
theorem yfC {P : Program} {ops : Array Oper} {m : List Nat} : ∀ {qs L2 : List Nat} {j : Nat}, ycY P ops m (qs ++ j :: L2) = true → ycY P ops m (qs ++ L2) = true
 | [], _, _, h => by simp only [List.nil_append, ycY, Bool.and_eq_true] at h; exact h.2
 | x :: qs, L2, j, h => by
  simp only [List.cons_append, ycY, Bool.and_eq_true, List.all_eq_true] at h ⊢
  exact ⟨fun y hy => h.1 y (by simp at hy ⊢; rcases hy with hy | hy <;> simp [hy]), yfC h.2⟩
theorem yj7 {P : Program} {ops : Array Oper} {Q : Exit → Act → World → Prop} : ∀ (n : Nat) {L : List Nat} {listed : Array Bool} {a : Act} {w : World}, L.length = n → listed.size = ops.size → L.Nodup →
  (∀ i, i < ops.size → (listed.getD i true = false ↔ i ∈ L)) → (∀ i ∈ L, i < ops.size) → ycY P ops (clo ops) L = true → (∀ x ∈ L, yDy ops x = true) →
  (∀ x o, x ∉ L → ops[x]? = some o → ∀ e ∈ o.after, Region.binds .any e = true → e.on ∉ L) → ydO P ops (clo ops) (Q .normal) L [] a w → wpAny P .any ops Q n listed a w := by
 intro n
 induction n with
 | zero =>
  intro L listed a w hn hsz hnd hl hlt hp h1 hc h
  have : L = [] := List.length_eq_zero_iff.1 hn
  subst this
  refine ⟨?_, h⟩
  unfold Region.ready
  rw [List.filter_eq_nil_iff]
  intro i hi hb
  simp only [Bool.and_eq_true, Bool.not_eq_true'] at hb
  have := (hl i (by simpa using hi)).1 hb.1
  cases this
 | succ n ih =>
  intro L listed a w hn hsz hnd hl hlt hp h1 hc h
  refine ⟨fun hr => ?_, fun i hi => ?_⟩
  ·
   exfalso
   match L, hn with
   | x :: L', hn =>
    have hx := hlt x (by simp)
    obtain ⟨o, ho⟩ : ∃ o, ops[x]? = some o := ⟨ops[x], by simp [hx]⟩
    have h1x := h1 x (by simp)
    simp only [yDy, ho, Bool.and_eq_true, Bool.not_eq_true'] at h1x
    simp only [ycY, Bool.and_eq_true, List.all_eq_true] at hp
    have : x ∈ Region.ready .any ops listed := by
     unfold Region.ready
     rw [List.mem_filter]
     refine ⟨by simpa using hx, ?_⟩
     simp only [Bool.and_eq_true, Bool.not_eq_true', ho, Option.map_some, Option.getD_some]
     refine ⟨(hl x hx).2 (by simp), ?_⟩
     rw [Array.all_eq_true_iff_forall_mem]
     intro e he
     by_cases hb : Region.binds .any e = true
     ·have hlt' : e.on < ops.size := by
       have := h1x.1.2
       rw [Array.all_eq_true_iff_forall_mem] at this
       have := this e he
       simpa [hb] using this
      have hnm : e.on ∉ x :: L' := by
       intro hm
       have edge : ∀ y, e.on = y → yhM o y = true := fun y hy => by
        unfold yhM
        rw [List.any_eq_true]
        exact ⟨e, by simpa using he, by simp [hb, hy]⟩
       rcases List.mem_cons.1 hm with hm | hm
       ·rw [edge _ hm] at h1x; simp at h1x
       ·have := hp.1 _ hm
        unfold yjM at this
        rw [ho] at this
        split at this
        ·rename_i ox oy e1 e2
         cases e1
         rw [edge _ rfl] at this
         simp at this
        ·cases this
      have : listed.getD e.on true ≠ false := fun hf => hnm ((hl _ hlt').1 hf)
      have hs : e.on < listed.size := by omega
      simp only [hb, Bool.not_true, Bool.false_or]
      simp [Array.getD, hs] at this ⊢
      exact this
     ·simp [hb]
    rw [hr] at this
    cases this
  ·unfold Region.ready at hi
   rw [List.mem_filter] at hi
   obtain ⟨hi1, hi2⟩ := hi
   have hilt : i < ops.size := by simpa using hi1
   obtain ⟨o, ho⟩ : ∃ o, ops[i]? = some o := ⟨ops[i], by simp [hilt]⟩
   simp only [Bool.and_eq_true, Bool.not_eq_true', ho, Option.map_some, Option.getD_some] at hi2
   have hiL : i ∈ L := (hl i hilt).1 hi2.1
   have hedge : ∀ e ∈ o.after, Region.binds .any e = true → e.on ∉ L := fun e he hb hm => by
    have h2 := hi2.2
    rw [Array.all_eq_true_iff_forall_mem] at h2
    have h2 := h2 e he
    simp only [hb, Bool.not_true, Bool.false_or] at h2
    have hlt' := hlt _ hm
    have := (hl _ hlt').2 hm
    have hs : e.on < listed.size := by omega
    simp [Array.getD, hs] at this h2
    rw [this] at h2
    cases h2
   have nodep : ∀ q ∈ L, yjQ (clo ops) i q = false := fun q hq => by
    cases hd : yjQ (clo ops) i q with
    | false => rfl
    | true => exact absurd hq (yjA hc (yqL hd) (fun o' ho' => by rw [ho] at ho'; cases ho'; exact hedge))
   obtain ⟨qs, L2, rfl⟩ := List.append_of_mem hiL
   have hsel : ∀ x ∈ qs ++ i :: L2, ∀ o, ops[x]? = some o → ∀ cs b, o.op ≠ .select cs b := fun x hx o ho cs b e => by
    have := h1 x hx
    simp [yDy, ho, e] at this
   have hq : ∀ q ∈ qs, ∃ oq, ops[q]? = some oq ∧ yc6 P oq = true ∧ oq.apart ops o = true ∧ yjQ (clo ops) i q = false ∧ ∀ cs b, oq.op ≠ .select cs b := fun q hq => by
    have hp' := ycN hp q hq
    have hd := nodep q (by simp [hq])
    unfold yjM at hp'
    split at hp'
    ·rename_i ox oy e1 e2
     rw [ho] at e2; cases e2
     simp only [hd, Bool.or_false, Bool.and_eq_true] at hp'
     exact ⟨ox, e1, hp'.1.2, hp'.2, hd, hsel q (by simp [hq]) ox e1⟩
    ·cases hp'
   have hf := yd5 ho (hsel i (by simp) o ho) hq h
   have next : ∀ a' w', ydO P ops (clo ops) (Q .normal) (qs ++ L2) [] a' w' → wpAny P .any ops Q n (listed.setIfInBounds i true) a' w' := fun a' w' h' => by
    have hni : i ∉ qs ++ L2 := by
     intro hm
     have := List.nodup_append.1 hnd
     rcases List.mem_append.1 hm with hm | hm
     ·exact this.2.2 i hm i (by simp) rfl
     ·exact (List.nodup_cons.1 this.2.1).1 hm
    refine ih (L := qs ++ L2) (by simp at hn ⊢; omega) (by simp [hsz]) ?_ ?_ (fun x hx => hlt x (by simp at hx ⊢; rcases hx with hx | hx <;> simp [hx])) (yfC hp) (fun x hx => h1 x (by simp at hx ⊢; rcases hx with hx | hx <;> simp [hx])) ?_ h'
    ·have hsub : (qs ++ L2).Sublist (qs ++ i :: L2) := List.Sublist.append (List.Sublist.refl _) (List.sublist_cons_self _ _)
     exact hnd.sublist hsub
    ·intro k hk
     by_cases hki : k = i
     ·subst hki
      constructor
      ·intro hf; simp [Array.getD, hsz, hk] at hf
      ·intro hm; exact absurd hm hni
     ·have e1 : (listed.setIfInBounds i true).getD k true = listed.getD k true := by
       simp [Array.getD, hsz, hk, Array.getElem_setIfInBounds, Ne.symm hki]
      rw [e1, hl k hk]
      simp [hki]
    ·intro x o' hx ho' e he hb hm
     by_cases hxi : x = i
     ·subst hxi
      rw [ho] at ho'; cases ho'
      exact hedge e he hb (by simp at hm ⊢; rcases hm with hm | hm <;> simp [hm])
     ·exact hc x o' (by simp at hx ⊢; exact ⟨hx.1, hxi, hx.2⟩) ho' e he hb (by simp at hm ⊢; rcases hm with hm | hm <;> simp [hm])
   unfold wpOp
   simp only [ho]
   split at hf
   ·obtain ⟨v, hy, h'⟩ := hf
    rcases hy with ⟨hw, hr⟩ | ⟨hw, rfl⟩
    ·rw [if_pos hw]
     exact .inl (yj5 (K := fun u w' => u = v ∧ w' = w) (ycF (hr w (fun _ => Mod.refl w)) ⟨rfl, rfl⟩) fun u w' ⟨e1, e2⟩ => by subst e1; subst e2; exact next _ _ h')
    ·rw [if_neg (by rw [hw]; simp)]
     exact next _ _ h'
   ·by_cases hw : Region.wanted o (yielded ops a.tmps) = true
    ·rw [if_pos hw]
     exact .inl (yj5 (hf.1 hw) fun v w' ⟨_, h'⟩ => next _ _ h')
    ·have hw : Region.wanted o (yielded ops a.tmps) = false := by simpa using hw
     rw [if_neg (by rw [hw]; simp)]
     exact next _ _ (hf.2 hw)
theorem yqM {P : Program} (hm : P.follows .mixedOrders = true) {id : Nat} {ops : Array Oper} {Q : Exit → Act → World → Prop} {a : Act} {w : World} {L : List Nat} (hL : yL8 P ops L = true)
  (h : ∀ w1, Mod [] w w1 → ydO P ops (clo ops) (Q .normal) L [] a w1) : (Code.region id ops true).wp P Q a w := by
 simp only [yL8, yz7, Bool.and_eq_true, List.all_eq_true, decide_eq_true_eq, beq_iff_eq] at hL
 obtain ⟨⟨⟨⟨⟨h1, h2⟩, h3⟩, h6⟩, h4⟩, h5⟩ := hL
 have hmem : ∀ i, i < ops.size → i ∈ L := fun i hi => by simpa using h6 i (by simpa using hi)
 refine wp_region_any hm (yj7 ops.size h1 (by simp) h3 ?_ h2 h4 h5 ?_ (h _ (Mod.drewN w 1)))
 ·intro i hi
  simp [hi, hmem i hi]
 ·intro x o hx ho
  exact absurd (hmem x (Array.getElem?_eq_some_iff.1 ho).1) hx
def yIM (ops : Array Oper) (L : List Nat) : List Oper := L.filterMap (ops[·]?)
theorem yqN {P : Program} {o : Oper} {ρ : Operand → Value} {w : World} {K : VWP} (h : yxD P o ρ w K) : yjL P (execOp ρ o) w fun v w' => Mod [] w w' ∧ K v w' := by
 unfold yxD at h
 split at h
 ·rename_i ob k hn
  unfold al at h
  simp only at h
  split at h
  ·rename_i v hv
   exact ycF (ydW hn hv) ⟨Mod.of_below ((Below.refl _ _).alloc (Nat.le_refl _) _), h⟩
  ·exact h.elim
 ·exact h.elim
abbrev Kx := Exit → Fr → World → Prop
def sub : Code → List Nat → Code
 | c, [] => c
 | .seq a _, 0 :: p => sub a p
 | .seq _ b, _ :: p => sub b p
 | .cond _ a _, 0 :: p => sub a p
 | .cond _ _ b, _ :: p => sub b p
 | .block _ c, _ :: p => sub c p
 | .loop c, _ :: p => sub c p
 | c, _ => c
def code (f : Func) : Code := f.body.getD .skip
def yMh (P : Program) : List ResultVar → Fr → World → (List Value → Prop) → Prop
 | [], _, _, F => F []
 | .tmp t :: r, fr, w, F => yMh P r fr w fun vs => F (fr.getD t undef :: vs)
 | .cell a t :: r, fr, w, F => match fr.getD a undef, (P.underlying t).isSome with
  | .pointer (some a), true => ldT P t w a fun v => yMh P r fr w fun vs => F (v :: vs)
  | _, _ => False
def post (P : Program) (fn : Func) (R : VWP) : Kx
 | .normal, fr, w | .ret, fr, w => yMh P fn.results.toList fr w fun vs => match vs with
  | [v] => R v w
  | vs => R (.tuple ⟨vs⟩) w
 | _, _, _ => False
theorem least {p : Nat → Prop} (h : ∃ m, p m) : ∃ m, p m ∧ ∀ k, p k → m ≤ k := by
 obtain ⟨m, hm⟩ := h
 induction m using Nat.strongRecOn with
 | _ m ih =>
  by_cases hk : ∃ k, k < m ∧ p k
  ·obtain ⟨k, h1, h2⟩ := hk; exact ih k h1 h2
  ·exact ⟨m, hm, fun k h => by
    rcases Nat.lt_or_ge k m with h1 | h1
    ·exact absurd ⟨k, h1, h⟩ hk
    ·exact h1⟩
def yj8 (tmps : Array Value) : ResultVar → Sem Value
 | .tmp t => pure (tmps.getD t undef)
 | .cell a t => do loadVar t (← asAddr (tmps.getD a undef))
theorem yxE (fn : Func) (tmps : Array Value) : results fn tmps = (do
  let vs ← fn.results.mapM (yj8 tmps)
  pure (if h : vs.size = 1 then vs[0] else .tuple vs)) := by
 unfold results
 congr 1
theorem _root_.Go.Proofs.Tryz.wide_mixed : Tryz.prog.follows .mixedOrders = true := by kernel_rfl
def yh9 (k : IntKind) (x y : Int) : Int := k.wrap (BitVec.ofInt k.bits x &&& BitVec.ofInt k.bits y).toNat
def bOr (k : IntKind) (x y : Int) : Int := k.wrap (BitVec.ofInt k.bits x ||| BitVec.ofInt k.bits y).toNat
def yfB (k : IntKind) (x y : Int) : Int := k.wrap (BitVec.ofInt k.bits x ^^^ BitVec.ofInt k.bits y).toNat
end Go.Proofs.YtjellhflalbbmaaGreat
namespace Go.Proofs.YtjellhflalbbmaaGreat
open Go.RowKit Go.Maps Go.MapKept
open Go.ChangeMaps (setBlock)
section
set_option linter.unusedSectionVars false
variable {κ β : Type} [DecidableEq κ]
def lkp (L : List (κ × β)) (k : κ) : Option β := match L with
 | [] => none
 | p :: r => if p.1 = k then some p.2 else lkp r k
def put (L : List (κ × β)) (k : κ) (v : β) : List (κ × β) := match L with
 | [] => [(k, v)]
 | p :: r => if p.1 = k then (k, v) :: r else p :: put r k v
def del (L : List (κ × β)) (k : κ) : List (κ × β) := match L with
 | [] => []
 | p :: r => if p.1 = k then r else p :: del r k
def ycV (P : Program) (t : TypeId) (ek : κ → Value) (ev : β → Value) (w : World) (b : Nat) (L : List (κ × β)) : Prop :=
 ∃ es clock, w.heap[b]? = some (.map es clock) ∧ es.toList.map (fun e => (e.key, e.val)) = L.map (fun p => (ek p.1, ev p.2)) ∧
  (∀ p ∈ L, ∃ l, keyOf P t (ek p.1) = some l) ∧ Stamped es clock
variable {P : Program} {t : TypeId} {ek : κ → Value} {ev : β → Value} {w w' : World} {b : Nat} {L : List (κ × β)}
theorem ycV.lt (h : ycV P t ek ev w b L) : b < w.heap.size := by
 obtain ⟨es, clock, hb, _⟩ := h
 exact (Array.getElem?_eq_some_iff.1 hb).1
theorem ycV.of_block (h : ycV P t ek ev w b L) (e : w'.heap[b]? = w.heap[b]?) : ycV P t ek ev w' b L := by
 obtain ⟨es, clock, hb, r⟩ := h
 exact ⟨es, clock, e.trans hb, r⟩
theorem ycV.of_new (h : w.heap[b]? = some (.map #[] 0)) : ycV P t ek ev w b [] := ⟨#[], 0, h, by simp, by simp, stamped_empty 0⟩
theorem ylX {L : List (κ × β)} {k : κ} {v : β} (hn : (L.map (·.1)).Nodup) (h : (k, v) ∈ L) : lkp L k = some v := by
 induction L with
 | nil => cases h
 | cons p r ih =>
  simp only [List.map_cons, List.nodup_cons] at hn
  rcases List.mem_cons.1 h with rfl | h
  ·simp [lkp]
  ·have : p.1 ≠ k := fun e => hn.1 (by rw [e]; exact List.mem_map.2 ⟨_, h, rfl⟩)
   simp [lkp, this, ih hn.2 h]
theorem ynP {L : List (κ × β)} {k : κ} : lkp L k = none ↔ ∀ p ∈ L, p.1 ≠ k := by
 induction L with
 | nil => simp [lkp]
 | cons p r ih =>
  by_cases h : p.1 = k
  ·simp [lkp, h]
  ·simp [lkp, h, ih]
theorem yxF {L : List (κ × β)} {k : κ} {v : β} (h : lkp L k = some v) : (k, v) ∈ L := by
 induction L with
 | nil => cases h
 | cons p r ih =>
  by_cases hp : p.1 = k
  ·simp [lkp, hp] at h; subst h; subst hp; simp
  ·simp [lkp, hp] at h; simp [ih h]
theorem ycV.nodup (h : ycV P t ek ev w b L) : (L.map (·.1)).Nodup := by
 obtain ⟨es, clock, hb, he, hk, hs⟩ := h
 have := ((stamped_iff es clock).1 hs).2.2
 have h2 : (es.toList.map (·.key)).Pairwise (· ≠ ·) := List.pairwise_map.2 this
 have e1 : es.toList.map (·.key) = (es.toList.map (fun e => (e.key, e.val))).map (·.1) := by simp
 rw [e1, he] at h2
 simp only [List.map_map] at h2
 rw [List.pairwise_map] at h2
 unfold List.Nodup
 rw [List.pairwise_map]
 exact h2.imp (fun h e => h (by simp [e]))
theorem ycV.find (K : Keyed P t) (hi : ∀ a b, ek a = ek b → a = b) (h : ycV P t ek ev w b L) {es : Array MapEntry} {clock : Nat} (hb : w.heap[b]? = some (.map es clock)) {k : κ} {l : Lit} (hk : keyOf P t (ek k) = some l) (w0 : World) :
  (lkp L k = none ∧ (Instr.findKey t (ek k) es.toList).run P w0 = .ok none w0) ∨
  ∃ j v, lkp L k = some v ∧ L[j]? = some (k, v) ∧ (Instr.findKey t (ek k) es.toList).run P w0 = .ok (some (j, ev v)) w0 := by
 obtain ⟨es', clock', hb', he, hkk, hs⟩ := id h
 rw [hb] at hb'; cases hb'
 have hn := h.nodup
 have hes : ∀ e ∈ es.toList, ∃ l, keyOf P t e.key = some l := fun e hm => by
  have : (e.key, e.val) ∈ L.map (fun p => (ek p.1, ev p.2)) := he ▸ List.mem_map.2 ⟨e, hm, rfl⟩
  obtain ⟨p, hp, e2⟩ := List.mem_map.1 this
  simp only [Prod.mk.injEq] at e2
  rw [← e2.1]; exact hkk p hp
 rcases K.find w0 hk es.toList hes with ⟨h1, h2⟩ | ⟨j, e, h1, h2, h3⟩
 ·refine .inl ⟨?_, h1⟩
  rw [ynP]
  intro p hp ek'
  have : (ek p.1, ev p.2) ∈ es.toList.map (fun e => (e.key, e.val)) := he ▸ List.mem_map.2 ⟨p, hp, rfl⟩
  obtain ⟨e, hm, e2⟩ := List.mem_map.1 this
  simp only [Prod.mk.injEq] at e2
  exact h2 e hm (by rw [e2.1, ek'])
 ·have g : (es.toList.map (fun e => (e.key, e.val)))[j]? = some (e.key, e.val) := by simp [h2]
  rw [he, List.getElem?_map, Option.map_eq_some_iff] at g
  obtain ⟨p, hp, e2⟩ := g
  simp only [Prod.mk.injEq] at e2
  have hpk : p.1 = k := hi _ _ (by rw [e2.1, h3])
  have hp' : p = (k, p.2) := by rw [← hpk]
  refine .inr ⟨j, p.2, ylX hn (by rw [← hp']; exact List.mem_of_getElem? hp), by rw [← hp']; exact hp, by rw [h1, e2.2]⟩
theorem yfD {L : List (κ × β)} {k : κ} {v : β} (h : lkp L k = none) : put L k v = L ++ [(k, v)] := by
 induction L with
 | nil => rfl
 | cons p r ih =>
  by_cases hp : p.1 = k
  ·simp [lkp, hp] at h
  ·simp [lkp, hp] at h; simp [put, hp, ih h]
theorem yqO {L : List (κ × β)} {k : κ} {v x : β} {j : Nat} (hn : (L.map (·.1)).Nodup) (h : L[j]? = some (k, x)) : put L k v = L.set j (k, v) := by
 induction L generalizing j with
 | nil => cases h
 | cons p r ih =>
  simp only [List.map_cons, List.nodup_cons] at hn
  cases j with
  | zero => simp at h; subst h; simp [put]
  | succ j =>
   have hm : (k, x) ∈ r := List.mem_of_getElem? (by simpa using h)
   have : p.1 ≠ k := fun e => hn.1 (by rw [e]; exact List.mem_map.2 ⟨_, hm, rfl⟩)
   simp [put, this, ih hn.2 (by simpa using h)]
theorem yg1 {L : List (κ × β)} {k : κ} (h : lkp L k = none) : del L k = L := by
 induction L with
 | nil => rfl
 | cons p r ih =>
  by_cases hp : p.1 = k
  ·simp [lkp, hp] at h
  ·simp [lkp, hp] at h; simp [del, hp, ih h]
theorem yqP {L : List (κ × β)} {k : κ} {x : β} {j : Nat} (hn : (L.map (·.1)).Nodup) (h : L[j]? = some (k, x)) : del L k = L.eraseIdx j := by
 induction L generalizing j with
 | nil => cases h
 | cons p r ih =>
  simp only [List.map_cons, List.nodup_cons] at hn
  cases j with
  | zero => simp at h; subst h; simp [del]
  | succ j =>
   have hm : (k, x) ∈ r := List.mem_of_getElem? (by simpa using h)
   have : p.1 ≠ k := fun e => hn.1 (by rw [e]; exact List.mem_map.2 ⟨_, hm, rfl⟩)
   simp [del, this, ih hn.2 (by simpa using h)]
theorem yxG {es : Array MapEntry} {j : Nat} {e : MapEntry} {kv vv : Value} (h : es[j]? = some e) :
  (es.modify j (fun e => { e with key := kv, val := vv })).toList.map (fun e => (e.key, e.val)) = (es.toList.map (fun e => (e.key, e.val))).set j (kv, vv) := by
 apply List.ext_getElem?
 intro i
 simp only [Array.toList_modify, List.getElem?_map, List.getElem?_modify, List.getElem?_set, List.length_map, Array.length_toList]
 by_cases hij : j = i
 ·subst hij
  obtain ⟨hl, _⟩ := Array.getElem?_eq_some_iff.1 h
  simp [hl]
 ·simp [hij]
theorem ycV.look {T e : TypeId} (c : Bool) (h : ycV P t ek ev w b L) (K : Keyed P t) (hi : ∀ a b, ek a = ek b → a = b) (ht : P.underlying T = some (.map t e)) {z : Value} (hz : (zeroValue e).run P w = .ok z w) {k : κ} {l : Lit} (hk : keyOf P t (ek k) = some l) :
  (Instr.lookup T (.map (some b)) (ek k) c).run P w = .ok (if c then .tuple #[(lkp L k).elim z ev, .bool (lkp L k).isSome] else (lkp L k).elim z ev) w := by
 obtain ⟨es, clock, hb, _⟩ := id h
 rcases h.find K hi hb hk w with ⟨h1, h2⟩ | ⟨j, v, h1, _, h2⟩
 ·simp [Instr.lookup, run_underlying ht, MapKept.run_getObj_map hb, K.check w _ hk, h2, hz, Result.andThen, h1]
 ·simp [Instr.lookup, run_underlying ht, MapKept.run_getObj_map hb, K.check w _ hk, h2, Result.andThen, h1]
theorem yfE {o o' : Obj} (hb : w.heap[b]? = some o) : (setBlock w b o').heap[b]? = some o' := by
 obtain ⟨h, _⟩ := Array.getElem?_eq_some_iff.1 hb
 simp [setBlock, h]
theorem ylK {o' : Obj} {i : Nat} (h : i ≠ b) : (setBlock w b o').heap[i]? = w.heap[i]? := by
 simp [setBlock, Array.getElem?_setIfInBounds, Ne.symm h]
theorem ynQ {o' : Obj} : (setBlock w b o').heap.size = w.heap.size := by simp [setBlock]
theorem ycV.update {T e : TypeId} (h : ycV P t ek ev w b L) (K : Keyed P t) (hi : ∀ a b, ek a = ek b → a = b) (ht : P.underlying T = some (.map t e)) {k : κ} (v : β) {l : Lit} (hk : keyOf P t (ek k) = some l) :
  ∃ o, (Instr.mapUpdate T (.map (some b)) (ek k) (ev v)).run P w = .ok () (setBlock w b o) ∧ ycV P t ek ev (setBlock w b o) b (put L k v) := by
 have hn := h.nodup
 obtain ⟨es, clock, hb, he, hkk, hs⟩ := id h
 rcases h.find K hi hb hk w with ⟨h1, h2⟩ | ⟨j, x, h1, hj, h2⟩
 ·refine ⟨.map (es.push { key := ek k, val := ev v, born := clock }) (clock + 1), ?_, _, _, yfE hb, ?_, ?_, ?_⟩
  ·simp [Instr.mapUpdate, run_underlying ht, MapKept.run_getObj_map hb, K.check w _ hk, h2, Result.andThen, MapKept.run_setObj_map _ hb, setBlock]
  ·rw [yfD h1]; simp [he]
  ·rw [yfD h1]; intro p hp
   rcases List.mem_append.1 hp with hp | hp
   ·exact hkk p hp
   ·simp at hp; subst hp; exact ⟨l, hk⟩
  ·refine stamped_push hs (fun x hx e => ?_)
   have : (x.key, x.val) ∈ L.map (fun p => (ek p.1, ev p.2)) := he ▸ List.mem_map.2 ⟨x, hx, rfl⟩
   obtain ⟨p, hp, e2⟩ := List.mem_map.1 this
   simp only [Prod.mk.injEq] at e2
   exact ynP.1 h1 p hp (hi _ _ (by rw [e2.1, e]))
 ·have g : (es.toList.map (fun e => (e.key, e.val)))[j]? = some (ek k, ev x) := by rw [he, List.getElem?_map, hj]; rfl
  rw [List.getElem?_map, Option.map_eq_some_iff] at g
  obtain ⟨e0, he0, e2⟩ := g
  simp only [Prod.mk.injEq] at e2
  have he1 : es[j]? = some e0 := by rw [← Array.getElem?_toList]; exact he0
  refine ⟨.map (es.modify j fun e => { e with key := ek k, val := ev v }) clock, ?_, _, _, yfE hb, ?_, ?_, ?_⟩
  ·simp [Instr.mapUpdate, run_underlying ht, MapKept.run_getObj_map hb, K.check w _ hk, h2, Result.andThen, MapKept.run_setObj_map _ hb, setBlock, he1, e2.1, K.stays w hk]
  ·rw [yqO hn hj, yxG he1, he, List.map_set]
  ·rw [yqO hn hj]; intro p hp
   rcases List.mem_or_eq_of_mem_set hp with hp | rfl
   ·exact hkk p hp
   ·exact ⟨l, hk⟩
  ·exact stamped_modify hs _ _ (fun _ _ => rfl) (fun e' _ he' => by rw [he1] at he'; cases he'; exact e2.1.symm)
theorem ycV.delete {T e : TypeId} (h : ycV P t ek ev w b L) (K : Keyed P t) (hi : ∀ a b, ek a = ek b → a = b) (ht : P.underlying T = some (.map t e)) {k : κ} {l : Lit} (hk : keyOf P t (ek k) = some l) (ty : TypeId) :
  ∃ o, (Builtin.delete_ #[T, t] ty #[.map (some b), ek k]).run P w = .ok (.tuple #[]) (setBlock w b o) ∧ ycV P t ek ev (setBlock w b o) b (del L k) := by
 have hn := h.nodup
 obtain ⟨es, clock, hb, he, hkk, hs⟩ := id h
 rcases h.find K hi hb hk w with ⟨h1, h2⟩ | ⟨j, x, h1, hj, h2⟩
 ·refine ⟨.map es clock, ?_, _, _, yfE hb, ?_, ?_, hs⟩
  ·simp [Builtin.delete_, run_underlying ht, MapKept.run_getObj_map hb, K.check w _ hk, h2, Result.andThen, MapKept.run_setObj_map _ hb, setBlock]
  ·rw [yg1 h1, he]
  ·rw [yg1 h1]; exact hkk
 ·refine ⟨.map (es.eraseIdxIfInBounds j) clock, ?_, _, _, yfE hb, ?_, ?_, stamped_erase hs j⟩
  ·simp [Builtin.delete_, run_underlying ht, MapKept.run_getObj_map hb, K.check w _ hk, h2, Result.andThen, MapKept.run_setObj_map _ hb, setBlock]
  ·have hl : j < es.size := by
    have := (List.getElem?_eq_some_iff.1 hj).1
    have e3 := congrArg List.length he
    simp at e3; omega
   rw [yqP hn hj, Go.ChangeMaps.map_eraseIdx, ← he, ← Go.ChangeMaps.map_eraseIdx]
   simp [Array.eraseIdxIfInBounds, hl]
  ·rw [yqP hn hj]; exact fun p hp => hkk p (List.mem_of_mem_eraseIdx hp)
theorem ycV.len {T e : TypeId} (h : ycV P t ek ev w b L) (ht : P.underlying T = some (.map t e)) (ty : TypeId) : (Builtin.len_ #[T] ty #[.map (some b)]).run P w = .ok (.int .i64 L.length) w := by
 obtain ⟨es, clock, hb, he, _⟩ := h
 have e3 := congrArg List.length he
 simp at e3
 simp [Builtin.len_, run_underlying ht, MapKept.run_getObj_map hb, Result.andThen, goInt, e3]
end
end Go.Proofs.YtjellhflalbbmaaGreat
namespace Go.Proofs.YtjellhflalbbmaaGreat
open Go Go.RowKit
set_option linter.all false
theorem yaY {w : World} {b i : Nat} {c : Array Value} {T : TypeId} {z : Nat × Nat} (h : w.heap[b]? = some (.cells c T z)) : w.cell? ⟨b, i, none⟩ = c[i]? := by
 simp [World.cell?, h]
theorem yqQ {w : World} {b i : Nat} {c : Array Value} {T : TypeId} (h : w.heap[b]? = some (.cells c T)) : w.frozen? ⟨b, i, none⟩ = false := by
 simp [World.frozen?, h]
theorem yaB {k : IntKind} {w : World} {a : Addr} {x : Int} {F : Int → Prop} (h : w.cell? a = some (.int k x)) (hF : F x) : yaF k w a F := by
 unfold yaF; rw [h]; exact ⟨rfl, hF⟩
theorem yaP {w : World} {a : Addr} {x : Bool} {F : Bool → Prop} (h : w.cell? a = some (.bool x)) (hF : F x) : ya1 w a F := by
 unfold ya1; rw [h]; exact hF
theorem yaI {w : World} {a : Addr} {x : ByteArray} {F : ByteArray → Prop} (h : w.cell? a = some (.string x)) (hF : F x) : yaT w a F := by
 unfold yaT; rw [h]; exact hF
theorem yhN {w : World} {a : Addr} {x : Option Addr} {F : Option Addr → Prop} (h : w.cell? a = some (.pointer x)) (hF : F x) : yxA w a F := by
 unfold yxA; rw [h]; exact hF
theorem ya5 {w : World} {a : Addr} {x : Option Addr} {n c : Nat} {F : Option Addr → Nat → Nat → Prop} (h : w.cell? a = some (.slice x n c)) (hF : F x n c) : yaS w a F := by
 unfold yaS; rw [h]; exact hF
theorem ygD {k : IntKind} {w : World} {b i : Nat} {c : Array Value} {T : TypeId} {z : Nat × Nat} {x : Int} {F : Int → Prop} (h : w.heap[b]? = some (.cells c T z)) (hc : c[i]? = some (.int k x)) (hF : F x) : yaF k w ⟨b, i, none⟩ F :=
 yaB ((yaY h).trans hc) hF
theorem yj9 {w : World} {b i : Nat} {c : Array Value} {T : TypeId} {z : Nat × Nat} {x : Bool} {F : Bool → Prop} (h : w.heap[b]? = some (.cells c T z)) (hc : c[i]? = some (.bool x)) (hF : F x) : ya1 w ⟨b, i, none⟩ F :=
 yaP ((yaY h).trans hc) hF
theorem yDE {w : World} {b i : Nat} {c : Array Value} {T : TypeId} {z : Nat × Nat} {x : ByteArray} {F : ByteArray → Prop} (h : w.heap[b]? = some (.cells c T z)) (hc : c[i]? = some (.string x)) (hF : F x) : yaT w ⟨b, i, none⟩ F :=
 yaI ((yaY h).trans hc) hF
theorem yc8 {w : World} {b i : Nat} {c : Array Value} {T : TypeId} {z : Nat × Nat} {x : Option Addr} {n q : Nat} {F : Option Addr → Nat → Nat → Prop} (h : w.heap[b]? = some (.cells c T z)) (hc : c[i]? = some (.slice x n q)) (hF : F x n q) : yaS w ⟨b, i, none⟩ F :=
 ya5 ((yaY h).trans hc) hF
theorem ycR {w : World} {o : Obj} {F : Nat → World → Prop} (h : ∀ b w', w'.heap[b]? = some o → Mod [] w w' → w.heap.size ≤ b → F b w') : al w o F :=
 h _ _ (MapKept.heap_alloc w o).1 (Mod.of_below ((Below.refl _ _).alloc (Nat.le_refl _) _)) (Nat.le_refl _)
theorem yjB {w : World} {b i : Nat} {c : Array Value} {T : TypeId} {z : Nat × Nat} {v : Value} (h : w.heap[b]? = some (.cells c T z)) : (w.setCell ⟨b, i, none⟩ v).heap[b]? = some (.cells (c.setIfInBounds i v) T z) := by
 simp [World.setCell, Array.getElem?_modify, h]
theorem ysI (w : World) (a : Addr) (v : Value) : Mod [a.block] w (w.setCell a v) :=
 ⟨rfl, rfl, rfl, by simp [World.setCell], fun k hk hS => Below.heap_setCell w a v k (by simpa using hS)⟩
def ybX (c : Array Value) (i : Nat) : List Value → Array Value
 | [] => c
 | v :: r => ybX (c.setIfInBounds i v) (i + 1) r
theorem yjC : ∀ (vs : List Value) (c : Array Value) (i : Nat), (ybX c i vs).size = c.size
 | [], _, _ => rfl
 | v :: r, c, i => by simp [ybX, yjC r]
theorem yE3 {w : World} {b o : Nat} {T : TypeId} {F : World → Prop} : ∀ {vs : List Value} {i : Nat} {c : Array Value} {w0 : World}, w0.heap[b]? = some (.cells c T) → vs.all yxC = true → o + i + vs.length ≤ c.size →
  Mod [b] w w0 → (∀ w', w'.heap[b]? = some (.cells (ybX c (o + i) vs) T) → Mod [b] w w' → F w') → stC w0 ⟨b, o, none⟩ i vs F
 | [], i, c, w0, h, _, _, hm, hF => hF w0 h hm
 | v :: r, i, c, w0, h, hl, hs, hm, hF => by
  have ha : (⟨b, o, none⟩ : Addr).add i = ⟨b, o + i, none⟩ := by
   unfold Addr.add; split
   ·rename_i h0; subst h0; rfl
   ·rfl
  simp only [List.all_cons, Bool.and_eq_true] at hl
  simp only [List.length_cons] at hs
  refine ⟨hl.1, ?_, ?_, ?_⟩
  ·rw [ha, yaY h]; simp; omega
  ·rw [ha, yqQ h]
  ·rw [ha]
   refine yE3 (w := w) (c := c.setIfInBounds (o + i) v) (i := i + 1) (yjB h) hl.2 (by simp; omega) ?_ ?_
   ·exact (hm.trans (ysI w0 _ v)).less (fun k hk _ => by simpa using hk)
   ·intro w' h1 h2; exact hF w' (by simpa [ybX, Nat.add_assoc] using h1) h2
theorem ydX {w : World} {b o : Nat} {c : Array Value} {T : TypeId} {vs : List Value} {F : World → Prop} (h : w.heap[b]? = some (.cells c T)) (hl : vs.all yxC = true) (hs : o + vs.length ≤ c.size)
  (hF : ∀ w', w'.heap[b]? = some (.cells (ybX c o vs) T) → Mod [b] w w' → F w') : st w ⟨b, o, none⟩ vs F :=
 yE3 (i := 0) h hl (by omega) ((Mod.refl w).less (by simp)) (by simpa using hF)
def ycD {α : Type} (w : World) (sz : Nat) (enc : α → List Value) (a : Option Addr) (n : Nat) (l : List α) : Prop :=
 n = l.length ∧ ∀ i x, l[i]? = some x → ∃ ad, a = some ad ∧ ∀ j v, (enc x)[j]? = some v → w.cell? ((ad.add (i * sz)).add j) = some v
theorem ycD.keep {α : Type} {w w' : World} {sz : Nat} {enc : α → List Value} {a : Option Addr} {n : Nat} {l : List α} {S : List Nat} (h : ycD w sz enc a n l) (hm : Mod S w w') (hS : ∀ ad, a = some ad → ad.block ∉ S) : ycD w' sz enc a n l :=
 ⟨h.1, fun i x hx => by
  obtain ⟨ad, ha, hc⟩ := h.2 i x hx
  refine ⟨ad, ha, fun j v hv => ?_⟩
  have h1 := hc j v hv
  have hb := yhG h1
  have e : ((ad.add (i * sz)).add j).block = ad.block := by simp only [Addr.add]; split <;> split <;> rfl
  rw [hm.cell hb (by rw [e]; exact hS ad ha)]
  exact h1⟩
theorem ycD.keep0 {α : Type} {w w' : World} {sz : Nat} {enc : α → List Value} {a : Option Addr} {n : Nat} {l : List α} (h : ycD w sz enc a n l) (hm : Mod [] w w') : ycD w' sz enc a n l := h.keep hm (by simp)
theorem add_zero (a : Addr) : a.add 0 = a := by simp [Addr.add]
theorem ycD.ix {α : Type} {w : World} {sz : Nat} {enc : α → List Value} {a : Option Addr} {n : Nat} {l : List α} {i : Nat} {x : α} {F : Addr → Prop} (h : ycD w sz enc a n l) (hx : l[i]? = some x)
  (hF : ∀ q, (∀ j v, (enc x)[j]? = some v → w.cell? (q.add j) = some v) → F q) : ixA a n (i : Int) sz F := by
 obtain ⟨ad, ha, hc⟩ := h.2 i x hx
 have hl := (List.getElem?_eq_some_iff.1 hx).1
 exact ⟨ad, ha, by omega, by rw [h.1]; omega, hF _ (by simpa using hc)⟩
def Row {α : Type} (w : World) (base T sz : Nat) (enc : α → List Value) (a : Option Addr) (n c : Nat) (l : List α) : Prop :=
 n = l.length ∧ w.ownsRow base T sz (.slice a n c) n (l.flatMap enc)
theorem yd6 {α : Type} {enc : α → List Value} {sz : Nat} (hs : ∀ x, (enc x).length = sz) : ∀ (l : List α) (i j : Nat) (x : α), l[i]? = some x → j < sz → (l.flatMap enc)[i * sz + j]? = (enc x)[j]?
 | [], i, j, x, h, _ => by simp at h
 | y :: r, 0, j, x, h, hj => by
  simp at h; subst h
  rw [List.flatMap_cons, Nat.zero_mul, Nat.zero_add, List.getElem?_append_left (by rw [hs]; exact hj)]
 | y :: r, i + 1, j, x, h, hj => by
  rw [List.flatMap_cons, List.getElem?_append_right (by rw [hs, Nat.add_mul]; omega), hs]
  rw [show (i + 1) * sz + j - sz = i * sz + j by rw [Nat.add_mul]; omega]
  exact yd6 hs r i j x (by simpa using h) hj
theorem Row.sl {α : Type} {w : World} {base T sz : Nat} {enc : α → List Value} {a : Option Addr} {n c : Nat} {l : List α} (h : Row w base T sz enc a n c l) (hs : ∀ x, (enc x).length = sz) : ycD w sz enc a n l := by
 obtain ⟨hn, hl, ho⟩ := h
 refine ⟨hn, fun i x hx => ?_⟩
 have hil := (List.getElem?_eq_some_iff.1 hx).1
 rcases ho with ⟨_, h0⟩ | ⟨g, cap, cur, hv, _, hh, _, _, hc, ht⟩
 ·omega
 ·simp only [Value.slice.injEq] at hv
  refine ⟨_, hv.1, fun j v hv' => ?_⟩
  have hj : j < sz := by rw [← hs x]; exact (List.getElem?_eq_some_iff.1 hv').1
  have e : ((⟨g, 0, none⟩ : Addr).add (i * sz)).add j = ⟨g, i * sz + j, none⟩ := by
   simp only [Addr.add]
   by_cases h1 : i * sz = 0 <;> by_cases h2 : j = 0 <;> simp [h1, h2]
  rw [e, yaY hh]
  have hg := yd6 hs l i j x hx hj
  rw [← ht, hv', List.getElem?_take] at hg
  split at hg
  ·rw [← Array.getElem?_toList]; exact hg
  ·cases hg
theorem Row.keep {α : Type} {w w' : World} {base T sz : Nat} {enc : α → List Value} {a : Option Addr} {n c : Nat} {l : List α} {S : List Nat} (h : Row w base T sz enc a n c l) (hm : Mod S w w') (hS : ∀ ad, a = some ad → ad.block ∉ S) : Row w' base T sz enc a n c l := by
 obtain ⟨hn, hl, ho⟩ := h
 refine ⟨hn, hl, ?_⟩
 rcases ho with ho | ⟨g, cap, cur, hv, hb, hh, r⟩
 ·exact .inl ho
 ·refine .inr ⟨g, cap, cur, hv, hb, hm.keep hh ?_, r⟩
  simp only [Value.slice.injEq] at hv
  exact hS _ hv.1
theorem Row.keep0 {α : Type} {w w' : World} {base T sz : Nat} {enc : α → List Value} {a : Option Addr} {n c : Nat} {l : List α} (h : Row w base T sz enc a n c l) (hm : Mod [] w w') : Row w' base T sz enc a n c l := h.keep hm (by simp)
theorem Row.base {α : Type} {w : World} {base T sz : Nat} {enc : α → List Value} {a : Option Addr} {n c : Nat} {l : List α} (h : Row w base T sz enc a n c l) : ∀ ad, a = some ad → base ≤ ad.block := by
 intro ad ha
 obtain ⟨hn, hl, ho⟩ := h
 rcases ho with ⟨ho, _⟩ | ⟨g, cap, cur, hv, hb, hh, r⟩
 ·simp only [Value.slice.injEq] at ho; rw [ho.1] at ha; cases ha
 ·simp only [Value.slice.injEq] at hv; rw [hv.1] at ha; cases ha; exact hb
theorem Row.nil {α : Type} (w : World) (base T sz : Nat) (enc : α → List Value) : Row w base T sz enc none 0 0 [] := ⟨rfl, by simp, .inl ⟨rfl, rfl⟩⟩
theorem ybQ {α : Type} {P : Program} {w : World} {base T S sz bytes : Nat} {enc : α → List Value} {a : Option Addr} {n c : Nat} {l : List α} {i : TypeInfo} {z : Value} {ty : TypeId} {F : Option Addr → Nat → Nat → World → Prop}
  (h : Row w base T sz enc a n c l) (ht : P.underlying S = some (.slice T)) (hi : P.info? T = some i) (hz : i.zero = some z) (hsize : i.size = sz) (hby : i.bytes = bytes) (hzs : z.cells.size = sz) (hsz : 0 < sz)
  {b : Nat} {x : α} {T' : TypeId} (hb : w.heap[b]? = some (.cells (enc x).toArray T')) (hx : (enc x).length = sz) (hone : ∀ u ∈ enc x, u.oneCell' = true) (hlen : (l.length + 1) * bytes ≤ 140737488355328) (hl2 : l.length + 1 ≤ maxLen) (hbase : base ≤ w.heap.size)
  (hF : ∀ a' c' w', Row w' base T sz enc a' (n + 1) c' (l ++ [x]) → (∀ X, (∀ ad, a = some ad → ad.block ∈ X) → Mod X w w') → F a' (n + 1) c' w') :
  ycE P (Builtin.append_ #[S, S] ty #[.slice a n c, .slice (some ⟨b, 0, none⟩) 1 1]) w F := by
 obtain ⟨hn, ho⟩ := h
 obtain ⟨v', w', h1, h2, h3, _⟩ := run_append_own w base S ty T i z sz bytes ht hi hz hsize hby hzs hsz (.slice a n c) n (l.flatMap enc) ho ⟨b, 0, none⟩ 1 1 (enc x) (by rw [hx]; omega)
  (fun j u hu => by
   have e : (⟨b, 0, none⟩ : Addr).add j = ⟨b, j, none⟩ := by
    simp only [Addr.add]; split
    ·rename_i h0; subst h0; rfl
    ·simp
   rw [e, yaY hb]; simpa using hu) hone (by rw [hn]; exact hl2) (by rw [hn]; exact hlen) hbase
 have hv : ∃ a' c', v' = .slice a' (n + 1) c' := by
  rcases h2.2 with ⟨e1, e2⟩ | ⟨g, cap, cur, e1, _⟩
  ·exact ⟨none, 0, by rw [e1]; omega⟩
  ·exact ⟨_, _, e1⟩
 obtain ⟨a', c', rfl⟩ := hv
 refine ⟨a', n + 1, c', w', h1, hF a' c' w' ⟨by simp [hn], by simpa using h2⟩ fun X hX => ⟨h3.os, h3.tape, h3.output, h3.size, fun k hk hkX => h3.block k hk fun e => hkX ?_⟩⟩
 cases a with
 | none => simp [Value.ownBlock] at e
 | some ad => simp [Value.ownBlock] at e; subst e; exact hX ad rfl
theorem yaH {x : Int} (h1 : -9223372036854775808 ≤ x) (h2 : x ≤ 9223372036854775807) : IntKind.wrap .i64 x = x := by
 rw [IntKind.wrap_i64]; omega
def yz9 (P : Program) (ops : Array Oper) : List Nat → Option (List Nat × Nat × List Nat)
 | [] => none
 | i :: r => match ops[i]? with
  | none => none
  | some o => match yc6 P o with
   | true => match yz9 P ops r with
    | some (X, c, Y) => some (i :: X, c, Y)
    | none => none
   | false => some ([], i, r)
def yIN (P : Program) (ops : Array Oper) (L : List Nat) : Option (List Nat × Nat × List Nat × Nat × List Nat) := match yz9 P ops L with
 | none => none
 | some (X, c, R) => match yz9 P ops R with
  | none => none
  | some (Z, a, Y) => some (X, c, Z, a, Y)
def yxH (ops : Array Oper) (x y : Nat) : Bool := match ops[x]? with
 | some o => !(yhM o y)
 | none => false
def yuS (P : Program) (ops : Array Oper) (x : Nat) : Bool := match ops[x]? with
 | some o => yc6 P o
 | none => false
def yGB (P : Program) (ops : Array Oper) (X : List Nat) (c : Nat) (Z : List Nat) (a : Nat) (Y : List Nat) : Bool :=
 yz7 ops.size (X ++ c :: (Z ++ a :: Y)) && ycY P ops (clo ops) (X ++ (Z ++ a :: Y)) && ycY P ops (clo ops) (X ++ c :: (Z ++ Y)) && (X ++ c :: (Z ++ a :: Y)).all (yDy ops) && X.all (yuS P ops) && yxH ops c a && yxH ops a c && (Z ++ Y).all (fun y => yjQ (clo ops) y c)
theorem yb8.det {P : Program} {ops : Array Oper} {o : Oper} {u v : Value} {a : Act} {w : World} (h : yb8 P ops o u a w) (k : yb8 P ops o v a w) : u = v := by
 rcases h with ⟨h1, h2⟩ | ⟨h1, h2⟩ <;> rcases k with ⟨k1, k2⟩ | ⟨k1, k2⟩
 ·have e1 := h2 w (fun _ => Mod.refl w)
  have e2 := k2 w (fun _ => Mod.refl w)
  rw [e1] at e2
  simpa using e2
 ·rw [h1] at k1; cases k1
 ·rw [h1] at k1; cases k1
 ·rw [h2, k2]
structure Left (ops : Array Oper) (listed : Array Bool) (L : List Nat) : Prop where
 size : listed.size = ops.size
 nd : L.Nodup
 iff : ∀ i, i < ops.size → (listed.getD i true = false ↔ i ∈ L)
 lt : ∀ i ∈ L, i < ops.size
 one : ∀ x ∈ L, yDy ops x = true
 clo : ∀ x o, x ∉ L → ops[x]? = some o → ∀ e ∈ o.after, Region.binds .any e = true → e.on ∉ L
theorem Left.next {ops : Array Oper} {listed : Array Bool} {L R : List Nat} {i : Nat} {o : Oper} (h : Left ops listed L) (hi : i ∈ L) (ho : ops[i]? = some o) (hedge : ∀ e ∈ o.after, Region.binds .any e = true → e.on ∉ L) (hR : R.Nodup) (hm : ∀ x, x ∈ R ↔ x ∈ L ∧ x ≠ i) : Left ops (listed.setIfInBounds i true) R := by
 refine ⟨by simp [h.size], hR, fun k hk => ?_, fun x hx => h.lt x ((hm x).1 hx).1, fun x hx => h.one x ((hm x).1 hx).1, fun x o' hx ho' e he hb hmm => ?_⟩
 ·by_cases hki : k = i
  ·subst hki
   constructor
   ·intro hf; simp [Array.getD, h.size, hk] at hf
   ·intro hmm; exact absurd rfl ((hm k).1 hmm).2
  ·have e1 : (listed.setIfInBounds i true).getD k true = listed.getD k true := by
    simp [Array.getD, h.size, hk, Array.getElem_setIfInBounds, Ne.symm hki]
   rw [e1, h.iff k hk, hm]
   exact ⟨fun h => ⟨h, hki⟩, fun h => h.1⟩
 ·by_cases hxi : x = i
  ·subst hxi
   rw [ho] at ho'; cases ho'
   exact hedge e he hb ((hm _).1 hmm).1
  ·exact h.clo x o' (fun hxL => hx ((hm x).2 ⟨hxL, hxi⟩)) ho' e he hb ((hm _).1 hmm).1
theorem Left.sound {P : Program} {ops : Array Oper} {Q : Exit → Act → World → Prop} {n : Nat} {L : List Nat} {listed : Array Bool} {a : Act} {w : World} (h : Left ops listed L) (hn : L.length = n) (hp : ycY P ops (Go.Proofs.YtjellhflalbbmaaGreat.clo ops) L = true) (hv : ydO P ops (Go.Proofs.YtjellhflalbbmaaGreat.clo ops) (Q .normal) L [] a w) : wpAny P .any ops Q n listed a w :=
 yj7 n hn h.size h.nd h.iff h.lt hp h.one h.clo hv
theorem Left.ready {ops : Array Oper} {listed : Array Bool} {L : List Nat} (h : Left ops listed L) {x : Nat} {o : Oper} (hx : x ∈ L) (ho : ops[x]? = some o) (hne : ∀ y ∈ L, y ≠ x → yhM o y = false) : x ∈ Region.ready .any ops listed := by
 have h1x := h.one x hx
 simp only [yDy, ho, Bool.and_eq_true, Bool.not_eq_true'] at h1x
 unfold Region.ready
 rw [List.mem_filter]
 refine ⟨by simpa using h.lt x hx, ?_⟩
 simp only [Bool.and_eq_true, Bool.not_eq_true', ho, Option.map_some, Option.getD_some]
 refine ⟨(h.iff x (h.lt x hx)).2 hx, ?_⟩
 rw [Array.all_eq_true_iff_forall_mem]
 intro e he
 by_cases hb : Region.binds .any e = true
 ·have hlt' : e.on < ops.size := by
   have := h1x.1.2
   rw [Array.all_eq_true_iff_forall_mem] at this
   have := this e he
   simpa [hb] using this
  have edge : ∀ y, e.on = y → yhM o y = true := fun y hy => by
   unfold yhM
   rw [List.any_eq_true]
   exact ⟨e, by simpa using he, by simp [hb, hy]⟩
  have hnm : e.on ∉ L := by
   intro hm
   by_cases hxe : e.on = x
   ·rw [edge _ hxe] at h1x; simp at h1x
   ·have := hne _ hm hxe
    rw [edge _ rfl] at this; cases this
  have : listed.getD e.on true ≠ false := fun hf => hnm ((h.iff _ hlt').1 hf)
  have hs : e.on < listed.size := by rw [h.size]; exact hlt'
  simp only [hb, Bool.not_true, Bool.false_or]
  simp [Array.getD, hs] at this ⊢
  exact this
 ·simp [hb]
theorem yd7 {P : Program} {ops : Array Oper} {m : List Nat} {x y : Nat} {o : Oper} (h : yjM P ops m x y = true) (ho : ops[x]? = some o) : yhM o y = false := by
 unfold yjM at h
 rw [ho] at h
 split at h
 ·rename_i ox oy e1 e2
  cases e1
  simp at h
  exact h.1.1
 ·cases h
theorem yc9 {P : Program} {ops : Array Oper} {m : List Nat} {x : Nat} {L : List Nat} (h : ycY P ops m (x :: L) = true) : ∀ y ∈ L, yjM P ops m x y = true := by
 simp only [ycY, Bool.and_eq_true, List.all_eq_true] at h; exact h.1
theorem yAa {ops : Array Oper} {x y : Nat} {o : Oper} (h : yxH ops x y = true) (ho : ops[x]? = some o) : yhM o y = false := by
 unfold yxH at h; rw [ho] at h; simpa using h
theorem yxI {P : Program} {ops : Array Oper} {x : Nat} {o : Oper} (h : yuS P ops x = true) (ho : ops[x]? = some o) : yc6 P o = true := by
 unfold yuS at h; rw [ho] at h; exact h
theorem yAb {P : Program} {ops : Array Oper} {Q : Exit → Act → World → Prop} : ∀ (n : Nat) {X Z Y : List Nat} {c a : Nat} {listed : Array Bool} {act : Act} {w : World}, (X ++ c :: (Z ++ a :: Y)).length = n → Left ops listed (X ++ c :: (Z ++ a :: Y)) →
  ycY P ops (clo ops) (X ++ (Z ++ a :: Y)) = true → ycY P ops (clo ops) (X ++ c :: (Z ++ Y)) = true → (∀ x ∈ X, yuS P ops x = true) → yxH ops c a = true → yxH ops a c = true → (∀ y ∈ Z ++ Y, yjQ (clo ops) y c = true) →
  ydO P ops (clo ops) (Q .normal) (X ++ a :: c :: (Z ++ Y)) [] act w → ydO P ops (clo ops) (Q .normal) (X ++ c :: (Z ++ a :: Y)) [] act w → wpAny P .any ops Q n listed act w := by
 intro n
 induction n with
 | zero => intro X Z Y c a listed act w hn; simp at hn
 | succ n ih =>
  intro X Z Y c a listed act w hn hL hp1 hp2 hst he1 he2 hdep h1 h2
  refine ⟨fun hr => ?_, fun i hi => ?_⟩
  ·exfalso
   have key : ∀ x ∈ (X ++ c :: (Z ++ a :: Y)), ∀ o, ops[x]? = some o → (∀ y ∈ (X ++ c :: (Z ++ a :: Y)), y ≠ x → yhM o y = false) → False := fun x hx o ho hne => by
    have := hL.ready hx ho hne
    rw [hr] at this; cases this
   cases X with
   | nil =>
    have hc := hL.lt c (by simp)
    obtain ⟨o, ho⟩ : ∃ o, ops[c]? = some o := ⟨ops[c], by simp [hc]⟩
    refine key c (by simp) o ho fun y hy hne => ?_
    simp at hy
    rcases hy with rfl | hy | rfl | hy
    ·exact absurd rfl hne
    ·exact yd7 (yc9 hp2 y (by simp [hy])) ho
    ·exact yAa he1 ho
    ·exact yd7 (yc9 hp2 y (by simp [hy])) ho
   | cons x X =>
    have hc := hL.lt x (by simp)
    obtain ⟨o, ho⟩ : ∃ o, ops[x]? = some o := ⟨ops[x], by simp [hc]⟩
    refine key x (by simp) o ho fun y hy hne => ?_
    simp at hy
    rcases hy with rfl | hy | rfl | hy | rfl | hy
    ·exact absurd rfl hne
    ·exact yd7 (yc9 hp2 y (by simp [hy])) ho
    ·exact yd7 (yc9 hp2 y (by simp)) ho
    ·exact yd7 (yc9 hp2 y (by simp [hy])) ho
    ·exact yd7 (yc9 hp1 y (by simp)) ho
    ·exact yd7 (yc9 hp2 y (by simp [hy])) ho
  ·have hi' := hi
   unfold Region.ready at hi
   rw [List.mem_filter] at hi
   obtain ⟨hi1, hi2⟩ := hi
   have hilt : i < ops.size := by simpa using hi1
   obtain ⟨o, ho⟩ : ∃ o, ops[i]? = some o := ⟨ops[i], by simp [hilt]⟩
   simp only [Bool.and_eq_true, Bool.not_eq_true', ho, Option.map_some, Option.getD_some] at hi2
   have hiL : i ∈ X ++ c :: (Z ++ a :: Y) := (hL.iff i hilt).1 hi2.1
   have hedge : ∀ e ∈ o.after, Region.binds .any e = true → e.on ∉ X ++ c :: (Z ++ a :: Y) := fun e he hb hm => by
    have h2 := hi2.2
    rw [Array.all_eq_true_iff_forall_mem] at h2
    have h2 := h2 e he
    simp only [hb, Bool.not_true, Bool.false_or] at h2
    have hlt' := hL.lt _ hm
    have := (hL.iff _ hlt').2 hm
    have hs : e.on < listed.size := by rw [hL.size]; exact hlt'
    simp [Array.getD, hs] at this h2
    rw [this] at h2
    cases h2
   have nodep : ∀ q ∈ X ++ c :: (Z ++ a :: Y), yjQ (clo ops) i q = false := fun q hq => by
    cases hd : yjQ (clo ops) i q with
    | false => rfl
    | true => exact absurd hq (yjA hL.clo (yqL hd) (fun o' ho' => by rw [ho] at ho'; cases ho'; exact hedge))
   have hsel : ∀ x ∈ X ++ c :: (Z ++ a :: Y), ∀ o, ops[x]? = some o → ∀ cs b, o.op ≠ .select cs b := fun x hx o ho cs b e => by
    have := hL.one x hx
    simp [yDy, ho, e] at this
   have hq : ∀ q ∈ X, yjM P ops (clo ops) q i = true → ∃ oq, ops[q]? = some oq ∧ yc6 P oq = true ∧ oq.apart ops o = true ∧ yjQ (clo ops) i q = false ∧ ∀ cs b, oq.op ≠ .select cs b := fun q hq hp' => by
    have hd := nodep q (by simp [hq])
    unfold yjM at hp'
    split at hp'
    ·rename_i ox oy e1 e2
     rw [ho] at e2; cases e2
     simp only [hd, Bool.or_false, Bool.and_eq_true] at hp'
     exact ⟨ox, e1, hp'.1.2, hp'.2, hd, hsel q (by simp [hq]) ox e1⟩
    ·cases hp'
   have hnd := hL.nd
   have wpop : (match yc6 P o with
     | true => ∃ v, yb8 P ops o v act w ∧ wpAny P .any ops Q n (listed.setIfInBounds i true) (act.put o.dst v) w
     | false => (Region.wanted o (yielded ops act.tmps) = true → yjL P (execOp act.eval o) w fun v w' => wpAny P .any ops Q n (listed.setIfInBounds i true) (act.put o.dst v) w') ∧
      (Region.wanted o (yielded ops act.tmps) = false → wpAny P .any ops Q n (listed.setIfInBounds i true) (act.put o.dst undef) w)) → wpOp P ops Q i (wpAny P .any ops Q n (listed.setIfInBounds i true)) act w := fun hf => by
    unfold wpOp
    simp only [ho]
    split at hf
    ·obtain ⟨v, hy, h'⟩ := hf
     rcases hy with ⟨hw, hr⟩ | ⟨hw, rfl⟩
     ·rw [if_pos hw]
      exact .inl (yj5 (K := fun u w' => u = v ∧ w' = w) (ycF (hr w (fun _ => Mod.refl w)) ⟨rfl, rfl⟩) fun u w' ⟨e1, e2⟩ => by subst e1; subst e2; exact h')
     ·rw [if_neg (by rw [hw]; simp)]
      exact h'
    ·by_cases hw : Region.wanted o (yielded ops act.tmps) = true
     ·rw [if_pos hw]
      exact .inl (yj5 (hf.1 hw) fun v w' h' => h')
     ·have hw : Region.wanted o (yielded ops act.tmps) = false := by simpa using hw
      rw [if_neg (by rw [hw]; simp)]
      exact hf.2 hw
   have fin : ∀ {L2 : List Nat}, ydO P ops (clo ops) (Q .normal) (X ++ i :: L2) [] act w → (∀ q ∈ X, yjM P ops (clo ops) q i = true) → (∀ a' w', ydO P ops (clo ops) (Q .normal) (X ++ L2) [] a' w' → wpAny P .any ops Q n (listed.setIfInBounds i true) a' w') → wpOp P ops Q i (wpAny P .any ops Q n (listed.setIfInBounds i true)) act w := fun {L2} h hp hk => by
    refine wpop ?_
    have hf := yd5 ho (hsel i hiL o ho) (fun q hq' => hq q hq' (hp q hq')) h
    split at hf
    ·rename_i hs
     try simp only [hs]
     obtain ⟨v, h1, h2⟩ := hf
     exact ⟨v, h1, hk _ _ h2⟩
    ·rename_i hs
     try simp only [hs]
     exact ⟨fun hw => ycX (hf.1 hw) fun v w' ⟨_, h⟩ => hk _ _ h, fun hw => hk _ _ (hf.2 hw)⟩
   have hmem := hiL
   simp only [List.mem_append, List.mem_cons] at hmem
   have ndX : X.Nodup ∧ (∀ x ∈ X, x ≠ c ∧ x ≠ a ∧ x ∉ Z ∧ x ∉ Y) ∧ c ≠ a ∧ c ∉ Z ∧ c ∉ Y ∧ a ∉ Z ∧ a ∉ Y := by
    have h := List.nodup_append.1 hnd
    have h' := List.nodup_cons.1 h.2.1
    have h'' := List.nodup_append.1 h'.2
    have h3 := List.nodup_cons.1 h''.2.1
    refine ⟨h.1, fun x hx => ⟨fun e => h.2.2 x hx c (by simp) e, fun e => h.2.2 x hx a (by simp) e, fun hy => h.2.2 x hx x (by simp [hy]) rfl, fun hy => h.2.2 x hx x (by simp [hy]) rfl⟩, fun e => h'.1 (by simp [e]), fun hy => h'.1 (by simp [hy]), fun hy => h'.1 (by simp [hy]), fun hy => h''.2.2 a hy a (by simp) rfl, h3.1⟩
   obtain ⟨nX, nXo, nca, ncZ, ncY, naZ, naY⟩ := ndX
   rcases hmem with hX | rfl | hZ | rfl | hY
   ·
    obtain ⟨X1, X2, rfl⟩ := List.append_of_mem hX
    have hs : yc6 P o = true := yxI (hst i (by simp)) ho
    have e1 : ∀ W : List Nat, X1 ++ i :: X2 ++ W = X1 ++ i :: (X2 ++ W) := fun W => by simp
    have hpq : ∀ q ∈ X1, yjM P ops (clo ops) q i = true := by rw [e1] at hp1; exact ycN hp1
    rw [e1] at h1 h2
    have f1 := yd5 ho (hsel i hiL o ho) (fun q hq' => hq q (by simp [hq']) (hpq q hq')) h1
    have f2 := yd5 ho (hsel i hiL o ho) (fun q hq' => hq q (by simp [hq']) (hpq q hq')) h2
    simp only [hs] at f1 f2
    obtain ⟨v1, y1, g1⟩ := f1
    obtain ⟨v2, y2, g2⟩ := f2
    have ev := y1.det y2
    subst ev
    refine wpop ?_
    simp only [hs]
    rw [← List.append_assoc] at g1 g2
    refine ⟨v1, y1, ih (X := X1 ++ X2) (by simp at hn ⊢; omega) ?_ ?_ ?_ (fun x hx => hst x (by simp at hx ⊢; rcases hx with hx | hx <;> simp [hx])) he1 he2 hdep g1 g2⟩
    ·refine hL.next hiL ho hedge ?_ fun x => ?_
     ·have : (X1 ++ X2 ++ c :: (Z ++ a :: Y)).Sublist (X1 ++ i :: X2 ++ c :: (Z ++ a :: Y)) := by
       rw [List.append_assoc, List.append_assoc]
       exact List.Sublist.append (List.Sublist.refl _) (by simp)
      exact hnd.sublist this
     ·have hni : i ∉ X1 ∧ i ∉ X2 := by
       have h := List.nodup_append.1 nX
       have h' := List.nodup_cons.1 h.2.1
       exact ⟨fun hx => h.2.2 i hx i (by simp) rfl, h'.1⟩
      have hno := nXo i (by simp)
      simp only [List.mem_append, List.mem_cons]
      constructor
      ·rintro ((h | h) | h | h | h | h)
       ·exact ⟨.inl (.inl h), fun e => hni.1 (e ▸ h)⟩
       ·exact ⟨.inl (.inr (.inr h)), fun e => hni.2 (e ▸ h)⟩
       ·exact ⟨.inr (.inl h), fun e => hno.1 (e.symm.trans h)⟩
       ·exact ⟨.inr (.inr (.inl h)), fun e => hno.2.2.1 (e ▸ h)⟩
       ·exact ⟨.inr (.inr (.inr (.inl h))), fun e => hno.2.1 (e.symm.trans h)⟩
       ·exact ⟨.inr (.inr (.inr (.inr h))), fun e => hno.2.2.2 (e ▸ h)⟩
      ·rintro ⟨(h | h | h) | h | h | h | h, hne⟩
       ·exact .inl (.inl h)
       ·exact absurd h hne
       ·exact .inl (.inr h)
       ·exact .inr (.inl h)
       ·exact .inr (.inr (.inl h))
       ·exact .inr (.inr (.inr (.inl h)))
       ·exact .inr (.inr (.inr (.inr h)))
    ·rw [e1] at hp1; have := yfC hp1; rwa [List.append_assoc]
    ·rw [e1] at hp2; have := yfC hp2; rwa [List.append_assoc]
   ·
    refine fin h2 (ycN hp2) fun a' w' h => ?_
    refine (hL.next hiL ho hedge (R := X ++ (Z ++ a :: Y)) ?_ fun x => ?_).sound (by simp at hn ⊢; omega) hp1 h
    ·exact hnd.sublist (List.Sublist.append (List.Sublist.refl _) (List.sublist_cons_self _ _))
    ·simp only [List.mem_append, List.mem_cons]
     constructor
     ·rintro (h | h | h | h)
      ·exact ⟨.inl h, (nXo x h).1⟩
      ·exact ⟨.inr (.inr (.inl h)), fun e => ncZ (e ▸ h)⟩
      ·exact ⟨.inr (.inr (.inr (.inl h))), fun e => nca (e.symm.trans h)⟩
      ·exact ⟨.inr (.inr (.inr (.inr h))), fun e => ncY (e ▸ h)⟩
     ·rintro ⟨h | h | h | h | h, hne⟩
      ·exact .inl h
      ·exact absurd h hne
      ·exact .inr (.inl h)
      ·exact .inr (.inr (.inl h))
      ·exact .inr (.inr (.inr h))
   ·have := hdep i (by simp [hZ])
    rw [nodep c (by simp)] at this; cases this
   ·refine fin h1 (fun q hq' => by rw [← List.append_assoc] at hp1; exact ycN hp1 q (by simp [hq'])) fun a' w' h => ?_
    refine (hL.next hiL ho hedge (R := X ++ c :: (Z ++ Y)) ?_ fun x => ?_).sound (by simp at hn ⊢; omega) hp2 h
    ·exact hnd.sublist (List.Sublist.append (List.Sublist.refl _) (List.Sublist.cons_cons _ (List.Sublist.append (List.Sublist.refl _) (List.sublist_cons_self _ _))))
    ·simp only [List.mem_append, List.mem_cons]
     constructor
     ·rintro (h | h | h | h)
      ·exact ⟨.inl h, (nXo x h).2.1⟩
      ·exact ⟨.inr (.inl h), fun e => nca (h.symm.trans e)⟩
      ·exact ⟨.inr (.inr (.inl h)), fun e => naZ (e ▸ h)⟩
      ·exact ⟨.inr (.inr (.inr (.inr h))), fun e => naY (e ▸ h)⟩
     ·rintro ⟨h | h | h | h | h, hne⟩
      ·exact .inl h
      ·exact .inr (.inl h)
      ·exact .inr (.inr (.inl h))
      ·exact absurd h hne
      ·exact .inr (.inr (.inr h))
   ·have := hdep i (by simp [hY])
    rw [nodep c (by simp)] at this; cases this
theorem ynR {P : Program} (hm : P.follows .mixedOrders = true) {id : Nat} {ops : Array Oper} {Q : Exit → Act → World → Prop} {act : Act} {w : World} {X Z Y : List Nat} {c a : Nat} (hL : yGB P ops X c Z a Y = true)
  (h1 : ∀ w1, Mod [] w w1 → ydO P ops (clo ops) (Q .normal) (X ++ a :: c :: (Z ++ Y)) [] act w1) (h2 : ∀ w1, Mod [] w w1 → ydO P ops (clo ops) (Q .normal) (X ++ c :: (Z ++ a :: Y)) [] act w1) : (Code.region id ops true).wp P Q act w := by
 simp only [yGB, yz7, Bool.and_eq_true, List.all_eq_true, decide_eq_true_eq, beq_iff_eq] at hL
 obtain ⟨⟨⟨⟨⟨⟨⟨⟨⟨⟨p1, p2⟩, p3⟩, p4⟩, q1⟩, q2⟩, q3⟩, q4⟩, q5⟩, q6⟩, q7⟩ := hL
 have hmem : ∀ i, i < ops.size → i ∈ X ++ c :: (Z ++ a :: Y) := fun i hi => by simpa using p4 i (by simpa using hi)
 refine wp_region_any hm (yAb ops.size p1 ⟨by simp, p3, fun i hi => ?_, p2, q3, fun x o hx ho => ?_⟩ q1 q2 q4 q5 q6 q7 (h1 _ (Mod.drewN w 1)) (h2 _ (Mod.drewN w 1)))
 ·have := hmem i hi
  have e : (Array.replicate ops.size false).getD i true = false := by simp [hi]
  exact ⟨fun _ => this, fun _ => e⟩
 ·exact absurd (hmem x (Array.getElem?_eq_some_iff.1 ho).1) hx
structure TB where
 b : Nat
 T : TypeId
 cs : List Value
 ex : Bool
abbrev Tag := Option (Nat × Nat)
structure FA where
 u : List (Nat × Value × Tag)
 js : Nat → Value
def lkV : List (Nat × Value × Tag) → (Nat → Value) → Nat → Value
 | [], js, i => js i
 | (j, v, _) :: r, js, i => match Nat.beq j i with
  | true => v
  | false => lkV r js i
def lkT : List (Nat × Value × Tag) → Nat → Tag
 | [], _ => none
 | (j, _, t) :: r, i => match Nat.beq j i with
  | true => t
  | false => lkT r i
def FA.get (f : FA) (i : Nat) : Value := match f with
 | ⟨u, js⟩ => lkV u js i
def FA.tag (f : FA) (i : Nat) : Tag := match f with
 | ⟨u, _⟩ => lkT u i
def evA (f : FA) : Operand → Value
 | .tmp t => f.get t
 | .const v => v
 | .global g => .pointer (some ⟨g, 0, none⟩)
 | .func g => .func (.func g) #[] #[]
def yeY (f : FA) (d : Option Tmp) (v : Value) (t : Tag) : FA := match d with
 | none => f
 | some d => match f with
  | ⟨u, js⟩ => ⟨(d, v, t) :: u, js⟩
structure St where
 mem : List TB
 w : World
 S : List Nat
 N : List Nat
 cl : Bool
structure Adv (S N : List Nat) (w w' : World) : Prop where
 mod : Mod S w w'
 lt : ∀ b ∈ N, b < w'.heap.size
 nd : N.Nodup
def yxJ (mem : List TB) : List Nat → List Nat
 | [] => []
 | i :: r => match mem[i]? with
  | some tb => tb.b :: yxJ mem r
  | none => yxJ mem r
def ylY : List TB → World → Prop → Prop
 | [], _, F => F
 | tb :: r, w, F => match tb.ex with
  | true => w.heap[tb.b]? = some (.cells tb.cs.toArray tb.T) → ylY r w F
  | false => ylY r w F
def yAc {α : Type} : List α → (List α → Prop) → Prop
 | [], k => k []
 | x :: r, k => yAc r fun r' => k (x :: r')
def ylZ : List TB → (List TB → Prop) → Prop
 | [], k => k []
 | ⟨b, T, cs, ex⟩ :: r, k => yAc cs fun cs => match ex with
  | true => ylZ r fun r' => k (⟨b, T, cs, true⟩ :: r')
  | false => ylZ r fun r' => k (⟨b, T, cs, false⟩ :: r')
def yhO (s : St) (K : St → Prop) : Prop := match s with
 | ⟨mem, w, S, N, cl⟩ => match cl with
  | true => K ⟨mem, w, S, N, true⟩
  | false => ylZ mem fun mem => ∀ w', Adv (yxJ mem S) (yxJ mem N) w w' → ylY mem w' (K ⟨mem, w', [], [], true⟩)
def ylL (f : FA) : Operand → Tag
 | .tmp t => f.tag t
 | _ => none
def ygO (f : FA) : List Operand → List Nat
 | [] => []
 | x :: r => match ylL f x with
  | some (k, _) => k :: ygO f r
  | none => ygO f r
def yDz : List Nat → Nat → Bool
 | [], _ => false
 | x :: r, i => match Nat.beq x i with
  | true => true
  | false => yDz r i
def exM (ids : List Nat) : Nat → List TB → List TB
 | _, [] => []
 | i, tb :: r => (match yDz ids i with
  | true => ⟨tb.b, tb.T, tb.cs, true⟩
  | false => tb) :: exM ids (i + 1) r
def yIO (ids : List Nat) : Nat → List TB → Bool
 | _, [] => false
 | i, tb :: r => match yDz ids i, tb.ex with
  | true, false => true
  | _, _ => yIO ids (i + 1) r
def ycK (ids : List Nat) (s : St) : St := match ids with
 | [] => s
 | ids => match yIO ids 0 s.mem with
  | true => ⟨exM ids 0 s.mem, s.w, s.S, s.N, false⟩
  | false => s
def leak : Op → List Operand
 | .box _ x => [x]
 | .build _ ps => ps.toList.map (·.2)
 | .buildSlice _ _ ps => ps.toList.map (·.2)
 | .insert _ _ k x => [k, x]
 | .mapUpdate _ _ k x => [k, x]
 | .store _ a x => [a, x]
 | .makeInterface _ x => [x]
 | .makeFunc _ f c => f.toList ++ c.toList
 | .call c => (match c.callee with
  | .value x => [x]
  | .invoke x _ => [x]
  | _ => []) ++ c.args.toList
 | .pick _ a b => [a, b]
 | .slice _ x _ _ _ => [x]
 | .indexAddr _ x _ => [x]
 | .fieldAddr _ x _ => [x]
 | .range _ x => [x]
 | _ => []
def okL : Leaf → Value → Bool
 | .int k, .int k' _ => k == k'
 | .bool, .bool _ => true
 | .string, .string _ => true
 | .ptr, .pointer _ => true
 | .map, .map _ => true
 | .slice, .slice _ _ _ => true
 | .any, _ => true
 | _, _ => false
def yIy : List Leaf → List Value → Bool
 | [], _ => true
 | l :: ls, v :: vs => match okL l v with
  | true => yIy ls vs
  | false => false
 | _, _ => false
def yIP (P : Program) (t : TypeId) (cs : List Value) (K : Value → Prop) : Prop :=
 match (yeH P 20 t).length == P.cellsOf t with
 | false => False
 | true => match yIy (yeH P 20 t) cs with
  | false => False
  | true => match (P.underlying t).isSome with
   | false => False
   | true => match yi9 P t with
    | true => K (.agg ⟨cs.take (P.cellsOf t)⟩)
    | false => match cs, yeH P 20 t with
     | v :: _, [_] => K v
     | _, _ => False
def yeJ : List Value → Nat → List Value → List Value
 | [], _, _ => []
 | x :: r, 0, [] => x :: r
 | x :: r, 0, v :: vs => v :: yeJ r 0 vs
 | x :: r, n + 1, vs => x :: yeJ r n vs
def ya4 (es : List Nat) (ts : List (Nat × TypeId)) (bs : List Nat) (w w' : World) : Prop := ∀ b ∈ bs, b < w.heap.size → b ∉ es → (∀ p ∈ ts, p.1 = b → ∃ cs, w.heap[b]? = some (.cells cs p.2)) → w'.heap[b]? = w.heap[b]?
abbrev yaD (bs : List Nat) (w w' : World) : Prop := ya4 [] [] bs w w'
def yGC (mem : List TB) (w w' : World) (F : Prop) : Prop := match mem with
 | [] => F
 | mem => yaD (mem.map (·.b)) w w' ∧ F
def nxB : List TB → List Nat
 | [] => []
 | tb :: r => match tb.ex with
  | true => nxB r
  | false => tb.b :: nxB r
def nxT : List TB → List (Nat × TypeId)
 | [] => []
 | tb :: r => match tb.ex with
  | true => nxT r
  | false => (tb.b, tb.T) :: nxT r
def exB : List TB → List Nat
 | [] => []
 | tb :: r => match tb.ex with
  | true => tb.b :: exB r
  | false => exB r
def reD (P : Program) (w' : World) : List TB → (List TB → Prop) → Prop
 | [], F => F []
 | tb :: r, F => match tb.ex with
  | false => reD P w' r fun m => F (tb :: m)
  | true => yDx (yeH P 20 tb.T) fun vs => w'.heap[tb.b]? = some (.cells vs.toArray tb.T) ∧ reD P w' r fun m => F (⟨tb.b, tb.T, vs, true⟩ :: m)
def yGD (P : Program) (mem : List TB) (w w' : World) (F : List TB → Prop) : Prop := match nxB mem with
 | [] => reD P w' mem F
 | bs => match exB mem with
  | [] => yaD bs w w' ∧ reD P w' mem F
  | es => ya4 es (nxT mem) bs w w' ∧ reD P w' mem F
def yr9 (P : Program) (o : Oper) : Nat := match o.op with
 | .alloc _ | .box _ _ | .buildSlice _ _ _ | .makeMap _ _ => 1
 | .store .. => 3
 | .makeSlice .. | .mapUpdate .. | .insert .. | .range .. | .next .. | .entry _ => 2
 | .convert src dst _ => match P.underlying src, P.underlying dst with
  | some .string, some (.slice _) => 2
  | some (.slice _), some .string => 2
  | _, _ => 0
 | .call c => match c.callee with
  | .builtin .append | .builtin .copy | .builtin .delete | .builtin .clear => 2
  | .builtin _ => 0
  | _ => 3
 | _ => 0
abbrev KOp := Value → Tag → St → Prop
def yzZ (P : Program) (rest : List Oper) (o : Oper) (f : FA) (s0 : St) (K : KOp) : Prop :=
 match yr9 P o, yh6 P o with
 | 0, false => ygZ P o (evA f) s0.w fun v => K v none (ycK (ygO f (leak o.op)) s0)
 | e, _ => yhO (ycK (ygO f (leak o.op)) s0) fun s => match e with
  | 0 => ygZ P o (evA f) s.w fun v => K v none s
  | 1 => yxD P o (evA f) s.w fun v w' => K v none ⟨s.mem, w', [], [], true⟩
  | 2 => yDD P rest o (evA f) s.w fun v w' => yGC s.mem s.w w' (K v none ⟨s.mem, w', [], [], true⟩)
  | _ => yDD P rest o (evA f) s.w fun v w' => yGD P s.mem s.w w' fun mem => K v none ⟨mem, w', [], [], true⟩
def yMi (s : St) (T : TypeId) (cs : List Value) (K : KOp) : Prop :=
 match s with
 | ⟨mem, w, S, N, cl⟩ => ∀ b, w.heap.size ≤ b → ylZ (mem ++ [⟨b, T, cs, false⟩]) fun mem' => K (.pointer (some ⟨b, 0, none⟩)) (some (mem.length, 0)) ⟨mem', w, S, mem.length :: N, false⟩
def yL9 (N S : List Nat) (k : Nat) : List Nat := match yDz N k, yDz S k with
 | false, false => k :: S
 | _, _ => S
def yE4 : Operand → Option Nat
 | .const (.int _ (.ofNat n)) => some n
 | _ => none
def pkB (t : Bool) (A B : Prop) : Prop := match t with
 | true => A
 | false => B
def yfQ (P : Program) (rest : List Oper) (o : Oper) (f : FA) (s : St) (K : KOp) : Prop :=
 match o.op with
 | .load t a => match ylL f a with
  | some (k, off) => match s.mem[k]? with
   | some tb => yIP P t (tb.cs.drop off) fun v => K v none s
   | none => False
  | none => yzZ P rest o f s K
 | .store t a x => match ylL f a with
  | some (k, off) => match (ycK (ygO f [x]) s).mem[k]?, (evA f x).cells.size == P.cellsOf t, (P.underlying t).isSome, (evA f x).cells.toList.all yxC with
   | some tb, true, true, true => match Nat.ble (off + (evA f x).cells.size) tb.cs.length with
    | true => ylZ ((ycK (ygO f [x]) s).mem.set k ⟨tb.b, tb.T, yeJ tb.cs off (evA f x).cells.toList, tb.ex⟩) fun mem => K undef none ⟨mem, s.w, yL9 s.N s.S k, s.N, false⟩
    | false => False
   | _, _, _, _ => False
  | none => yzZ P rest o f s K
 | .alloc e => match yd3 P (zeroValue e) with
  | some z => yMi s e z.cells.toList K
  | none => False
 | .box e x => yMi (ycK (ygO f [x]) s) e (evA f x).cells.toList K
 | .fieldAddr t x fi => match ylL f x with
  | some (k, off) => match s.mem[k]?, P.underlying t with
   | some tb, some (.struct fs) => match fs[fi]? with
    | some fl => match (P.info? fl.type).isSome, P.cellsOf fl.type with
     | true, _ + 1 => K (.pointer (some ⟨tb.b, off + fl.offset, none⟩)) (some (k, off + fl.offset)) s
     | _, _ => False
    | none => False
   | _, _ => False
  | none => yzZ P rest o f s K
 | .indexAddr t x ix => match P.underlying t with
  | some (.array len e) => match (P.info? e).isSome with
   | false => False
   | true => match yE4 ix, ylL f x with
    | some n, some (k, off) => match s.mem[k]?, Nat.blt n len with
     | some tb, true => K (.pointer (some ⟨tb.b, off + n * P.cellsOf e, none⟩)) (some (k, off + n * P.cellsOf e)) s
     | _, _ => False
    | _, _ => match evA f x, evA f ix with
     | .pointer (some a), .int _ i => 0 ≤ i ∧ i < len ∧ K (.pointer (some (a.add (i.toNat * P.cellsOf e)))) none (ycK (ygO f [x]) s)
     | _, _ => False
  | _ => yzZ P rest o f s K
 | .nilCheck x => match ylL f x with
  | some (k, off) => match s.mem[k]? with
   | some tb => K (.pointer (some ⟨tb.b, off, none⟩)) (some (k, off)) s
   | none => False
  | none => yzZ P rest o f s K
 | .move x => K (evA f x) (ylL f x) s
 | .assign x => K (evA f x) (ylL f x) s
 | .pick c a b => match evA f c with
  | .bool t => pkB t (K (evA f a) none (ycK (ygO f [a, b]) s)) (K (evA f b) none (ycK (ygO f [a, b]) s))
  | _ => False
 | _ => yzZ P rest o f s K
def ybM (P : Program) (ops : Array Oper) : List Oper → (FA → St → Prop) → FA → St → Prop
 | [], K, f, s => K f s
 | o :: r, K, f, s => match o.guard with
  | none => yfQ P r o f s fun v t s => ybM P ops r K (yeY f o.dst v t) s
  | some (j, b) => match (ops[j]?).bind (·.dst) with
   | none => ybM P ops r K (yeY f o.dst undef none) s
   | some d => match f.get d with
    | .bool t => brB t
     (match b with
      | true => yfQ P r o (yeY f (some d) (.bool true) none) s fun v t s => ybM P ops r K (yeY (yeY f (some d) (.bool true) none) o.dst v t) s
      | false => ybM P ops r K (yeY (yeY f (some d) (.bool true) none) o.dst undef none) s)
     (match b with
      | false => yfQ P r o (yeY f (some d) (.bool false) none) s fun v t s => ybM P ops r K (yeY (yeY f (some d) (.bool false) none) o.dst v t) s
      | true => ybM P ops r K (yeY (yeY f (some d) (.bool false) none) o.dst undef none) s)
    | _ => ybM P ops r K (yeY f o.dst undef none) s
structure DRec2 where
 i : Nat
 o : Oper
 f : FA
 v : Value
 tag : Tag
def yGE (P : Program) (g : DRec2) (w : World) : Prop := match g.o.op with
 | .load t a => match evA g.f a, (P.underlying t).isSome with
  | .pointer (some a), true => ldT P t w a fun u => u = g.v
  | _, _ => False
 | .lookup t x i ok => ∀ w', Mod [] w w' → (Instr.lookup t (evA g.f x) (evA g.f i) ok).run P w' = .ok g.v w'
 | _ => ∀ w', Mod [] w w' → (execOp (evA g.f) g.o).run P w' = .ok (.value g.v) w'
def yqR (P : Program) (g : DRec2) (s : St) : Prop := match g.tag, g.o.op with
 | some (k, off), .load t _ => match s.mem[k]? with
  | some tb => yIP P t (tb.cs.drop off) fun u => u = g.v
  | none => False
 | _, _ => yGE P g s.w
def yIz (P : Program) (m : List Nat) (i : Nat) : List DRec2 → St → Prop → Prop
 | [], _, F => F
 | g :: r, s, F => match yjQ m i g.i with
  | true => yIz P m i r s F
  | false => yqR P g s ∧ yIz P m i r s F
def ysJ (m : List Nat) (i : Nat) : List DRec2 → List DRec2
 | [] => []
 | g :: r => match yjQ m i g.i with
  | true => ysJ m i r
  | false => g :: ysJ m i r
def yDF : List DRec2 → Bool
 | [] => false
 | g :: r => match g.tag with
  | none => true
  | _ => yDF r
def yGF (P : Program) (m : List Nat) (i : Nat) (Γ : List DRec2) (s : St) (K : St → Prop) : Prop := match yDF (ysJ m i Γ) with
 | true => yhO s fun s => yIz P m i Γ s (K s)
 | false => yIz P m i Γ s (K s)
def yIQ (f : FA) : Op → Tag
 | .load _ a => ylL f a
 | _ => none
def yqS (P : Program) (ops : Array Oper) (m : List Nat) (L : List Nat) (i : Nat) (o : Oper) (Γ : List DRec2) (X : List Nat) (f : FA) (s : St) (K : List DRec2 → List Nat → FA → St → Prop) : Prop :=
 match yc6 P o with
 | true => match yr9 P o with
  | 0 => yfQ P [] o f s fun v t s' => match yh6 P o with
   | true => K (⟨i, o, f, v, yIQ f o.op⟩ :: Γ) X (yeY f o.dst v t) s'
   | false => K Γ X (yeY f o.dst v t) s'
  | _ => False
 | false => match yuR o with
  | true => yfQ P [] o f s fun v t s' => K Γ X (yeY f o.dst v t) s'
  | false => yfQ P (yIM ops L) o f s fun v t s' => yGF P m i Γ s' fun s' => K (ysJ m i Γ) X (yeY f o.dst v t) s'
def yhP (P : Program) (ops : Array Oper) (m : List Nat) : List Nat → List DRec2 → List Nat → (FA → St → Prop) → FA → St → Prop
 | [], _, _, K, f, s => K f s
 | i :: L, Γ, X, K, f, s => match ops[i]? with
  | none => False
  | some o => match o.guard with
   | none => yqS P ops m L i o Γ X f s fun Γ X f s => yhP P ops m L Γ X K f s
   | some (j, b) => match (ops[j]?).bind (·.dst) with
    | none => yhP P ops m L Γ X K (yeY f o.dst undef none) s
    | some d => match f.get d with
     | .bool t => brB t
      (match b with
       | true => yqS P ops m L i o Γ X (yeY f (some d) (.bool true) none) s fun Γ X f s => yhP P ops m L Γ X K f s
       | false => yhP P ops m L Γ X K (yeY (yeY f (some d) (.bool true) none) o.dst undef none) s)
      (match b with
       | false => yqS P ops m L i o Γ X (yeY f (some d) (.bool false) none) s fun Γ X f s => yhP P ops m L Γ X K f s
       | true => yhP P ops m L Γ X K (yeY (yeY f (some d) (.bool false) none) o.dst undef none) s)
     | _ => yhP P ops m L Γ X K (yeY f o.dst undef none) s
def tB (m i : Nat) : Bool := Nat.beq (Nat.land (Nat.shiftRight m i) 1) 1
def yDG (n : Nat) : Nat → List Nat → Bool
 | m, [] => Nat.beq m (Nat.sub (Nat.shiftLeft 1 n) 1)
 | m, x :: r => match Nat.blt x n, tB m x with
  | true, false => yDG n (Nat.lor m (Nat.shiftLeft 1 x)) r
  | _, _ => false
def yIR (n x : Nat) : List Edge → Bool
 | [] => true
 | e :: r => match Region.binds .any e with
  | false => yIR n x r
  | true => match Nat.blt e.on n, Nat.beq e.on x with
   | true, false => yIR n x r
   | _, _ => false
def yGG (n : Nat) (ops : Array Oper) (x : Nat) : Bool := match ops[x]? with
 | some o => match o.op with
  | .select .. => false
  | _ => yIR n x o.after.toList
 | none => false
def yIA {α : Type} (p : α → Bool) : List α → Bool
 | [] => true
 | x :: r => match p x with
  | true => yIA p r
  | false => false
def ylM : List Nat → Nat
 | [] => 0
 | x :: r => Nat.lor (ylM r) (Nat.shiftLeft 1 x)
def yqT : List Edge → Nat
 | [] => 0
 | e :: r => match Region.binds .any e with
  | true => Nat.lor (yqT r) (Nat.shiftLeft 1 e.on)
  | false => yqT r
structure OR where
 i : Nat
 em : Nat
 cm : Nat
 st : Bool
 rm : Nat
 dm : Nat
def yE5 : Option Tmp → Nat
 | none => 0
 | some d => Nat.shiftLeft 1 d
def yGH (x y : OR) : Bool := match tB y.cm x.i with
 | true => true
 | false => match x.st, Nat.beq (Nat.land x.dm (Nat.lor y.rm y.dm)) 0, Nat.beq (Nat.land y.dm x.rm) 0 with
  | true, true, true => true
  | _, _, _ => false
def yAd : List OR → Nat
 | [] => 0
 | x :: r => Nat.lor (yAd r) (Nat.shiftLeft 1 x.i)
def yuT : List OR → Bool
 | [] => true
 | x :: r => match Nat.beq (Nat.land x.em (yAd r)) 0, yIA (yGH x) r with
  | true, true => yuT r
  | _, _ => false
def yAe (P : Program) (ops : Array Oper) (m : List Nat) : List Nat → (List OR → Bool) → Bool
 | [], k => k []
 | i :: r, k => match ops[i]? with
  | none => false
  | some o => match yc6 P o with
   | true => yAe P ops m r fun l => k (⟨i, yqT o.after.toList, m.getD i 0, true, ylM (o.looksAt ops), yE5 o.dst⟩ :: l)
   | false => yAe P ops m r fun l => k (⟨i, yqT o.after.toList, m.getD i 0, false, ylM (o.looksAt ops), yE5 o.dst⟩ :: l)
def yGI (P : Program) (ops : Array Oper) (L : List Nat) : Bool := match Nat.beq L.length ops.size, yDG ops.size 0 L with
 | true, true => match yIA (yGG ops.size ops) L with
  | true => yAe P ops (clo ops) L yuT
  | false => false
 | _, _ => false
abbrev Kx3 := Exit → FA → St → Prop
def yqU (K : FA → St → Prop) (Q : Kx3) : Kx3
 | .normal, f, s => K f s
 | e, f, s => Q e f s
def ysK (id : Nat) (Q : Kx3) : Kx3
 | .exit i, f, s => match i == id with
  | true => Q .normal f s
  | false => Q (.exit i) f s
 | e, f, s => Q e f s
structure LA where
 path : List Nat
 live : List Nat
 tg : List (Nat × Nat × Nat)
 n : Nat
 ex : List Nat
def yIS : List Nat → List Nat → Bool
 | [], [] => true
 | x :: r, y :: t => match Nat.beq x y with
  | true => yIS r t
  | false => false
 | _, _ => false
def yxK (p : List Nat) : List LA → Option LA
 | [] => none
 | a :: r => match yIS a.path p with
  | true => some a
  | false => yxK p r
def tgA : List (Nat × Nat × Nat) → Nat → Tag
 | [], _ => none
 | (j, k, o) :: r, i => match Nat.beq j i with
  | true => some (k, o)
  | false => tgA r i
def ykA (f : FA) : List Nat → List Value
 | [] => []
 | i :: r => f.get i :: ykA f r
def mkU (tg : List (Nat × Nat × Nat)) : List Nat → List Value → List (Nat × Value × Tag)
 | i :: r, v :: vs => (i, v, tgA tg i) :: mkU tg r vs
 | _, _ => []
def yIT (f : FA) (n : Nat) : List (Nat × Nat × Nat) → Bool
 | [] => true
 | (i, k, o) :: r => match f.tag i with
  | some (k', o') => match Nat.beq k k', Nat.beq o o', Nat.blt k n with
   | true, true, true => yIT f n r
   | _, _, _ => false
  | none => false
def atA (a : LA) (K : List Value → List TB → World → Prop) (f : FA) (s : St) : Prop := match yIT f a.n a.tg with
 | true => yhO (ycK a.ex s) fun s => K (ykA f a.live) (s.mem.take a.n) s.w
 | false => False
def yDH (a : LA) (D : FA → St → Prop) (vals : List Value) (js : Nat → Value) (mem : List TB) (w : World) : Prop :=
 ylY mem w (D ⟨mkU a.tg a.live vals, js⟩ ⟨mem, w, [], [], true⟩)
def yE6 (a : LA) (D : Kx3 → FA → St → Prop) (Q : Kx3) (vals : List Value) (mem : List TB) (w : World) : Prop :=
 ∃ (I : Nat → List Value → List TB → World → Prop) (m : Nat), I m vals mem w ∧
  ∀ m vals mem w, I m vals mem w → vals.length = a.live.length ∧ mem.length = a.n ∧ ∀ js, yDH a (D (yqU (atA a fun vals' mem' w' => ∃ m', m' < m ∧ I m' vals' mem' w') Q)) vals js mem w
def yIU (a : LA) (D : FA → St → Prop) (vals : List Value) (mem : List TB) (w : World) : Prop :=
 ∃ J : List Value → List TB → World → Prop, J vals mem w ∧
  ∀ vals mem w, J vals mem w → vals.length = a.live.length ∧ mem.length = a.n ∧ ∀ js, yDH a D vals js mem w
def yMj (an : List LA) (rp : List Nat) (B : Kx3 → FA → St → Prop) (Q : Kx3) : Kx3 := match yxK rp an with
 | none => yqU (B Q) Q
 | some a => yqU (atA a (yIU a (B Q))) Q
def yDI (a : Act) : List Nat → List Value
 | [] => []
 | i :: r => a.tmps.getD i undef :: yDI a r
def wpV (P : Program) (c : Code) (l : LA) (Q : Kx3) (vals : List Value) (mem : List TB) (w : World) : Prop :=
 ∀ (n : Nat) (a : Act), a.tmps.size = n → a.defers = [] → yDI a l.live = vals → c.wp P (fun e a w' => a.defers = [] ∧ a.tmps.size = n ∧ Q e ⟨[], fun i => a.tmps.getD i undef⟩ ⟨[], w', [], [], true⟩) a w
def yIV (P : Program) (an : List LA) (rp : List Nat) (c : Code) (Q : Kx3) (f : FA) (s : St) : Prop := match yxK rp an with
 | some l => atA l (wpV P c l Q) f s
 | none => False
def dirty (s : St) : St := match s with
 | ⟨mem, w, S, N, _⟩ => ⟨mem, w, S, N, false⟩
abbrev Gx := List Nat → Kx3 → FA → St → Prop
def yz0 (P : Program) (an : List LA) (G : Gx) : List Nat → Code → Kx3 → FA → St → Prop
 | _, .skip, Q, f, s => Q .normal f s
 | rp, .region id ops draw, Q, f, s => match draw with
  | false => ybM P ops ops.toList (Q .normal) f s
  | true => match yIA (fun o => yc6 P o && Nat.beq (yr9 P o) 0) ops.toList && yz5 P ops with
   | true => ybM P ops ops.toList (fun f s => Q .normal f (dirty s)) f s
   | false => match yGI P ops (yGA P ops) with
    | true => yhP P ops (clo ops) (yGA P ops) [] [] (Q .normal) f (dirty s)
    | false => match yIN P ops (yGA P ops) with
     | none => yIV P an rp (.region id ops true) Q f s
     | some (X, c, Z, a, Y) => match yGB P ops X c Z a Y with
      | true => yhP P ops (clo ops) (X ++ a :: c :: (Z ++ Y)) [] [] (Q .normal) f (dirty s) ∧ yhP P ops (clo ops) (X ++ c :: (Z ++ a :: Y)) [] [] (Q .normal) f (dirty s)
      | false => yIV P an rp (.region id ops true) Q f s
 | rp, .seq a _, Q, f, s => yz0 P an G (0 :: rp) a (yMj an (1 :: rp) (G (1 :: rp)) Q) f s
 | rp, .cond c a b, Q, f, s => match evA f c with
  | .bool t => brB t (yz0 P an G (0 :: rp) a Q f s) (yz0 P an G (1 :: rp) b Q f s)
  | _ => False
 | rp, .block id c, Q, f, s => yz0 P an G (0 :: rp) c (ysK id Q) f s
 | rp, .loop _, Q, f, s => match yxK (0 :: rp) an with
  | some a => atA a (yE6 a (G (0 :: rp)) Q) f s
  | none => False
 | _, .exit id, Q, f, s => Q (.exit id) f s
 | _, .ret, Q, f, s => Q .ret f s
 | _, .label _, Q, f, s => Q .normal f s
 | rp, c, Q, f, s => yIV P an rp c Q f s
def yIW : Code → Nat → Code
 | .seq a _, 0 => a
 | .seq _ b, _ => b
 | .cond _ a _, 0 => a
 | .cond _ _ b, _ => b
 | .block _ c, _ => c
 | .loop c, _ => c
 | c, _ => c
def ysA (root : Code) : List Nat → Code
 | [] => root
 | i :: rp => yIW (ysA root rp) i
def dnF (P : Program) (an : List LA) (root : Code) (k : Nat) : Gx :=
 Nat.rec (motive := fun _ => Gx) (fun _ _ _ _ => False) (fun _ G rp Q f s => yz0 P an G rp (ysA root rp) Q f s) k
abbrev Kh := List Value → List TB → World → Prop
def ysL (P : Program) (an : List LA) (root : Code) : Nat → List Nat → Code → List Nat → List Kh → Kx3 → Kx3
 | _, _, _, [], _, Q => Q
 | k, rp, .seq a _, 0 :: p, Ks, Q => ysL P an root k (0 :: rp) a p Ks (yMj an (1 :: rp) (dnF P an root k (1 :: rp)) Q)
 | k, rp, .seq _ b, _ :: p, Ks, Q => ysL P an root (Nat.pred k) (1 :: rp) b p Ks Q
 | k, rp, .cond _ a _, 0 :: p, Ks, Q => ysL P an root k (0 :: rp) a p Ks Q
 | k, rp, .cond _ _ b, _ :: p, Ks, Q => ysL P an root k (1 :: rp) b p Ks Q
 | k, rp, .block i c, _ :: p, Ks, Q => ysL P an root k (0 :: rp) c p Ks (ysK i Q)
 | k, rp, .loop c, _ :: p, K :: Ks, Q => match yxK (0 :: rp) an with
  | some a => ysL P an root (Nat.pred k) (0 :: rp) c p Ks (yqU (atA a K) Q)
  | none => Q
 | _, _, _, _, _, Q => Q
def yaO (P : Program) (an : List LA) (c : Code) (p : List Nat) (Ks : List Kh) (Q : Kx3) : Kx3 := ysL P an c 399 [] c p Ks Q
def yqV (P : Program) : List ResultVar → FA → St → (List Value → Prop) → Prop
 | [], _, _, F => F []
 | .tmp t :: r, f, s, F => yqV P r f s fun vs => F (f.get t :: vs)
 | .cell a t :: r, f, s, F => match f.tag a with
  | some (k, off) => match s.mem[k]? with
   | some tb => yIP P t (tb.cs.drop off) fun v => yqV P r f s fun vs => F (v :: vs)
   | none => False
  | none => match f.get a, (P.underlying t).isSome with
   | .pointer (some a), true => ldT P t s.w a fun v => yqV P r f s fun vs => F (v :: vs)
   | _, _ => False
def yuU : List ResultVar → List Operand
 | [] => []
 | .tmp t :: r => .tmp t :: yuU r
 | .cell _ _ :: r => yuU r
def ya7 (P : Program) (fn : Func) (np : List Nat) (R : VWP) : Kx3
 | .normal, f, s | .ret, f, s => yhO (ycK (np ++ ygO f (yuU fn.results.toList)) s) fun s => yqV P fn.results.toList f s fun vs => match vs with
  | [v] => R v s.w
  | vs => R (.tuple ⟨vs⟩) s.w
 | _, _, _ => False
def yE7 (n : Nat) : List Oper → Bool
 | [] => true
 | o :: r => match o.dst with
  | none => yE7 n r
  | some d => match Nat.blt d n with
   | true => yE7 n r
   | false => false
def yd8 (n : Nat) : Code → Bool
 | .region _ ops _ => yE7 n ops.toList
 | .seq a b => match yd8 n a with
  | true => yd8 n b
  | false => false
 | .cond _ a b => match yd8 n a with
  | true => yd8 n b
  | false => false
 | .block _ c => yd8 n c
 | .loop c => yd8 n c
 | _ => true
def ylN : Nat → List Value → List (Nat × Value × Tag)
 | _, [] => []
 | i, v :: r => (i, v, none) :: ylN (i + 1) r
theorem ya6 (b o j : Nat) : (⟨b, o, none⟩ : Addr).add j = ⟨b, o + j, none⟩ := by
 unfold Addr.add; split
 ·rename_i h; subst h; rfl
 ·rfl
theorem ycZ {mem : List TB} {x : Nat} : ∀ {l : List Nat}, x ∈ yxJ mem l ↔ ∃ i ∈ l, ∃ tb, mem[i]? = some tb ∧ x = tb.b
 | [] => by simp [yxJ]
 | i :: r => by
  unfold yxJ
  split
  ·rename_i tb ht
   rw [List.mem_cons, ycZ]
   constructor
   ·rintro (rfl | ⟨j, hj, h⟩)
    ·exact ⟨i, by simp, tb, ht, rfl⟩
    ·exact ⟨j, by simp [hj], h⟩
   ·rintro ⟨j, hj, tb', h1, h2⟩
    rcases List.mem_cons.1 hj with rfl | hj
    ·rw [ht] at h1; cases h1; exact .inl h2
    ·exact .inr ⟨j, hj, tb', h1, h2⟩
  ·rename_i hn
   rw [ycZ]
   constructor
   ·rintro ⟨j, hj, h⟩; exact ⟨j, by simp [hj], h⟩
   ·rintro ⟨j, hj, tb', h1, h2⟩
    rcases List.mem_cons.1 hj with rfl | hj
    ·rw [hn] at h1; cases h1
    ·exact ⟨j, hj, tb', h1, h2⟩
structure Inv (f : FA) (s : St) (wa : World) : Prop where
 at_ : ∀ (k : Nat) tb, s.mem[k]? = some tb → wa.heap[tb.b]? = some (.cells tb.cs.toArray tb.T)
 nd : ∀ (i j : Nat) x y, s.mem[i]? = some x → s.mem[j]? = some y → x.b = y.b → i = j
 tags : ∀ (i k off : Nat), f.tag i = some (k, off) → ∃ tb, s.mem[k]? = some tb ∧ f.get i = .pointer (some ⟨tb.b, off, none⟩)
 mod : Mod (yxJ s.mem s.S) s.w wa
 new : ∀ k ∈ s.N, ∀ tb, s.mem[k]? = some tb → s.w.heap.size ≤ tb.b
 nn : s.N.Nodup ∧ ∀ k ∈ s.N, k < s.mem.length
 cl : s.cl = true → wa = s.w
structure OpI (f : FA) (s : St) (v : Value) (t : Tag) (wa : World) : Prop extends Inv f s wa where
 tag : ∀ k off, t = some (k, off) → ∃ tb, s.mem[k]? = some tb ∧ v = .pointer (some ⟨tb.b, off, none⟩)
theorem Inv.op {f : FA} {s : St} {v : Value} {wa : World} (h : Inv f s wa) : OpI f s v none wa := ⟨h, by simp⟩
theorem Inv.lt {f : FA} {s : St} {wa : World} (h : Inv f s wa) {k : Nat} {tb : TB} (hk : s.mem[k]? = some tb) : tb.b < wa.heap.size := yaK (h.at_ k tb hk)
theorem yeZ {w : World} {F : Prop} : ∀ {mem : List TB}, ylY mem w F → (∀ (k : Nat) tb, mem[k]? = some tb → w.heap[tb.b]? = some (.cells tb.cs.toArray tb.T)) → F
 | [], h, _ => h
 | tb :: r, h, hm => by
  unfold ylY at h
  have hr : ∀ (k : Nat) tb, r[k]? = some tb → w.heap[tb.b]? = some (.cells tb.cs.toArray tb.T) := fun k tb hk => hm (k + 1) tb (by simpa using hk)
  split at h
  ·exact yeZ (h (hm 0 tb (by simp))) hr
  ·exact yeZ h hr
theorem yiA {α : Type} : ∀ {l : List α} {k : List α → Prop}, yAc l k → k l
 | [], _, h => h
 | x :: r, k, h => yiA (l := r) (k := fun r' => k (x :: r')) h
theorem ye0 : ∀ {l : List TB} {k : List TB → Prop}, ylZ l k → k l
 | [], _, h => h
 | ⟨b, T, cs, true⟩ :: r, k, h => ye0 (l := r) (k := fun r' => k (⟨b, T, cs, true⟩ :: r')) (yiA h)
 | ⟨b, T, cs, false⟩ :: r, k, h => ye0 (l := r) (k := fun r' => k (⟨b, T, cs, false⟩ :: r')) (yiA h)
theorem yiB {mem : List TB} (nd : ∀ (i j : Nat) x y, mem[i]? = some x → mem[j]? = some y → x.b = y.b → i = j) : ∀ {l : List Nat}, l.Nodup → (yxJ mem l).Nodup
 | [], _ => by simp [yxJ]
 | i :: r, h => by
  have h := List.nodup_cons.1 h
  unfold yxJ
  split
  ·rename_i tb ht
   refine List.nodup_cons.2 ⟨fun hm => ?_, yiB nd h.2⟩
   obtain ⟨j, hj, tb', h1, h2⟩ := ycZ.1 hm
   have := nd i j tb tb' ht h1 h2
   subst this; exact h.1 hj
  ·exact yiB nd h.2
theorem ydJ {s : St} {K : St → Prop} {f : FA} {wa : World} (h : yhO s K) (hI : Inv f s wa) : ∃ s', K s' ∧ Inv f s' wa ∧ s'.w = wa ∧ s'.mem = s.mem ∧ s'.cl = true := by
 obtain ⟨mem, w, S, N, cl⟩ := s
 unfold yhO at h
 simp only at h
 split at h
 ·exact ⟨_, h, hI, (hI.cl rfl).symm, rfl, rfl⟩
 ·have := ye0 h wa ⟨hI.mod, fun b hb => by
   obtain ⟨i, _, tb, ht, rfl⟩ := ycZ.1 hb
   exact hI.lt ht, yiB hI.nd hI.nn.1⟩
  refine ⟨_, yeZ this hI.at_, ⟨hI.at_, hI.nd, hI.tags, ?_, by simp, ⟨by simp, by simp⟩, fun _ => rfl⟩, rfl, rfl, rfl⟩
  exact (Mod.refl wa).less (by simp)
theorem yAf {ids : List Nat} : ∀ {mem : List TB} {i k : Nat}, ((exM ids i mem)[k]?).map (fun tb => (tb.b, tb.T, tb.cs)) = (mem[k]?).map (fun tb => (tb.b, tb.T, tb.cs))
 | [], _, _ => by simp [exM]
 | tb :: r, i, 0 => by
  unfold exM
  split <;> simp
 | tb :: r, i, k + 1 => by
  unfold exM
  simp only [List.getElem?_cons_succ]
  exact yAf
theorem yeK {mem mem' : List TB} (h : ∀ k : Nat, (mem'[k]?).map (fun tb => (tb.b, tb.T, tb.cs)) = (mem[k]?).map (fun tb => (tb.b, tb.T, tb.cs))) {k : Nat} {tb' : TB} (hk : mem'[k]? = some tb') : ∃ tb, mem[k]? = some tb ∧ tb'.b = tb.b ∧ tb'.T = tb.T ∧ tb'.cs = tb.cs := by
 have := h k
 rw [hk] at this
 simp only [Option.map_some] at this
 obtain ⟨tb, h1, h2⟩ := Option.map_eq_some_iff.1 this.symm
 simp only [Prod.mk.injEq] at h2
 exact ⟨tb, h1, h2.1.symm, h2.2.1.symm, h2.2.2.symm⟩
theorem yl0 (ids : List Nat) (s : St) : ∀ k : Nat, ((ycK ids s).mem[k]?).map (fun tb => (tb.b, tb.T, tb.cs)) = (s.mem[k]?).map (fun tb => (tb.b, tb.T, tb.cs)) := by
 intro k
 unfold ycK
 split
 ·rfl
 ·split
  ·exact yAf
  ·rfl
theorem ykB (ids : List Nat) (s : St) : (ycK ids s).w = s.w ∧ (ycK ids s).S = s.S ∧ (ycK ids s).N = s.N ∧ ((ycK ids s).cl = true → s.cl = true) := by
 unfold ycK; split
 ·exact ⟨rfl, rfl, rfl, id⟩
 ·split
  ·exact ⟨rfl, rfl, rfl, by simp⟩
  ·exact ⟨rfl, rfl, rfl, id⟩
theorem ybP {ids : List Nat} {f : FA} {s : St} {wa : World} (hI : Inv f s wa) : Inv f (ycK ids s) wa := by
 have hm := yl0 ids s
 have hm' := fun k => (hm k).symm
 obtain ⟨e1, e2, e3, e4⟩ := ykB ids s
 refine ⟨fun k tb hk => ?_, fun i j x y hx hy hb => ?_, fun i k off ht => ?_, ?_, fun k hk tb ht => ?_, ⟨by rw [e3]; exact hI.nn.1, fun k hk => ?_⟩, fun hc => ?_⟩
 ·obtain ⟨tb0, h0, a, b, c⟩ := yeK hm hk
  rw [a, b, c]; exact hI.at_ k tb0 h0
 ·obtain ⟨x0, hx0, a, _⟩ := yeK hm hx
  obtain ⟨y0, hy0, b, _⟩ := yeK hm hy
  exact hI.nd i j x0 y0 hx0 hy0 (by rw [← a, ← b, hb])
 ·obtain ⟨tb, h1, h2⟩ := hI.tags i k off ht
  obtain ⟨tb', h1', a, _⟩ := yeK hm' h1
  exact ⟨tb', h1', by rw [h2, a]⟩
 ·rw [e1, e2]
  refine hI.mod.less fun x hx _ => ?_
  obtain ⟨i, hi, tb, ht, rfl⟩ := ycZ.1 hx
  obtain ⟨tb', h1', a, _⟩ := yeK hm' ht
  exact ycZ.2 ⟨i, hi, tb', h1', a⟩
 ·rw [e3] at hk
  obtain ⟨tb0, h0, a, _⟩ := yeK hm ht
  rw [e1, a]; exact hI.new k hk tb0 h0
 ·rw [e3] at hk
  have hlt := hI.nn.2 k hk
  obtain ⟨tb', h1', _⟩ := yeK hm' (List.getElem?_eq_getElem hlt)
  exact (List.getElem?_eq_some_iff.1 h1').1
 ·rw [e1]; exact hI.cl (e4 hc)
theorem ysM (f : FA) (d i : Nat) (v : Value) (t : Tag) : (yeY f (some d) v t).get i = if d = i then v else f.get i := by
 obtain ⟨u, js⟩ := f
 simp only [yeY, FA.get, lkV]
 by_cases h : d = i
 ·subst h; simp
 ·have : Nat.beq d i = false := by rw [Bool.eq_false_iff]; intro e; exact h (Nat.eq_of_beq_eq_true e)
  simp [this, h]
theorem yGJ (f : FA) (d i : Nat) (v : Value) (t : Tag) : (yeY f (some d) v t).tag i = if d = i then t else f.tag i := by
 obtain ⟨u, js⟩ := f
 simp only [yeY, FA.tag, lkT]
 by_cases h : d = i
 ·subst h; simp
 ·have : Nat.beq d i = false := by rw [Bool.eq_false_iff]; intro e; exact h (Nat.eq_of_beq_eq_true e)
  simp [this, h]
theorem OpI.put {f : FA} {s : St} {v : Value} {t : Tag} {wa : World} (h : OpI f s v t wa) (d : Option Tmp) : Inv (yeY f d v t) s wa := by
 refine ⟨h.at_, h.nd, fun i k off ht => ?_, h.mod, h.new, h.nn, h.cl⟩
 cases d with
 | none => exact h.tags i k off ht
 | some d =>
  rw [yGJ] at ht
  rw [ysM]
  split at ht
  ·rename_i e; rw [if_pos e]; exact h.tag k off ht
  ·rename_i e; rw [if_neg e]; exact h.tags i k off ht
structure Rel (n : Nat) (f : FA) (a : Act) : Prop where
 get : ∀ i, a.tmps.getD i undef = f.get i
 defers : a.defers = []
 size : a.tmps.size = n
theorem Rel.eval {n : Nat} {f : FA} {a : Act} (h : Rel n f a) : a.eval = evA f := by
 funext x
 cases x with
 | tmp t => simpa [Act.eval, evA] using h.get t
 | _ => simp [Act.eval, evA]
theorem Rel.put {n : Nat} {f : FA} {a : Act} (h : Rel n f a) (d : Option Tmp) (hd : ∀ k, d = some k → k < n) (v : Value) (t : Tag) : Rel n (yeY f d v t) (a.put d v) := by
 cases d with
 | none => exact ⟨h.get, h.defers, h.size⟩
 | some d =>
  have hd := hd d rfl
  have hs := h.size
  refine ⟨fun i => ?_, h.defers, by simp [Act.put, hs]⟩
  rw [ysM]
  have := h.get i
  simp only [Act.put, Array.getD_eq_getD_getElem?, Array.getElem?_setIfInBounds] at this ⊢
  by_cases e : d = i
  ·subst e; simp [hs, hd]
  ·simp [e, this]
theorem Rel.bool {n : Nat} {f : FA} {a : Act} (h : Rel n f a) {d : Nat} {t : Bool} (hd : f.get d = .bool t) : a.tmps[d]? = some (.bool t) := by
 have := h.get d
 rw [hd, Array.getD_eq_getD_getElem?] at this
 cases hx : a.tmps[d]? with
 | none => rw [hx] at this; simp [undef] at this
 | some u => rw [hx] at this; simpa using this
theorem ynS {f : FA} {d : Nat} {t : Bool} (h : f.get d = .bool t) {s : St} {wa : World} (hI : Inv f s wa) : Inv (yeY f (some d) (.bool t) none) s wa := OpI.put (v := .bool t) (t := none) hI.op (some d)
theorem ynT {n : Nat} {f : FA} {a : Act} {d : Nat} {t : Bool} (h : f.get d = .bool t) (hr : Rel n f a) : Rel n (yeY f (some d) (.bool t) none) a := by
 refine ⟨fun i => ?_, hr.defers, hr.size⟩
 rw [ysM]
 split
 ·rename_i e; subst e; rw [hr.get, h]
 ·exact hr.get i
theorem ynU {w : World} {a : Addr} : ∀ {ls : List Leaf} {cs : List Value} {i : Nat} {F : List Value → Prop}, yIy ls cs = true → (∀ j v, cs[j]? = some v → w.cell? (a.add (i + j)) = some v) → F (cs.take ls.length) → ldL w a i ls F
  | [], cs, i, F, _, _, hF => by simpa [ldL] using hF
  | l :: ls, [], i, F, h, _, _ => by cases l <;> simp [yIy] at h
  | l :: ls, v :: vs, i, F, h, hc, hF => by
    have h0 := hc 0 v (by simp)
    have hr : ∀ j u, vs[j]? = some u → w.cell? (a.add (i + 1 + j)) = some u := fun j u hu => by rw [show i + 1 + j = i + (j + 1) by omega]; exact hc (j + 1) u (by simpa using hu)
    simp only [Nat.add_zero] at h0
    simp only [List.length_cons, List.take_succ_cons] at hF
    unfold yIy at h
    split at h
    case h_2 => cases h
    rename_i hl
    unfold okL at hl
    split at hl
    · rename_i k k' x
      have : k = k' := by simpa using hl
      subst this
      simp only [ldL, yaF, h0]
      exact ⟨trivial, ynU h hr hF⟩
    all_goals first
      | (cases hl; done)
      | (simp only [ldL, ya1, yaT, yxA, yGw, yaS, yGx, h0]
         exact ynU h hr hF)
theorem ynV {P : Program} {t : TypeId} {cs : List Value} {K : Value → Prop} {w : World} {a : Addr} (h : yIP P t cs K) (hc : ∀ (j : Nat) v, cs[j]? = some v → w.cell? (a.add j) = some v) : ∃ v, K v ∧ ∀ w', Mod [] w w' → (Instr.loadAt t (.pointer (some a))).run P w' = .ok v w' := by
 unfold yIP at h
 cases h1 : (yeH P 20 t).length == P.cellsOf t with
 | false => rw [h1] at h; exact h.elim
 | true =>
 rw [h1] at h
 cases h2 : yIy (yeH P 20 t) cs with
 | false => rw [h2] at h; exact h.elim
 | true =>
 rw [h2] at h
 cases h3 : (P.underlying t).isSome with
 | false => rw [h3] at h; exact h.elim
 | true =>
 rw [h3] at h
 simp only at h
 have key : ∀ {F : Value → Prop}, ((match yi9 P t, cs.take (yeH P 20 t).length with
  | true, vs => F (.agg ⟨vs⟩)
  | false, [v] => F v
  | _, _ => False)) → ldT P t w a F := fun {F} hF => by
  unfold ldT
  rw [h1]
  exact ynU h2 (by simpa using hc) hF
 have h1 : (yeH P 20 t).length = P.cellsOf t := by simpa using h1
 refine ynO (key ?_) h3
 cases h4 : yi9 P t with
 | true => rw [h4] at h; rw [h1]; exact h
 | false =>
  rw [h4] at h
  simp only at h ⊢
  split at h
  ·rename_i v r l hl
   rw [hl]
   simpa using h
  ·exact h.elim
theorem ynW {w : World} {tb : TB} (h : w.heap[tb.b]? = some (.cells tb.cs.toArray tb.T)) (off : Nat) : ∀ (j : Nat) v, (tb.cs.drop off)[j]? = some v → w.cell? ((⟨tb.b, off, none⟩ : Addr).add j) = some v := by
 intro j v hv
 rw [ya6, yaY h]
 simpa using hv
theorem Inv.tag_of {f : FA} {s : St} {wa : World} (hI : Inv f s wa) {x : Operand} {k off : Nat} (h : ylL f x = some (k, off)) : ∃ tb, s.mem[k]? = some tb ∧ evA f x = .pointer (some ⟨tb.b, off, none⟩) := by
 cases x with
 | tmp t => exact hI.tags t k off h
 | _ => cases h
theorem yuV {P : Program} {e : TypeId} {z : Value} (hz : yd3 P (zeroValue e) = some z) (w : World) : (Instr.alloc e true (.tuple #[])).run P w = .ok (.pointer (some ⟨w.heap.size, 0, none⟩)) (w.alloc (.cells z.cells e)) := by
 simp [Instr.alloc, Sem.run_bind, ybW hz, Result.andThen, newVar, newRow, newObj, Sem.run]
theorem yAg {P : Program} {e : TypeId} {z : Value} (w : World) : (Instr.box e z).run P w = .ok (.pointer (some ⟨w.heap.size, 0, none⟩)) (w.alloc (.cells z.cells e)) := by
 simp [Instr.box, Sem.run_bind, Result.andThen, newVar, newRow, newObj, Sem.run]
theorem ykC {P : Program} {t : TypeId} (h : (P.info? t).isSome = true) (w : World) : (sizeOf t).run P w = .ok (P.cellsOf t) w := by
 obtain ⟨i, hi⟩ := Option.isSome_iff_exists.1 h
 simp [sizeOf, typeInfo, Program.cellsOf, hi, Sem.run_bind, program, Sem.run, Result.andThen]
theorem yAh {f : FA} {s : St} {wa : World} (hI : Inv f s wa) (T : TypeId) (c : Array Value) :
  OpI f ⟨s.mem ++ [⟨wa.heap.size, T, c.toList, false⟩], s.w, s.S, s.mem.length :: s.N, false⟩ (.pointer (some ⟨wa.heap.size, 0, none⟩)) (some (s.mem.length, 0)) (wa.alloc (.cells c T)) := by
 have M : Mod [] wa (wa.alloc (.cells c T)) := Mod.of_below ((Below.refl _ _).alloc (Nat.le_refl _) _)
 have hnew := (MapKept.heap_alloc wa (.cells c T)).1
 have get : ∀ (k : Nat) tb, (s.mem ++ [(⟨wa.heap.size, T, c.toList, false⟩ : TB)])[k]? = some tb → s.mem[k]? = some tb ∨ (k = s.mem.length ∧ tb = ⟨wa.heap.size, T, c.toList, false⟩) := fun k tb h => by
  by_cases hk : k < s.mem.length
  ·rw [List.getElem?_append_left hk] at h; exact .inl h
  ·rw [List.getElem?_append_right (by omega)] at h
   by_cases hk' : k = s.mem.length
   ·subst hk'; simp at h; exact .inr ⟨rfl, h.symm⟩
   ·rw [List.getElem?_eq_none (by simp; omega)] at h; cases h
 have keep : ∀ (k : Nat) tb, s.mem[k]? = some tb → (s.mem ++ [(⟨wa.heap.size, T, c.toList, false⟩ : TB)])[k]? = some tb := fun k tb h => by
  rw [List.getElem?_append_left (List.getElem?_eq_some_iff.1 h).1]; exact h
 refine ⟨⟨fun k tb hk => ?_, fun i j x y hx hy hb => ?_, fun i k off ht => ?_, ?_, fun k hk tb ht => ?_, ⟨List.nodup_cons.2 ⟨fun h => Nat.lt_irrefl _ (hI.nn.2 _ h), hI.nn.1⟩, fun k hk => by
   rw [List.length_append]
   rcases List.mem_cons.1 hk with rfl | hk
   ·simp
   ·have := hI.nn.2 k hk; omega⟩, by simp⟩, fun k off h => ?_⟩
 ·rcases get k tb hk with h | ⟨_, rfl⟩
  ·exact M.keep0 (hI.at_ k tb h)
  ·simpa using hnew
 ·rcases get i x hx with h | ⟨h, rfl⟩ <;> rcases get j y hy with h' | ⟨h', rfl⟩
  ·exact hI.nd i j x y h h' hb
  ·have := hI.lt h; simp at hb; omega
  ·have := hI.lt h'; simp at hb; omega
  ·omega
 ·obtain ⟨tb, h1, h2⟩ := hI.tags i k off ht
  exact ⟨tb, keep k tb h1, h2⟩
 ·refine (hI.mod.trans M).less fun x hx _ => ?_
  simp only [List.append_nil] at hx
  obtain ⟨i, hi, tb, ht, rfl⟩ := ycZ.1 hx
  exact ycZ.2 ⟨i, hi, tb, keep i tb ht, rfl⟩
 ·have hs := hI.mod.size
  rcases get k tb ht with h | ⟨_, rfl⟩
  ·rcases List.mem_cons.1 hk with rfl | hk
   ·have := (List.getElem?_eq_some_iff.1 h).1; omega
   ·exact hI.new k hk tb h
  ·exact hs
 ·cases h
  exact ⟨⟨wa.heap.size, T, c.toList, false⟩, by rw [List.getElem?_append_right (Nat.le_refl _)]; simp, rfl⟩
theorem yjT {P : Program} {f : FA} {s : St} {wa : World} {K : KOp} {T : TypeId} {z : Value} (h : yMi s T z.cells.toList K) (hI : Inv f s wa) :
  ∃ t s', K (.pointer (some ⟨wa.heap.size, 0, none⟩)) t s' ∧ OpI f s' (.pointer (some ⟨wa.heap.size, 0, none⟩)) t (wa.alloc (.cells z.cells T)) ∧ (∀ (k : Nat) tb, s.mem[k]? = some tb → ∃ tb', s'.mem[k]? = some tb' ∧ tb'.b = tb.b) :=
 ⟨_, _, ye0 (h wa.heap.size hI.mod.size), yAh hI T z.cells, fun k tb hk => ⟨tb, by rw [List.getElem?_append_left (List.getElem?_eq_some_iff.1 hk).1]; exact hk, rfl⟩⟩
theorem yAi : ∀ (cs : List Value) (o : Nat) (vs : List Value) (c : Array Value), o + vs.length ≤ cs.length → c.toList = cs → (ybX c o vs).toList = yeJ cs o vs := by
 have key : ∀ (vs : List Value) (c : Array Value) (o : Nat) , o + vs.length ≤ c.size → (ybX c o vs).toList = c.toList.take o ++ vs ++ c.toList.drop (o + vs.length) := by
  intro vs
  induction vs with
  | nil => intro c o h; simp [ybX]
  | cons v r ih =>
   intro c o h
   simp only [List.length_cons] at h
   rw [ybX, ih _ _ (by simp; omega)]
   simp only [Array.toList_setIfInBounds]
   have ho : o < c.toList.length := by simp; omega
   have e1 : (c.toList.set o v).take (o + 1) = c.toList.take o ++ [v] := by
    rw [List.take_succ_eq_append_getElem (by simpa using ho), List.take_set_of_le (Nat.le_refl _)]
    simp
   rw [e1, List.drop_set_of_lt (by omega)]
   simp [Nat.add_assoc, Nat.add_comm 1]
 have key2 : ∀ (cs : List Value) (o : Nat) (vs : List Value), o + vs.length ≤ cs.length → yeJ cs o vs = cs.take o ++ vs ++ cs.drop (o + vs.length) := by
  intro cs
  induction cs with
  | nil => intro o vs h; simp at h; obtain ⟨rfl, h⟩ := h; subst h; simp [yeJ]
  | cons x r ih =>
   intro o vs h
   cases o with
   | succ o =>
    simp only [List.length_cons] at h
    rw [yeJ, ih o vs (by omega)]
    simp [Nat.add_right_comm o 1]
   | zero =>
    cases vs with
    | nil => simp [yeJ]
    | cons v vs =>
     simp only [List.length_cons] at h
     rw [yeJ, ih 0 vs (by omega)]
     simp
 intro cs o vs c h e
 rw [key vs c o (by simpa [← e] using h), key2 cs o vs h, e]
theorem ynX : ∀ {l : List Nat} {i : Nat}, yDz l i = true ↔ i ∈ l
 | [], i => by simp [yDz]
 | x :: r, i => by
  unfold yDz
  split
  ·rename_i h; have h := Nat.eq_of_beq_eq_true h; subst h; simp
  ·rename_i h; have h := Nat.ne_of_beq_eq_false h
   rw [ynX, List.mem_cons]
   constructor
   ·exact .inr
   ·rintro (rfl | h')
    ·exact absurd rfl h
    ·exact h'
theorem yAj {f : FA} {s : St} {wa wb : World} {k off : Nat} {tb : TB} {vs : List Value} (hI : Inv f s wa) (hk : s.mem[k]? = some tb) (hs : off + vs.length ≤ tb.cs.length)
  (hb : wb.heap[tb.b]? = some (.cells (ybX tb.cs.toArray off vs) tb.T)) (hM : Mod [tb.b] wa wb) :
  OpI f ⟨s.mem.set k ⟨tb.b, tb.T, yeJ tb.cs off vs, tb.ex⟩, s.w, yL9 s.N s.S k, s.N, false⟩ undef none wb := by
 have hkl := (List.getElem?_eq_some_iff.1 hk).1
 have get : ∀ (j : Nat) x, (s.mem.set k ⟨tb.b, tb.T, yeJ tb.cs off vs, tb.ex⟩)[j]? = some x → (j = k ∧ x = ⟨tb.b, tb.T, yeJ tb.cs off vs, tb.ex⟩) ∨ (j ≠ k ∧ s.mem[j]? = some x) := fun j x h => by
  by_cases hj : j = k
  ·subst hj; rw [List.getElem?_set_self hkl] at h; cases h; exact .inl ⟨rfl, rfl⟩
  ·rw [List.getElem?_set_ne (Ne.symm hj)] at h; exact .inr ⟨hj, h⟩
 have old : ∀ (j : Nat) x, (s.mem.set k ⟨tb.b, tb.T, yeJ tb.cs off vs, tb.ex⟩)[j]? = some x → ∃ y, s.mem[j]? = some y ∧ y.b = x.b := fun j x h => by
  rcases get j x h with ⟨rfl, rfl⟩ | ⟨_, h⟩
  ·exact ⟨tb, hk, rfl⟩
  ·exact ⟨x, h, rfl⟩
 have fwd : ∀ (j : Nat) x, s.mem[j]? = some x → ∃ y, (s.mem.set k ⟨tb.b, tb.T, yeJ tb.cs off vs, tb.ex⟩)[j]? = some y ∧ y.b = x.b := fun j x h => by
  by_cases hj : j = k
  ·subst hj; rw [hk] at h; cases h; exact ⟨_, List.getElem?_set_self hkl, rfl⟩
  ·exact ⟨x, by rw [List.getElem?_set_ne (Ne.symm hj)]; exact h, rfl⟩
 refine Inv.op ⟨fun j x hj => ?_, fun i j x y hx hy hxy => ?_, fun i j o ht => ?_, ?_, fun j hj x hx => ?_, ⟨hI.nn.1, fun j hj => by rw [List.length_set]; exact hI.nn.2 j hj⟩, by simp⟩
 ·rcases get j x hj with ⟨rfl, rfl⟩ | ⟨hne, h⟩
  ·simp only
   rw [hb, ← yAi tb.cs off vs tb.cs.toArray hs (by simp)]
  ·refine hM.keep (hI.at_ j x h) ?_
   simp only [List.mem_singleton]
   exact fun e => hne (hI.nd j k x tb h hk e)
 ·obtain ⟨x', h1, e1⟩ := old i x hx
  obtain ⟨y', h2, e2⟩ := old j y hy
  exact hI.nd i j x' y' h1 h2 (by rw [e1, e2, hxy])
 ·obtain ⟨x, h1, h2⟩ := hI.tags i j o ht
  obtain ⟨y, h3, h4⟩ := fwd j x h1
  exact ⟨y, h3, by rw [h2, h4]⟩
 ·refine (hI.mod.trans hM).less fun x hx hlt => ?_
  rcases List.mem_append.1 hx with hx | hx
  ·obtain ⟨i, hi, t, ht, rfl⟩ := ycZ.1 hx
   obtain ⟨y, h3, h4⟩ := fwd i t ht
   refine ycZ.2 ⟨i, ?_, y, h3, h4.symm⟩
   simp only at hi ⊢
   unfold yL9
   split
   ·exact List.mem_cons_of_mem _ hi
   ·exact hi
  ·simp at hx; subst hx
   obtain ⟨y, h3, h4⟩ := fwd k tb hk
   refine ycZ.2 ⟨k, ?_, y, h3, h4.symm⟩
   simp only
   unfold yL9
   split
   ·simp
   ·rename_i hn
    cases hN : yDz s.N k with
    | true => have := hI.new k (ynX.1 hN) tb hk; omega
    | false =>
     cases hS : yDz s.S k with
     | true => exact ynX.1 hS
     | false => exact absurd hS (by simpa using hn hN)
 ·obtain ⟨y, h1, h2⟩ := old j x hx
  rw [← h2]; exact hI.new j hj y h1
theorem yAk {mem : List TB} {w w' : World} {F : Prop} (h : yGC mem w w' F) : (∀ (k : Nat) tb, mem[k]? = some tb → tb.b < w.heap.size → w'.heap[tb.b]? = w.heap[tb.b]?) ∧ F := by
 unfold yGC at h
 split at h
 ·exact ⟨by simp, h⟩
 ·obtain ⟨h1, h2⟩ := h
  exact ⟨fun k tb hk hl => h1 _ (List.mem_map.2 ⟨tb, List.mem_of_getElem? hk, rfl⟩) hl (by simp) (by simp), h2⟩
theorem yAl {P : Program} {w' : World} : ∀ {mem : List TB} {F : List TB → Prop}, reD P w' mem F → ∃ mem', F mem' ∧ mem'.length = mem.length ∧ ∀ (k : Nat) tb, mem[k]? = some tb → ∃ tb', mem'[k]? = some tb' ∧ tb'.b = tb.b ∧ (tb.ex = false → tb' = tb) ∧ (tb.ex = true → w'.heap[tb'.b]? = some (.cells tb'.cs.toArray tb'.T))
 | [], F, h => ⟨[], h, rfl, by simp⟩
 | tb :: r, F, h => by
  unfold reD at h
  have fin : ∀ {x : TB}, x.b = tb.b → (tb.ex = false → x = tb) → (tb.ex = true → w'.heap[x.b]? = some (.cells x.cs.toArray x.T)) → reD P w' r (fun m => F (x :: m)) → ∃ mem', F mem' ∧ mem'.length = (tb :: r).length ∧ ∀ (k : Nat) t, (tb :: r)[k]? = some t → ∃ t', mem'[k]? = some t' ∧ t'.b = t.b ∧ (t.ex = false → t' = t) ∧ (t.ex = true → w'.heap[t'.b]? = some (.cells t'.cs.toArray t'.T)) := fun {x} e1 e2 e3 h => by
   obtain ⟨m, h1, h2, h3⟩ := yAl h
   refine ⟨x :: m, h1, by simp [h2], fun k t hk => ?_⟩
   cases k with
   | zero => simp at hk; subst hk; exact ⟨x, by simp, e1, e2, e3⟩
   | succ k => obtain ⟨t', h4, h5⟩ := h3 k t (by simpa using hk); exact ⟨t', by simpa using h4, h5⟩
  split at h
  ·rename_i hx
   exact fin rfl (fun _ => rfl) (fun h => by rw [hx] at h; cases h) h
  ·rename_i hx
   obtain ⟨vs, hv, h⟩ := ydV h
   exact fin (x := ⟨tb.b, tb.T, vs, true⟩) rfl (fun h => by rw [hx] at h; cases h) (fun _ => hv) h
theorem ysN {tb : TB} : ∀ {mem : List TB}, tb ∈ mem → tb.ex = false → tb.b ∈ nxB mem
 | [], h, _ => by cases h
 | x :: r, h, hx => by
  unfold nxB
  rcases List.mem_cons.1 h with rfl | h
  ·rw [hx]; simp
  ·split
   ·exact ysN h hx
   ·exact List.mem_cons_of_mem _ (ysN h hx)
theorem ysO : ∀ {mem : List TB} {p : Nat × TypeId}, p ∈ nxT mem → ∃ tb ∈ mem, tb.b = p.1 ∧ tb.T = p.2
 | [], p, h => by simp [nxT] at h
 | x :: r, p, h => by
  unfold nxT at h
  split at h
  ·obtain ⟨tb, h1, h2⟩ := ysO h; exact ⟨tb, by simp [h1], h2⟩
  ·rcases List.mem_cons.1 h with rfl | h
   ·exact ⟨x, by simp, rfl, rfl⟩
   ·obtain ⟨tb, h1, h2⟩ := ysO h; exact ⟨tb, by simp [h1], h2⟩
theorem ysP : ∀ {mem : List TB} {b : Nat}, b ∈ exB mem → ∃ tb ∈ mem, tb.ex = true ∧ tb.b = b
 | [], b, h => by simp [exB] at h
 | x :: r, b, h => by
  unfold exB at h
  split at h
  ·rename_i hx
   rcases List.mem_cons.1 h with rfl | h
   ·exact ⟨x, by simp, hx, rfl⟩
   ·obtain ⟨tb, h1, h2⟩ := ysP h; exact ⟨tb, by simp [h1], h2⟩
  ·obtain ⟨tb, h1, h2⟩ := ysP h; exact ⟨tb, by simp [h1], h2⟩
theorem yAm {P : Program} {mem : List TB} {w w' : World} {F : List TB → Prop} (h : yGD P mem w w' F) (hnd : ∀ (i j : Nat) x y, mem[i]? = some x → mem[j]? = some y → x.b = y.b → i = j) :
  ∃ mem', F mem' ∧ mem'.length = mem.length ∧ ∀ (k : Nat) tb, mem[k]? = some tb → ∃ tb', mem'[k]? = some tb' ∧ tb'.b = tb.b ∧ (tb.b < w.heap.size → w.heap[tb.b]? = some (.cells tb.cs.toArray tb.T) → w'.heap[tb'.b]? = some (.cells tb'.cs.toArray tb'.T)) := by
 have fin : (∀ b ∈ nxB mem, b < w.heap.size → b ∉ exB mem → (∀ p ∈ nxT mem, p.1 = b → ∃ cs, w.heap[b]? = some (.cells cs p.2)) → w'.heap[b]? = w.heap[b]?) → reD P w' mem F → ∃ mem', F mem' ∧ mem'.length = mem.length ∧ ∀ (k : Nat) tb, mem[k]? = some tb → ∃ tb', mem'[k]? = some tb' ∧ tb'.b = tb.b ∧ (tb.b < w.heap.size → w.heap[tb.b]? = some (.cells tb.cs.toArray tb.T) → w'.heap[tb'.b]? = some (.cells tb'.cs.toArray tb'.T)) := fun hk hr => by
  obtain ⟨m, h1, h2, h3⟩ := yAl hr
  refine ⟨m, h1, h2, fun k tb hm => ?_⟩
  obtain ⟨t', h4, h5, h6, h7⟩ := h3 k tb hm
  refine ⟨t', h4, h5, fun hl hc => ?_⟩
  cases hx : tb.ex with
  | true => exact h7 hx
  | false =>
   have hty : ∀ p ∈ nxT mem, p.1 = tb.b → ∃ cs, w.heap[tb.b]? = some (.cells cs p.2) := fun p hp hpb => by
    obtain ⟨y, hy, hyb, hyT⟩ := ysO hp
    obtain ⟨j, hj⟩ := List.mem_iff_getElem?.1 hy
    have := hnd k j tb y hm hj (by rw [← hpb, ← hyb])
    subst this
    rw [hm] at hj
    cases hj
    exact ⟨_, by rw [← hyT]; exact hc⟩
   have hne : tb.b ∉ exB mem := fun he => by
    obtain ⟨y, hy, hye, hyb⟩ := ysP he
    obtain ⟨j, hj⟩ := List.mem_iff_getElem?.1 hy
    have := hnd k j tb y hm hj hyb.symm
    subst this
    rw [hm] at hj
    cases hj
    rw [hx] at hye; cases hye
   refine (by rw [h6 hx, hk _ (ysN (List.mem_of_getElem? hm) hx) hl hne hty]; exact hc)
 unfold yGD at h
 split at h
 ·rename_i hn
  exact fin (by rw [hn]; simp) h
 ·split at h
  ·exact fin (fun b hb hl _ _ => h.1 b hb hl (by simp) (by simp)) h.2
  ·exact fin h.1 h.2
theorem yhQ {f : FA} {s : St} {wa w' : World} {mem : List TB} (hI : Inv f s wa) (hl : mem.length = s.mem.length)
  (hm : ∀ (k : Nat) tb, s.mem[k]? = some tb → ∃ tb', mem[k]? = some tb' ∧ tb'.b = tb.b ∧ w'.heap[tb'.b]? = some (.cells tb'.cs.toArray tb'.T)) : Inv f ⟨mem, w', [], [], true⟩ w' := by
 have back : ∀ (k : Nat) x, mem[k]? = some x → ∃ tb, s.mem[k]? = some tb ∧ x.b = tb.b ∧ w'.heap[x.b]? = some (.cells x.cs.toArray x.T) := fun k x h => by
  have hk : k < s.mem.length := by rw [← hl]; exact (List.getElem?_eq_some_iff.1 h).1
  obtain ⟨tb', h1, h2, h3⟩ := hm k s.mem[k] (by simp [hk])
  rw [h] at h1; cases h1
  exact ⟨_, by simp [hk], h2, h3⟩
 refine ⟨fun k x hk => (back k x hk).choose_spec.2.2, fun i j x y hx hy hb => ?_, fun i k off ht => ?_, (Mod.refl w').less (by simp), by simp, ⟨by simp, by simp⟩, fun _ => rfl⟩
 ·obtain ⟨x', h1, e1, _⟩ := back i x hx
  obtain ⟨y', h2, e2, _⟩ := back j y hy
  exact hI.nd i j x' y' h1 h2 (by rw [← e1, ← e2, hb])
 ·obtain ⟨tb, h1, h2⟩ := hI.tags i k off ht
  obtain ⟨tb', h3, h4, _⟩ := hm k tb h1
  exact ⟨tb', h3, by rw [h2, h4]⟩
def ybN (s s' : St) : Prop := ∀ (k : Nat) tb, s.mem[k]? = some tb → ∃ tb', s'.mem[k]? = some tb' ∧ tb'.b = tb.b
theorem ybN.refl (s : St) : ybN s s := fun k tb h => ⟨tb, h, rfl⟩
theorem ybN.trans {a b c : St} (h : ybN a b) (k : ybN b c) : ybN a c := fun i tb hi => by
 obtain ⟨t1, h1, e1⟩ := h i tb hi
 obtain ⟨t2, h2, e2⟩ := k i t1 h1
 exact ⟨t2, h2, by rw [e2, e1]⟩
theorem ybN.of_mem {s s' : St} (h : s'.mem = s.mem) : ybN s s' := fun k tb hk => ⟨tb, by rw [h]; exact hk, rfl⟩
theorem ybN.exposed (ids : List Nat) (s : St) : ybN s (ycK ids s) := fun k tb hk => by
 obtain ⟨tb', h1, a, _⟩ := yeK (fun k => (yl0 ids s k).symm) hk
 exact ⟨tb', h1, a.symm⟩
theorem ybN.flush {ids : List Nat} {s s' : St} (h : s'.mem = (ycK ids s).mem) : ybN s s' := (ybN.exposed ids s).trans (ybN.of_mem h)
def yjD (P : Program) (o : Oper) (f : FA) (s : St) (wa : World) (K : KOp) : Prop := ∃ v t s', K v t s' ∧ (OpI f s' v t wa ∧ ybN s s') ∧ ∀ w', (yh6 P o = true → Mod [] wa w') → (execOp (evA f) o).run P w' = .ok (.value v) w'
def yIX (P : Program) (o : Oper) (f : FA) (s : St) (wa : World) (K : KOp) : Prop := yjL P (execOp (evA f) o) wa fun v wa' => ∃ t s', K v t s' ∧ OpI f s' v t wa' ∧ ybN s s'
theorem yjD.eff {P : Program} {o : Oper} {f : FA} {s : St} {wa : World} {K : KOp} (h : yjD P o f s wa K) : yIX P o f s wa K := by
 obtain ⟨v, t, s', h1, h2, h3⟩ := h
 exact ycF (h3 wa (fun _ => Mod.refl wa)) ⟨t, s', h1, h2⟩
theorem yl1 {P : Program} {rest : List Oper} {o : Oper} {f : FA} {s : St} {wa : World} {K : KOp} (h : yzZ P rest o f s K) (he : yr9 P o = 0) (hI : Inv f s wa) : yjD P o f s wa K := by
 unfold yzZ at h
 rw [he] at h
 cases hr : yh6 P o with
 | false =>
  rw [hr] at h
  obtain ⟨v, h1, h2⟩ := yg0 h
  exact ⟨v, none, _, h1, ⟨(ybP hI).op, ybN.exposed _ _⟩, fun w' _ => h2 w' (by rw [hr]; simp)⟩
 | true =>
  rw [hr] at h
  obtain ⟨s', h, hI', hw, hmem, _⟩ := ydJ h (ybP hI)
  obtain ⟨v, h1, h2⟩ := yg0 h
  rw [hw] at h2
  exact ⟨v, none, _, h1, ⟨hI'.op, ybN.flush hmem⟩, h2⟩
theorem yDJ {P : Program} {rest : List Oper} {o : Oper} {f : FA} {s : St} {wa : World} {K : KOp} (h : yzZ P rest o f s K) (hI : Inv f s wa) : yIX P o f s wa K := by
 by_cases he : yr9 P o = 0
 ·exact (yl1 h he hI).eff
 unfold yzZ at h
 split at h
 ·rename_i h0 _; exact absurd h0 he
 obtain ⟨s', h, hI', hw, hmem, _⟩ := ydJ h (ybP hI)
 have hLt := ybN.flush hmem
 split at h
 ·rename_i h0; exact absurd h0 he
 ·rw [hw] at h
  refine ycX (yqN h) fun v w' ⟨hM, hk⟩ => ⟨none, _, hk, (yhQ hI' rfl fun k tb hk => ⟨tb, hk, rfl, hM.keep0 (hI'.at_ k tb hk)⟩).op, hLt.trans (ybN.of_mem rfl)⟩
 ·rw [hw] at h
  refine ycX (yqK h) fun v w' hk => ?_
  obtain ⟨h1, h2⟩ := yAk hk
  exact ⟨none, _, h2, (yhQ hI' rfl fun k tb hk => ⟨tb, hk, rfl, by rw [h1 k tb hk (hI'.lt hk)]; exact hI'.at_ k tb hk⟩).op, hLt.trans (ybN.of_mem rfl)⟩
 ·rw [hw] at h
  refine ycX (yqK h) fun v w' hk => ?_
  obtain ⟨m, h1, h2, h3⟩ := yAm hk hI'.nd
  refine ⟨none, _, h1, (yhQ hI' h2 fun k tb hk => ?_).op, hLt.trans fun k tb hk => ?_⟩
  ·obtain ⟨t', h4, h5, h6⟩ := h3 k tb hk
   exact ⟨t', h4, h5, h6 (hI'.lt hk) (hI'.at_ k tb hk)⟩
  ·obtain ⟨t', h4, h5, _⟩ := h3 k tb hk
   exact ⟨t', h4, h5⟩
theorem yd9 {P : Program} {rest : List Oper} {o : Oper} {f : FA} {s : St} {wa : World} {K : KOp} (h : yfQ P rest o f s K) (hI : Inv f s wa) : (yr9 P o = 0 → yjD P o f s wa K) ∧ yIX P o f s wa K := by
 have raw : yzZ P rest o f s K → (yr9 P o = 0 → yjD P o f s wa K) ∧ yIX P o f s wa K := fun h => ⟨fun he => yl1 h he hI, yDJ h hI⟩
 have q : yjD P o f s wa K → (yr9 P o = 0 → yjD P o f s wa K) ∧ yIX P o f s wa K := fun h => ⟨fun _ => h, h.eff⟩
 have val : ∀ {v : Value} {t : Tag} {s' : St}, K v t s' → (OpI f s' v t wa ∧ ybN s s') → (∀ w', (execOp (evA f) o).run P w' = .ok (.value v) w') → yjD P o f s wa K := fun h1 h2 h3 => ⟨_, _, _, h1, h2, fun w' _ => h3 w'⟩
 unfold yfQ at h
 split at h
 ·
  rename_i t a hop
  split at h
  ·rename_i k off ht
   split at h
   ·rename_i tb hk
    obtain ⟨tb', hk', ha⟩ := hI.tag_of ht
    rw [hk] at hk'; cases hk'
    obtain ⟨v, h1, h2⟩ := ynV h (ynW (hI.at_ k tb hk) off)
    refine q ⟨v, none, s, h1, ⟨hI.op, ybN.refl s⟩, fun w' hm => ?_⟩
    simp only [execOp, hop, ha]
    exact ybB (h2 w' (hm (by simp [yh6, hop])))
   ·exact h.elim
  ·exact raw h
 ·
  rename_i t a x hop
  split at h
  ·rename_i k off ht
   have hE := ybP (ids := ygO f [x]) hI
   split at h
   ·rename_i tb hk hsz hd hl
    split at h
    ·rename_i hle
     obtain ⟨tb', hk', ha⟩ := hE.tag_of ht
     rw [hk] at hk'; cases hk'
     have hle := Nat.le_of_ble_eq_true hle
     have e := ykB (ygO f [x]) s
     refine ⟨fun he => absurd he (by simp [yr9, hop]), ?_⟩
     have hst := ydX (F := fun w' => w'.heap[tb.b]? = some (.cells (ybX tb.cs.toArray off (evA f x).cells.toList) tb.T) ∧ Mod [tb.b] wa w') (hE.at_ k tb hk) hl (by simpa using hle) fun w' h1 h2 => ⟨h1, h2⟩
     obtain ⟨w', h1, h2, h3⟩ := ysG (P := P) hst
     obtain ⟨d, hd⟩ := Option.isSome_iff_exists.1 hd
     have hs' : (evA f x).cells.size = P.cellsOf t := by simpa using hsz
     refine yqJ (w' := w') ?_ ⟨none, _, ye0 h, ?_, (ybN.exposed (ygO f [x]) s).trans fun j y hj => ?_⟩
     ·simp [execOp, hop, Instr.storeAt, Instr.sureAddr, storeVar, ha, Sem.run_bind, yb6 hd, Result.andThen, hs', h1]
     ·have := yAj hE hk (by simpa using hle) h2 h3
      rw [e.1, e.2.1, e.2.2.1] at this
      exact this
     ·by_cases hjk : j = k
      ·subst hjk; rw [hk] at hj; cases hj
       exact ⟨_, List.getElem?_set_self (List.getElem?_eq_some_iff.1 hk).1, rfl⟩
      ·exact ⟨y, by rw [List.getElem?_set_ne (Ne.symm hjk)]; exact hj, rfl⟩
    ·exact h.elim
   ·exact h.elim
  ·exact raw h
 ·
  rename_i e hop
  split at h
  ·rename_i z hz
   refine ⟨fun he => absurd he (by simp [yr9, hop]), ?_⟩
   obtain ⟨t, s', h1, h2, h3⟩ := yjT (P := P) h hI
   refine ycF (v := .pointer (some ⟨wa.heap.size, 0, none⟩)) ?_ ⟨t, s', h1, h2, h3⟩
   simp only [execOp, hop]
   exact ybB (yuV hz wa)
  ·exact h.elim
 ·
  rename_i e x hop
  refine ⟨fun he => absurd he (by simp [yr9, hop]), ?_⟩
  obtain ⟨t, s', h1, h2, h3⟩ := yjT (P := P) h (ybP hI)
  refine ycF (v := .pointer (some ⟨wa.heap.size, 0, none⟩)) ?_ ⟨t, s', h1, h2, (ybN.exposed _ _).trans h3⟩
  simp only [execOp, hop]
  exact ybB (yAg wa)
 ·
  rename_i t x fi hop
  split at h
  ·rename_i k off ht
   split at h
   ·rename_i tb fs hk hu
    split at h
    ·rename_i fl hff
     split at h
     ·rename_i n hi hn
      obtain ⟨tb', hk', ha⟩ := hI.tag_of ht
      rw [hk] at hk'; cases hk'
      refine q (val h ⟨⟨hI, fun k' off' e => by cases e; exact ⟨tb, hk, rfl⟩⟩, ybN.refl s⟩ fun w' => ?_)
      simp only [execOp, hop, ha]
      refine ybB ?_
      have e0 : ¬ P.cellsOf fl.type = 0 := by omega
      simp [Instr.fieldAt, Instr.sureAddr, fieldPlace, Sem.run_bind, run_underlying hu, Result.andThen, hff, ykC hi, e0, ya6]
     ·exact h.elim
    ·exact h.elim
   ·exact h.elim
  ·exact raw h
 ·
  rename_i t x ix hop
  split at h
  ·rename_i len e hu
   split at h
   ·exact h.elim
   rename_i hi
   split at h
   ·rename_i n k off hl ht
    obtain ⟨kk, rfl⟩ : ∃ kk, ix = .const (.int kk (.ofNat n)) := by
     unfold yE4 at hl; split at hl
     ·cases hl; exact ⟨_, rfl⟩
     ·cases hl
    split at h
    ·rename_i tb hk hlt
     obtain ⟨tb', hk', ha⟩ := hI.tag_of ht
     rw [hk] at hk'; cases hk'
     refine q (val h ⟨⟨hI, fun k' off' e => by cases e; exact ⟨tb, hk, rfl⟩⟩, ybN.refl s⟩ fun w' => ?_)
     have hlt : n < len := by simpa [Nat.blt_eq] using hlt
     have hc : evA f (.const (.int kk (.ofNat n))) = .int kk (.ofNat n) := rfl
     simp only [execOp, hop, ha, hc]
     refine ybB ?_
     simp [Instr.indexAt, asIntOf, Instr.sureAddr, Sem.run_bind, run_underlying hu, Result.andThen, hlt, ykC hi, ya6]
    ·exact h.elim
   ·split at h
    ·rename_i a kk i ha hix
     obtain ⟨h0, h1, h⟩ := h
     refine q (val h ⟨(ybP hI).op, ybN.exposed _ _⟩ fun w' => ?_)
     simp only [execOp, hop, ha, hix]
     refine ybB ?_
     simp [Instr.indexAt, asIntOf, Instr.sureAddr, Sem.run_bind, run_underlying hu, Result.andThen, h0, h1, ykC hi]
    ·exact h.elim
  ·exact raw h
 ·
  rename_i x hop
  split at h
  ·rename_i k off ht
   split at h
   ·rename_i tb hk
    obtain ⟨tb', hk', ha⟩ := hI.tag_of ht
    rw [hk] at hk'; cases hk'
    refine q (val h ⟨⟨hI, fun k' off' e => by cases e; exact ⟨tb, hk, rfl⟩⟩, ybN.refl s⟩ fun w' => ?_)
    simp [execOp, hop, ha, Sem.run]
   ·exact h.elim
  ·exact raw h
 ·rename_i x hop
  refine q (val h ⟨⟨hI, fun k off e => hI.tag_of e⟩, ybN.refl s⟩ fun w' => ?_)
  simp [execOp, hop, Sem.run]
 ·rename_i x hop
  refine q (val h ⟨⟨hI, fun k off e => hI.tag_of e⟩, ybN.refl s⟩ fun w' => ?_)
  simp [execOp, hop, Sem.run]
 ·
  rename_i c a b hop
  split at h
  ·rename_i t hc
   have hE := ybP (ids := ygO f [a, b]) hI
   cases t
   ·refine q (val (show K (evA f b) none _ from h) ⟨hE.op, ybN.exposed _ _⟩ fun w' => ?_)
    simp [execOp, hop, hc, asBool, Sem.run, Sem.run_bind]
   ·refine q (val (show K (evA f a) none _ from h) ⟨hE.op, ybN.exposed _ _⟩ fun w' => ?_)
    simp [execOp, hop, hc, asBool, Sem.run, Sem.run_bind]
  ·exact h.elim
 ·exact raw h
theorem ybA {ops : Array Oper} {tmps : Array Value} {j d : Nat} (hd : (ops[j]?).bind (·.dst) = some d) : yielded ops tmps j = match tmps[d]? with
  | some (.bool b) => some b
  | _ => none := by
 cases h : tmps[d]? with
 | none => simp [yielded, hd, h]
 | some v => cases v <;> simp [yielded, hd, h]
theorem yfF {ops : Array Oper} {tmps : Array Value} {j : Nat} (hd : (ops[j]?).bind (·.dst) = none) : yielded ops tmps j = none := by
 simp [yielded, hd]
theorem Inv.skip {f : FA} {s : St} {wa : World} (h : Inv f s wa) (d : Option Tmp) : Inv (yeY f d undef none) s wa := OpI.put (v := undef) (t := none) h.op d
theorem yhR {n : Nat} : ∀ {l : List Oper}, yE7 n l = true → ∀ o ∈ l, ∀ k, o.dst = some k → k < n
 | [], _, o, ho, _, _ => by cases ho
 | x :: r, h, o, ho, k, hk => by
  unfold yE7 at h
  split at h
  ·rename_i hx
   rcases List.mem_cons.1 ho with rfl | ho
   ·rw [hx] at hk; cases hk
   ·exact yhR h o ho k hk
  ·rename_i d hx
   split at h
   ·rename_i hlt
    rcases List.mem_cons.1 ho with rfl | ho
    ·rw [hx] at hk; cases hk; simpa [Nat.blt_eq] using hlt
    ·exact yhR h o ho k hk
   ·cases h
theorem yfG {P : Program} {n : Nat} {ops : Array Oper} {Q : Exit → Act → World → Prop} {K : FA → St → Prop} (hK : ∀ f s wa a, K f s → Inv f s wa → Rel n f a → Q .normal a wa) :
  ∀ {l : List Oper} {f : FA} {s : St} {wa : World} {a : Act}, (∀ o ∈ l, ∀ k, o.dst = some k → k < n) → ybM P ops l K f s → Inv f s wa → Rel n f a → wpList P ops Q l a wa
 | [], f, s, wa, a, _, h, hI, hR => hK f s wa a h hI hR
 | o :: r, f, s, wa, a, hn, h, hI, hR => by
  have hnr : ∀ o ∈ r, ∀ k, o.dst = some k → k < n := fun o ho => hn o (by simp [ho])
  have run : ∀ {f : FA}, (yfQ P r o f s fun v t s => ybM P ops r K (yeY f o.dst v t) s) → Inv f s wa → Rel n f a → Region.wanted o (yielded ops a.tmps) = true → wpList P ops Q (o :: r) a wa := fun {f} h hI hR hw => by
   unfold wpList
   rw [if_pos hw]
   refine .inl (yj5 (K := fun v wa' => ∃ t s', ybM P ops r K (yeY f o.dst v t) s' ∧ OpI f s' v t wa' ∧ ybN s s') (by rw [hR.eval]; exact (yd9 h hI).2) fun v w' ⟨t, s', h1, h2, _⟩ => ?_)
   exact yfG hK hnr h1 (h2.put o.dst) (hR.put o.dst (hn o (by simp)) v t)
  have skip : ∀ {f : FA}, ybM P ops r K (yeY f o.dst undef none) s → Inv f s wa → Rel n f a → Region.wanted o (yielded ops a.tmps) = false → wpList P ops Q (o :: r) a wa := fun {f} h hI hR hw => by
   unfold wpList
   rw [if_neg (by rw [hw]; simp)]
   exact yfG hK hnr h (hI.skip o.dst) (hR.put o.dst (hn o (by simp)) _ _)
  unfold ybM at h
  split at h
  ·rename_i hg
   exact run h hI hR (by simp [Region.wanted, hg])
  ·rename_i j b hg
   split at h
   ·rename_i hd
    exact skip h hI hR (by simp [Region.wanted, hg, yfF hd])
   ·rename_i d hd
    split at h
    ·rename_i t ht
     have hy := hR.bool ht
     have hI' := ynS ht hI
     have hR' := ynT ht hR
     cases t
     ·simp only [brB] at h
      split at h
      ·exact run h hI' hR' (by simp [Region.wanted, hg, ybA hd, hy])
      ·exact skip h hI' hR' (by simp [Region.wanted, hg, ybA hd, hy])
     ·simp only [brB] at h
      split at h
      ·exact run h hI' hR' (by simp [Region.wanted, hg, ybA hd, hy])
      ·exact skip h hI' hR' (by simp [Region.wanted, hg, ybA hd, hy])
    ·rename_i hn
     refine skip h hI hR ?_
     have : yielded ops a.tmps j = none := by
      rw [ybA hd]
      split
      ·rename_i b' hb
       refine absurd ?_ (hn b')
       rw [← hR.get, Array.getD_eq_getD_getElem?, hb]; rfl
      ·rfl
     simp [Region.wanted, hg, this]
theorem yeQ {P : Program} {n : Nat} {ops : Array Oper} {w : World} {Q : Act → Prop} {K : FA → St → Prop} (hK : ∀ f s a, K f s → Inv f s w → Rel n f a → Q a) :
  ∀ {l : List Oper} {f : FA} {s : St} {a : Act}, (∀ o ∈ l, ∀ k, o.dst = some k → k < n) → (∀ o ∈ l, yr9 P o = 0) → ybM P ops l K f s → Inv f s w → Rel n f a → wpQuiet P ops (fun w' => Mod [] w w') Q l a
 | [], f, s, a, _, _, h, hI, hR => hK f s a h hI hR
 | o :: r, f, s, a, hn, hl, h, hI, hR => by
  have hnr : ∀ o ∈ r, ∀ k, o.dst = some k → k < n := fun o ho => hn o (by simp [ho])
  have hr : ∀ o ∈ r, yr9 P o = 0 := fun o ho => hl o (by simp [ho])
  have run : ∀ {f : FA}, (yfQ P r o f s fun v t s => ybM P ops r K (yeY f o.dst v t) s) → Inv f s w → Rel n f a → Region.wanted o (yielded ops a.tmps) = true → wpQuiet P ops (fun w' => Mod [] w w') Q (o :: r) a := fun {f} h hI hR hw => by
   unfold wpQuiet
   rw [if_pos hw]
   obtain ⟨v, t, s', h1, ⟨h2, _⟩, h3⟩ := (yd9 h hI).1 (hl o (by simp))
   refine ⟨v, fun w' hm => ?_, ?_⟩
   ·unfold Oper.quietAt
    rw [hR.eval, h3 w' (fun _ => hm)]
    exact ⟨rfl, rfl⟩
   ·exact yeQ hK hnr hr h1 (h2.put o.dst) (hR.put o.dst (hn o (by simp)) v t)
  have skip : ∀ {f : FA}, ybM P ops r K (yeY f o.dst undef none) s → Inv f s w → Rel n f a → Region.wanted o (yielded ops a.tmps) = false → wpQuiet P ops (fun w' => Mod [] w w') Q (o :: r) a := fun {f} h hI hR hw => by
   unfold wpQuiet
   rw [if_neg (by rw [hw]; simp)]
   exact yeQ hK hnr hr h (hI.skip o.dst) (hR.put o.dst (hn o (by simp)) _ _)
  unfold ybM at h
  split at h
  ·rename_i hg
   exact run h hI hR (by simp [Region.wanted, hg])
  ·rename_i j b hg
   split at h
   ·rename_i hd
    exact skip h hI hR (by simp [Region.wanted, hg, yfF hd])
   ·rename_i d hd
    split at h
    ·rename_i t ht
     have hy := hR.bool ht
     have hI' := ynS ht hI
     have hR' := ynT ht hR
     cases t
     ·simp only [brB] at h
      split at h
      ·exact run h hI' hR' (by simp [Region.wanted, hg, ybA hd, hy])
      ·exact skip h hI' hR' (by simp [Region.wanted, hg, ybA hd, hy])
     ·simp only [brB] at h
      split at h
      ·exact run h hI' hR' (by simp [Region.wanted, hg, ybA hd, hy])
      ·exact skip h hI' hR' (by simp [Region.wanted, hg, ybA hd, hy])
    ·rename_i hn
     refine skip h hI hR ?_
     have : yielded ops a.tmps j = none := by
      rw [ybA hd]
      split
      ·rename_i b' hb
       refine absurd ?_ (hn b')
       rw [← hR.get, Array.getD_eq_getD_getElem?, hb]; rfl
      ·rfl
     simp [Region.wanted, hg, this]
def yqW (P : Program) (g : DRec2) (w : World) : Prop := ∀ w', Mod [] w w' → (execOp (evA g.f) g.o).run P w' = .ok (.value g.v) w'
theorem yqW.mod {P : Program} {g : DRec2} {w w' : World} (h : yqW P g w) (hm : Mod [] w w') : yqW P g w' := fun w'' h' => h w'' (by simpa using hm.trans h')
theorem yxL {P : Program} {g : DRec2} {w : World} (h : yGE P g w) : yqW P g w := by
 unfold yGE at h
 split at h
 ·rename_i t a hop
  split at h
  ·rename_i a' ha hd
   obtain ⟨v, rfl, hr⟩ := ynO h hd
   intro w' hm
   simp only [execOp, hop, ha]
   exact ybB (hr w' hm)
  ·exact h.elim
 ·rename_i t x i ok hop
  intro w' hm
  simp only [execOp, hop]
  exact ybB (h w' hm)
 ·exact h
def yIB (g : DRec2) (s : St) : Prop := ∀ k off, g.tag = some (k, off) → ∃ t a tb, g.o.op = .load t a ∧ s.mem[k]? = some tb ∧ evA g.f a = .pointer (some ⟨tb.b, off, none⟩)
theorem ykD {P : Program} {g : DRec2} {s : St} {f0 : FA} {wa : World} (h : yqR P g s) (hI : Inv f0 s wa) (hw : g.tag = none → s.w = wa) (ht : yIB g s) : yqW P g wa := by
 cases htag : g.tag with
 | none =>
  unfold yqR at h
  rw [htag] at h
  simp only at h
  rw [hw htag] at h
  exact yxL h
 | some x =>
  obtain ⟨k, off⟩ := x
  obtain ⟨t, a, tb, hop, hk, ha⟩ := ht k off htag
  unfold yqR at h
  rw [htag, hop] at h
  simp only [hk] at h
  obtain ⟨v, h1, h2⟩ := ynV h (ynW (hI.at_ k tb hk) off)
  subst h1
  intro w' hm
  simp only [execOp, hop, ha]
  exact ybB (h2 w' hm)
theorem yjU {P : Program} {m : List Nat} {i : Nat} {F : Prop} {s : St} : ∀ {D : List DRec2}, yIz P m i D s F → (∀ g ∈ D, yjQ m i g.i = false → yqR P g s) ∧ F
 | [], h => ⟨by simp, h⟩
 | g :: r, h => by
  unfold yIz at h
  split at h
  ·rename_i hd
   obtain ⟨h1, h2⟩ := yjU h
   refine ⟨fun g' hg' hd' => ?_, h2⟩
   rcases List.mem_cons.1 hg' with rfl | hg'
   ·rw [hd] at hd'; cases hd'
   ·exact h1 g' hg' hd'
  ·obtain ⟨h0, h⟩ := h
   obtain ⟨h1, h2⟩ := yjU h
   refine ⟨fun g' hg' hd' => ?_, h2⟩
   rcases List.mem_cons.1 hg' with rfl | hg'
   ·exact h0
   ·exact h1 g' hg' hd'
theorem yeA {m : List Nat} {i : Nat} {g : DRec2} : ∀ {D : List DRec2}, g ∈ ysJ m i D ↔ g ∈ D ∧ yjQ m i g.i = false
 | [] => by simp [ysJ]
 | x :: r => by
  unfold ysJ
  split
  ·rename_i hd
   rw [yeA]
   constructor
   ·exact fun ⟨a, b⟩ => ⟨by simp [a], b⟩
   ·rintro ⟨a, b⟩
    rcases List.mem_cons.1 a with rfl | a
    ·rw [hd] at b; cases b
    ·exact ⟨a, b⟩
  ·rename_i hd
   rw [List.mem_cons, List.mem_cons, yeA]
   constructor
   ·rintro (rfl | ⟨a, b⟩)
    ·exact ⟨.inl rfl, hd⟩
    ·exact ⟨.inr a, b⟩
   ·rintro ⟨rfl | a, b⟩
    ·exact .inl rfl
    ·exact .inr ⟨a, b⟩
theorem yqX {g : DRec2} : ∀ {D : List DRec2}, yDF D = false → g ∈ D → g.tag ≠ none
 | [], _, h => by cases h
 | x :: r, h, hg => by
  unfold yDF at h
  split at h
  ·cases h
  ·rename_i hx
   rcases List.mem_cons.1 hg with rfl | hg
   ·exact hx
   ·exact yqX h hg
structure Recs2 (P : Program) (ops : Array Oper) (Γ : yr8) (D : List DRec2) (X : List Nat) (s : St) (w : World) : Prop where
 good : ∀ g ∈ D, yqW P g w
 tag : ∀ g ∈ D, yIB g s
 all : ∀ g ∈ Γ, (∀ o w', ops[g.1]? = some o → yb8 P ops o g.2.2 g.2.1 w') ∨ (∃ d ∈ D, d.i = g.1 ∧ ops[d.i]? = some d.o ∧ g.2.1.eval = evA d.f ∧ d.v = g.2.2 ∧ Region.wanted d.o (yielded ops g.2.1.tmps) = true ∧ yh6 P d.o = true)
theorem yIB.later {g : DRec2} {s s' : St} (h : yIB g s) (hl : ybN s s') : yIB g s' := fun k off ht => by
 obtain ⟨t, a, tb, h1, h2, h3⟩ := h k off ht
 obtain ⟨tb', h4, h5⟩ := hl k tb h2
 exact ⟨t, a, tb', h1, h4, by rw [h3, h5]⟩
theorem Recs2.later {P : Program} {ops : Array Oper} {Γ : yr8} {D : List DRec2} {X : List Nat} {s s' : St} {w : World} (h : Recs2 P ops Γ D X s w) (hl : ybN s s') : Recs2 P ops Γ D X s' w :=
 ⟨h.good, fun g hg => (h.tag g hg).later hl, h.all⟩
theorem Recs2.obl {P : Program} {ops : Array Oper} {m : List Nat} {Γ : yr8} {D : List DRec2} {X : List Nat} {s : St} {w w' : World} {i : Nat} (h : Recs2 P ops Γ D X s w) (hs : ∀ g ∈ D, yjQ m i g.i = false → yqW P g w') : Obl P ops m i Γ w' := by
 intro g hg hd o ho
 rcases h.all g hg with h1 | ⟨d, h1, h2, h3, h4, h5, h6⟩
 ·exact h1 o w' ho
 ·rw [← h2] at ho hd
  rw [h3] at ho; cases ho
  refine .inl ⟨h6.1, fun w'' hm => ?_⟩
  rw [h4, ← h5]
  exact hs d h1 hd w'' (hm h6.2)
theorem yAn {P : Program} {m : List Nat} {i : Nat} {D : List DRec2} {s : St} {K : St → Prop} {f0 : FA} {v0 : Value} {t0 : Tag} {wa : World} (h : yGF P m i D s K) (hI : OpI f0 s v0 t0 wa) (ht : ∀ g ∈ D, yIB g s) :
  ∃ s', K s' ∧ OpI f0 s' v0 t0 wa ∧ ybN s s' ∧ ∀ g ∈ D, yjQ m i g.i = false → yqW P g wa := by
 unfold yGF at h
 split at h
 ·obtain ⟨s', h, hI', hw, hmem, _⟩ := ydJ h hI.toInv
  obtain ⟨h1, h2⟩ := yjU h
  have hl : ybN s s' := ybN.of_mem hmem
  exact ⟨s', h2, ⟨hI', by rw [hmem]; exact hI.tag⟩, hl, fun g hg hd => ykD (h1 g hg hd) hI' (fun _ => hw) ((ht g hg).later hl)⟩
 ·rename_i hn
  obtain ⟨h1, h2⟩ := yjU h
  exact ⟨s, h2, hI, ybN.refl s, fun g hg hd => ykD (h1 g hg hd) hI.toInv (fun e => absurd e (yqX hn (yeA.2 ⟨hg, hd⟩))) (ht g hg)⟩
theorem yxM {P : Program} {o : Oper} {f : FA} {s : St} {wa : World} {K : KOp} (h : yfQ P [] o f s K) (hn : yuR o = true) (hI : Inv f s wa) : yjL P (execOp (evA f) o) wa fun v wa' => Mod [] wa wa' ∧ ∃ t s', K v t s' ∧ OpI f s' v t wa' ∧ ybN s s' := by
 have M : ∀ c T, Mod [] wa (wa.alloc (.cells c T)) := fun c T => Mod.of_below ((Below.refl _ _).alloc (Nat.le_refl _) _)
 unfold yfQ at h
 split at h
 case h_3 e hop =>
  split at h
  ·rename_i z hz
   obtain ⟨t, s', h1, h2, h3⟩ := yjT (P := P) h hI
   refine ycF (v := .pointer (some ⟨wa.heap.size, 0, none⟩)) ?_ ⟨M _ _, t, s', h1, h2, h3⟩
   simp only [execOp, hop]
   exact ybB (yuV hz wa)
  ·exact h.elim
 case h_4 e x hop =>
  obtain ⟨t, s', h1, h2, h3⟩ := yjT (P := P) h (ybP hI)
  refine ycF (v := .pointer (some ⟨wa.heap.size, 0, none⟩)) ?_ ⟨M _ _, t, s', h1, h2, (ybN.exposed _ _).trans h3⟩
  simp only [execOp, hop]
  exact ybB (yAg wa)
 case h_11 =>
  have he : yr9 P o = 1 := by
   unfold yuR at hn
   unfold yr9
   split at hn
   all_goals first
    | (rename_i hop; simp only [hop]; done)
    | (cases hn)
  unfold yzZ at h
  rw [he] at h
  obtain ⟨s', h, hI', hw, hmem, _⟩ := ydJ h (ybP hI)
  have hLt := ybN.flush hmem
  simp only at h
  rw [hw] at h
  exact ycX (yqN h) fun v w' ⟨hM, hk⟩ => ⟨hM, none, _, hk, (yhQ hI' rfl fun k tb hk => ⟨tb, hk, rfl, hM.keep0 (hI'.at_ k tb hk)⟩).op, hLt.trans (ybN.of_mem rfl)⟩
 all_goals
  rename_i hop
  simp [yuR, hop] at hn
theorem yb4 {P : Program} {n : Nat} {ops : Array Oper} {m : List Nat} {Q : Act → World → Prop} {K : FA → St → Prop} (hnn : ∀ (i : Nat) o, ops[i]? = some o → ∀ k, o.dst = some k → k < n) (hK : ∀ f s w a, K f s → Inv f s w → Rel n f a → Q a w) :
  ∀ {L : List Nat} {Γ : yr8} {D : List DRec2} {X : List Nat} {f : FA} {s : St} {w : World} {a : Act}, yhP P ops m L D X K f s → Inv f s w → Rel n f a → Recs2 P ops Γ D X s w → ydO P ops m Q L Γ a w
 | [], _, _, _, f, s, w, a, h, hI, hR, _ => hK f s w a h hI hR
 | i :: L, Γ, D, X, f, s, w, a, h, hI, hR, hr => by
  unfold yhP at h
  split at h
  ·exact h.elim
  rename_i o ho
  have hn := hnn i o ho
  have run : ∀ {f : FA}, yqS P ops m L i o D X f s (fun Γ X f s => yhP P ops m L Γ X K f s) → Inv f s w → Rel n f a → Region.wanted o (yielded ops a.tmps) = true → ydO P ops m Q (i :: L) Γ a w := fun {f} h hI hR hw => by
   refine ⟨o, ho, ?_⟩
   unfold yqS at h
   split at h
   ·rename_i hs
    try simp only [hs]
    split at h
    case h_2 => exact h.elim
    rename_i he
    obtain ⟨v, t, s', h1, ⟨hO, hl⟩, h2⟩ := (yd9 h hI).1 he
    refine ⟨v, .inl ⟨hw, by rw [hR.eval]; exact h2⟩, ?_⟩
    have hR' := hR.put o.dst hn v t
    have hr' := hr.later hl
    split at h1
    ·rename_i hrd
     refine yb4 hnn hK h1 (hO.put o.dst) hR' ⟨fun g hg => ?_, fun g hg => ?_, fun g hg => ?_⟩
     ·rcases List.mem_cons.1 hg with rfl | hg
      ·exact fun w' hm => h2 w' (fun _ => hm)
      ·exact hr'.good g hg
     ·rcases List.mem_cons.1 hg with rfl | hg
      ·intro k off ht
       simp only at ht
       unfold yIQ at ht
       split at ht
       ·rename_i t' a hop
        obtain ⟨tb, h3, h4⟩ := hI.tag_of ht
        obtain ⟨tb', h5, h6⟩ := hl k tb h3
        exact ⟨t', a, tb', hop, h5, by rw [h4, h6]⟩
       ·cases ht
      ·exact hr'.tag g hg
     ·rcases List.mem_cons.1 hg with rfl | hg
      ·exact .inr ⟨_, List.mem_cons_self, rfl, ho, hR.eval, rfl, hw, hrd⟩
      ·rcases hr'.all g hg with h3 | ⟨d, h3, h4⟩
       ·exact .inl h3
       ·exact .inr ⟨d, by simp [h3], h4⟩
    ·rename_i hrd
     refine yb4 hnn hK h1 (hO.put o.dst) hR' ⟨hr'.good, hr'.tag, fun g hg => ?_⟩
     rcases List.mem_cons.1 hg with rfl | hg
     ·refine .inl fun o' w' ho' => ?_
      simp only at ho'
      rw [ho] at ho'; cases ho'
      exact .inl ⟨hw, fun w'' _ => by rw [hR.eval]; exact h2 w'' (fun h => by rw [hrd] at h; cases h)⟩
     ·exact hr'.all g hg
   ·rename_i hs
    try simp only [hs]
    refine ⟨fun _ => ?_, fun hw' => by rw [hw] at hw'; cases hw'⟩
    rw [hR.eval]
    split at h
    ·rename_i hnw
     refine ycX (yxM h hnw hI) fun v w' ⟨hm, t, s', h1, h2, hl⟩ => ⟨hr.obl fun g hg _ => (hr.good g hg).mod hm, ?_⟩
     have hr' := hr.later hl
     exact yb4 hnn hK h1 (h2.put o.dst) (hR.put o.dst hn v t) ⟨fun g hg => (hr'.good g hg).mod hm, hr'.tag, fun g hg => hr'.all g (yjS.1 hg).1⟩
    ·refine ycX (yd9 h hI).2 fun v w' ⟨t, s', h1, h2, hl⟩ => ?_
     have hr' := hr.later hl
     obtain ⟨s'', h3, h4, hl', h5⟩ := yAn h1 h2 hr'.tag
     refine ⟨hr.obl h5, ?_⟩
     have hr'' := hr'.later hl'
     refine yb4 hnn hK h3 (h4.put o.dst) (hR.put o.dst hn v t) ⟨fun g hg => h5 g (yeA.1 hg).1 (yeA.1 hg).2, fun g hg => hr''.tag g (yeA.1 hg).1, fun g hg => ?_⟩
     obtain ⟨hg, hd⟩ := yjS.1 hg
     rcases hr''.all g hg with h6 | ⟨d, h6, h7⟩
     ·exact .inl h6
     ·exact .inr ⟨d, yeA.2 ⟨h6, by rw [h7.1]; exact hd⟩, h7⟩
  have skip : ∀ {f : FA}, yhP P ops m L D X K (yeY f o.dst undef none) s → Inv f s w → Rel n f a → Region.wanted o (yielded ops a.tmps) = false → ydO P ops m Q (i :: L) Γ a w := fun {f} h hI hR hw => by
   have hI' := hI.skip o.dst
   have hR' := hR.put o.dst hn undef none
   refine ⟨o, ho, ?_⟩
   split
   ·refine ⟨undef, .inr ⟨hw, rfl⟩, ?_⟩
    refine yb4 hnn hK h hI' hR' ⟨hr.good, hr.tag, fun g hg => ?_⟩
    rcases List.mem_cons.1 hg with rfl | hg
    ·refine .inl fun o' w' ho' => ?_
     simp only at ho'
     rw [ho] at ho'; cases ho'
     exact .inr ⟨hw, rfl⟩
    ·exact hr.all g hg
   ·exact ⟨(fun hw' => by rw [hw] at hw'; cases hw'), fun _ => yb4 hnn hK h hI' hR' ⟨hr.good, hr.tag, hr.all⟩⟩
  split at h
  ·rename_i hg
   exact run h hI hR (by simp [Region.wanted, hg])
  ·rename_i j b hg
   split at h
   ·rename_i hd
    exact skip h hI hR (by simp [Region.wanted, hg, yfF hd])
   ·rename_i d hd
    split at h
    ·rename_i t ht
     have hy := hR.bool ht
     have hI' := ynS ht hI
     have hR' := ynT ht hR
     cases t
     ·simp only [brB] at h
      split at h
      ·exact run h hI' hR' (by simp [Region.wanted, hg, ybA hd, hy])
      ·exact skip h hI' hR' (by simp [Region.wanted, hg, ybA hd, hy])
     ·simp only [brB] at h
      split at h
      ·exact run h hI' hR' (by simp [Region.wanted, hg, ybA hd, hy])
      ·exact skip h hI' hR' (by simp [Region.wanted, hg, ybA hd, hy])
    ·rename_i hn
     refine skip h hI hR ?_
     have : yielded ops a.tmps j = none := by
      rw [ybA hd]
      split
      ·rename_i b' hb
       refine absurd ?_ (hn b')
       rw [← hR.get, Array.getD_eq_getD_getElem?, hb]; rfl
      ·rfl
     simp [Region.wanted, hg, this]
theorem yIY (m i : Nat) : tB m i = m.testBit i := by
 have e : Nat.land (Nat.shiftRight m i) 1 = (m >>> i) % 2 := by
  show (m >>> i) &&& 1 = _
  exact Nat.and_one_is_mod _
 unfold tB
 rw [e, Nat.testBit_eq_decide_div_mod_eq, Nat.shiftRight_eq_div_pow]
 cases h : decide (m / 2 ^ i % 2 = 1) with
 | true => simp at h; simp [h]
 | false => simp at h; rw [h]; rfl
theorem ynY {α : Type} {p : α → Bool} : ∀ {l : List α}, yIA p l = true → ∀ x ∈ l, p x = true
 | [], _, x, hx => by cases hx
 | y :: r, h, x, hx => by
  unfold yIA at h
  split at h
  ·rename_i hy
   rcases List.mem_cons.1 hx with rfl | hx
   ·exact hy
   ·exact ynY h x hx
  ·cases h
theorem ye1 (m x i : Nat) : (Nat.lor m (Nat.shiftLeft 1 x)).testBit i = (m.testBit i || decide (x = i)) := by
 show (m ||| 1 <<< x).testBit i = _
 rw [Nat.testBit_or, Nat.one_shiftLeft, Nat.testBit_two_pow]
theorem yqY {n : Nat} : ∀ {L : List Nat} {m : Nat}, yDG n m L = true → L.Nodup ∧ (∀ x ∈ L, x < n ∧ m.testBit x = false) ∧ ∀ i, i < n → m.testBit i = true ∨ i ∈ L
 | [], m, h => by
  refine ⟨List.nodup_nil, by simp, fun i hi => .inl ?_⟩
  have : m = 1 <<< n - 1 := Nat.eq_of_beq_eq_true h
  rw [this, Nat.one_shiftLeft]
  simp [Nat.testBit_two_pow_sub_one, hi]
 | x :: r, m, h => by
  unfold yDG at h
  split at h
  ·rename_i h1 h2
   rw [yIY] at h2
   have h1 : x < n := by simpa [Nat.blt_eq] using h1
   obtain ⟨a, b, c⟩ := yqY h
   refine ⟨List.nodup_cons.2 ⟨fun hx => ?_, a⟩, fun y hy => ?_, fun i hi => ?_⟩
   ·have := (b x hx).2; rw [ye1] at this; simp at this
   ·rcases List.mem_cons.1 hy with rfl | hy
    ·exact ⟨h1, h2⟩
    ·have := b y hy; rw [ye1] at this; simp at this; exact ⟨this.1, this.2.1⟩
   ·rcases c i hi with h | h
    ·rw [ye1] at h; simp at h
     rcases h with h | rfl
     ·exact .inl h
     ·exact .inr (by simp)
    ·exact .inr (by simp [h])
  ·cases h
theorem ynZ {n x : Nat} : ∀ {l : List Edge}, yIR n x l = true → ∀ e ∈ l, Region.binds .any e = true → e.on < n ∧ e.on ≠ x
 | [], _, e, he, _ => by cases he
 | e' :: r, h, e, he, hb => by
  unfold yIR at h
  split at h
  ·rename_i hb'
   rcases List.mem_cons.1 he with rfl | he
   ·rw [hb] at hb'; cases hb'
   ·exact ynZ h e he hb
  ·split at h
   ·rename_i h1 h2
    rcases List.mem_cons.1 he with rfl | he
    ·exact ⟨by simpa [Nat.blt_eq] using h1, Nat.ne_of_beq_eq_false h2⟩
    ·exact ynZ h e he hb
   ·cases h
theorem yAo {ops : Array Oper} {x : Nat} (h : yGG ops.size ops x = true) : yDy ops x = true := by
 unfold yGG at h
 unfold yDy
 split at h
 ·rename_i o ho
  split at h
  ·cases h
  ·rename_i hs
   have := ynZ h
   try rw [ho]
   simp only [Bool.and_eq_true, Bool.not_eq_true']
   refine ⟨⟨?_, ?_⟩, ?_⟩
   ·unfold yhM
    rw [List.any_eq_false]
    intro e he
    by_cases hb : Region.binds .any e = true
    ·simp [hb, (this e he hb).2]
    ·simp [hb]
   ·rw [Array.all_eq_true_iff_forall_mem]
    intro e he
    by_cases hb : Region.binds .any e = true
    ·simp [(this e (by simpa using he) hb).1]
    ·simp [hb]
   ·cases hop : o.op with
    | select a b => exact absurd hop (hs a b)
    | _ => trivial
 ·cases h
theorem ykE : ∀ {l : List Nat} {i : Nat}, (ylM l).testBit i = true ↔ i ∈ l
 | [], i => by simp [ylM]
 | x :: r, i => by
  simp only [ylM, ye1, Bool.or_eq_true, decide_eq_true_eq, ykE, List.mem_cons]
  constructor
  ·rintro (h | rfl) <;> simp_all
  ·rintro (rfl | h) <;> simp_all
theorem ykF : ∀ {l : List Edge} {i : Nat}, (yqT l).testBit i = true ↔ ∃ e ∈ l, Region.binds .any e = true ∧ e.on = i
 | [], i => by simp [yqT]
 | e :: r, i => by
  unfold yqT
  split
  ·rename_i hb
   simp only [ye1, Bool.or_eq_true, decide_eq_true_eq, ykF, List.mem_cons]
   constructor
   ·rintro (⟨e', h1, h2⟩ | rfl)
    ·exact ⟨e', .inr h1, h2⟩
    ·exact ⟨e, .inl rfl, hb, rfl⟩
   ·rintro ⟨e', rfl | h1, h2, h3⟩
    ·exact .inr h3
    ·exact .inl ⟨e', h1, h2, h3⟩
  ·rename_i hb
   rw [ykF]
   constructor
   ·rintro ⟨e', h1, h2⟩; exact ⟨e', by simp [h1], h2⟩
   ·rintro ⟨e', h1, h2⟩
    rcases List.mem_cons.1 h1 with rfl | h1
    ·rw [hb] at h2; cases h2.1
    ·exact ⟨e', h1, h2⟩
theorem yqZ : ∀ {l : List OR} {i : Nat}, (yAd l).testBit i = true ↔ ∃ x ∈ l, x.i = i
 | [], i => by simp [yAd]
 | x :: r, i => by
  simp only [yAd, ye1, Bool.or_eq_true, decide_eq_true_eq, yqZ, List.mem_cons]
  constructor
  ·rintro (⟨y, h1, h2⟩ | h)
   ·exact ⟨y, .inr h1, h2⟩
   ·exact ⟨x, .inl rfl, h⟩
  ·rintro ⟨y, rfl | h1, h2⟩
   ·exact .inr h2
   ·exact .inl ⟨y, h1, h2⟩
theorem ykG {a b : Nat} (h : Nat.beq (Nat.land a b) 0 = true) {i : Nat} (ha : a.testBit i = true) : b.testBit i = false := by
 have h := Nat.eq_of_beq_eq_true h
 have e : (a &&& b).testBit i = false := by
  show (Nat.land a b).testBit i = false
  rw [h]; simp
 rw [Nat.testBit_and, ha] at e
 simpa using e
theorem yn0 {d : Option Tmp} {i : Nat} : (yE5 d).testBit i = true ↔ d = some i := by
 cases d with
 | none => simp [yE5]
 | some d =>
  show (1 <<< d).testBit i = true ↔ _
  rw [Nat.one_shiftLeft, Nat.testBit_two_pow]
  simp
def yDK (P : Program) (ops : Array Oper) (m : List Nat) (x : OR) : Prop := ∃ o, ops[x.i]? = some o ∧ x.em = yqT o.after.toList ∧ x.cm = m.getD x.i 0 ∧ x.st = yc6 P o ∧ x.rm = ylM (o.looksAt ops) ∧ x.dm = yE5 o.dst
theorem yq0 {P : Program} {ops : Array Oper} {m : List Nat} : ∀ {L : List Nat} {k : List OR → Bool}, yAe P ops m L k = true → ∃ l, k l = true ∧ l.map (·.i) = L ∧ ∀ x ∈ l, yDK P ops m x
 | [], k, h => ⟨[], h, rfl, by simp⟩
 | i :: r, k, h => by
  unfold yAe at h
  split at h
  ·cases h
  rename_i o ho
  split at h
  all_goals
   rename_i hs
   obtain ⟨l, h1, h2, h3⟩ := yq0 h
   refine ⟨_, h1, by simp [h2], fun x hx => ?_⟩
   rcases List.mem_cons.1 hx with rfl | hx
   ·exact ⟨o, ho, rfl, rfl, hs.symm, rfl, rfl⟩
   ·exact h3 x hx
theorem yAp {P : Program} {ops : Array Oper} {m : List Nat} {x y : OR} (hx : yDK P ops m x) (hy : yDK P ops m y) (h : yGH x y = true) {ox oy : Oper} (hox : ops[x.i]? = some ox) (hoy : ops[y.i]? = some oy) : (yc6 P ox || yjQ m y.i x.i) = true ∧ (ox.apart ops oy || yjQ m y.i x.i) = true := by
 obtain ⟨ox', e0, e1, e2, e3, e4, e5⟩ := hx
 obtain ⟨oy', f0, f1, f2, f3, f4, f5⟩ := hy
 rw [hox] at e0; cases e0
 rw [hoy] at f0; cases f0
 unfold yGH at h
 split at h
 ·rename_i hd
  rw [yIY, f2] at hd
  have : yjQ m y.i x.i = true := hd
  simp [this]
 ·split at h
  ·rename_i hs h1 h2
   rw [e3] at hs
   rw [e5, f4, f5] at h1
   rw [f5, e4] at h2
   have ap : ox.apart ops oy = true := by
    unfold Oper.apart
    rw [Bool.and_eq_true]
    constructor
    ·cases hd : ox.dst with
     | none => rfl
     | some d =>
      have := ykG h1 (i := d) (yn0.2 hd)
      have e : (Nat.lor (ylM (oy.looksAt ops)) (yE5 oy.dst)).testBit d = ((ylM (oy.looksAt ops)).testBit d || (yE5 oy.dst).testBit d) := by
       show (ylM (oy.looksAt ops) ||| yE5 oy.dst).testBit d = _
       rw [Nat.testBit_or]
      rw [e, Bool.or_eq_false_iff] at this
      have n1 : d ∉ oy.looksAt ops := fun hm => by rw [ykE.2 hm] at this; cases this.1
      have n2 : oy.dst ≠ some d := fun hm => by rw [yn0.2 hm] at this; cases this.2
      simp [n1, n2]
    ·cases hd : oy.dst with
     | none => rfl
     | some d =>
      have := ykG h2 (i := d) (yn0.2 hd)
      have n1 : d ∉ ox.looksAt ops := fun hm => by rw [ykE.2 hm] at this; cases this
      simp [n1]
   simp [hs, ap]
  ·cases h
theorem yl2 {P : Program} {ops : Array Oper} {m : List Nat} : ∀ {l : List OR}, yuT l = true → (∀ x ∈ l, yDK P ops m x) → ycY P ops m (l.map (·.i)) = true
 | [], _, _ => rfl
 | x :: r, h, hl => by
  unfold yuT at h
  split at h
  ·rename_i h1 h2
   have hx := hl x (by simp)
   have ih := yl2 h fun y hy => hl y (by simp [hy])
   simp only [List.map_cons, ycY, Bool.and_eq_true, List.all_eq_true]
   refine ⟨fun i hi => ?_, ih⟩
   obtain ⟨y, hy, rfl⟩ := List.mem_map.1 hi
   have hyr := hl y (by simp [hy])
   obtain ⟨ox, e0, e1, _⟩ := id hx
   obtain ⟨oy, f0, _⟩ := id hyr
   obtain ⟨p1, p2⟩ := yAp hx hyr (ynY h2 y hy) e0 f0
   have ne : yhM ox y.i = false := by
    rw [Bool.eq_false_iff]
    intro he
    unfold yhM at he
    rw [List.any_eq_true] at he
    obtain ⟨e, hm, he⟩ := he
    simp only [Bool.and_eq_true, beq_iff_eq] at he
    have := ykG h1 (i := y.i) (by rw [e1]; exact ykF.2 ⟨e, hm, he.1, he.2⟩)
    rw [yqZ.2 ⟨y, hy, rfl⟩] at this
    cases this
   unfold yjM
   rw [e0, f0]
   simp only [ne, Bool.not_false, Bool.true_and, Bool.and_eq_true]
   exact ⟨p1, p2⟩
  ·cases h
theorem yAq {P : Program} {ops : Array Oper} {L : List Nat} (h : yGI P ops L = true) : yL8 P ops L = true := by
 unfold yGI at h
 split at h
 ·rename_i h1 h2
  split at h
  ·rename_i h3
   obtain ⟨a, b, c⟩ := yqY h2
   have hb : ∀ x ∈ L, x < ops.size := fun x hx => (b x hx).1
   simp only [yL8, yz7, Bool.and_eq_true, List.all_eq_true, decide_eq_true_eq, beq_iff_eq]
   refine ⟨⟨⟨⟨⟨Nat.eq_of_beq_eq_true h1, hb⟩, a⟩, fun x hx => ?_⟩, ?_⟩, fun x hx => yAo (ynY h3 x hx)⟩
   ·rcases c x (by simpa using hx) with h | h
    ·simp at h
    ·simpa using h
   ·obtain ⟨l, e1, e2, e3⟩ := yq0 h
    rw [← e2]
    exact yl2 e1 e3
  ·cases h
 ·cases h
theorem yAr {i k o : Nat} : ∀ {l : List (Nat × Nat × Nat)}, tgA l i = some (k, o) → (i, k, o) ∈ l
 | [], h => by cases h
 | (j, k', o') :: r, h => by
  unfold tgA at h
  split at h
  ·rename_i hb
   have hb := Nat.eq_of_beq_eq_true hb
   subst hb; cases h; simp
  ·exact List.mem_cons_of_mem _ (yAr h)
theorem yuW {f : FA} {n : Nat} : ∀ {l : List (Nat × Nat × Nat)}, yIT f n l = true → ∀ i k o, (i, k, o) ∈ l → f.tag i = some (k, o) ∧ k < n
 | [], _, i, k, o, h => by cases h
 | (j, k', o') :: r, hc, i, k, o, h => by
  unfold yIT at hc
  split at hc
  ·rename_i k2 o2 ht
   split at hc
   ·rename_i h1 h2 h3
    have h1 := Nat.eq_of_beq_eq_true h1
    have h2 := Nat.eq_of_beq_eq_true h2
    subst h1; subst h2
    rcases List.mem_cons.1 h with h | h
    ·cases h; exact ⟨ht, by simpa [Nat.blt_eq] using h3⟩
    ·exact yuW hc i k o h
   ·cases hc
  ·cases hc
theorem ysQ {tg : List (Nat × Nat × Nat)} {js g : Nat → Value} (hj : ∀ i, js i = g i) : ∀ (live : List Nat) (i : Nat), lkV (mkU tg live (live.map g)) js i = g i
 | [], i => hj i
 | j :: r, i => by
  simp only [List.map_cons, mkU, lkV]
  split
  ·rename_i hb; have := Nat.eq_of_beq_eq_true hb; subst this; rfl
  ·exact ysQ hj r i
theorem yAs {tg : List (Nat × Nat × Nat)} : ∀ {live : List Nat} {vals : List Value} {i k o : Nat}, lkT (mkU tg live vals) i = some (k, o) → tgA tg i = some (k, o)
 | [], vals, i, k, o, h => by cases vals <;> cases h
 | j :: r, [], i, k, o, h => by cases h
 | j :: r, v :: vs, i, k, o, h => by
  simp only [mkU, lkT] at h
  split at h
  ·rename_i hb; have := Nat.eq_of_beq_eq_true hb; subst this; exact h
  ·exact yAs h
theorem ykH (f : FA) : ∀ l : List Nat, ykA f l = l.map f.get
 | [] => rfl
 | i :: r => by simp [ykA, ykH f r]
theorem yDL {a : LA} {f : FA} {s : St} {wa : World} (hI : Inv f s wa) (hT : yIT f a.n a.tg = true) : Inv ⟨mkU a.tg a.live (ykA f a.live), f.get⟩ ⟨s.mem.take a.n, wa, [], [], true⟩ wa := by
 have hg : ∀ i, (⟨mkU a.tg a.live (ykA f a.live), f.get⟩ : FA).get i = f.get i := fun i => by
  rw [ykH]
  exact ysQ (fun _ => rfl) a.live i
 have get : ∀ (k : Nat) tb, (s.mem.take a.n)[k]? = some tb → s.mem[k]? = some tb := fun k tb h => by
  rw [List.getElem?_take] at h
  split at h
  ·exact h
  ·cases h
 refine ⟨fun k tb hk => hI.at_ k tb (get k tb hk), fun i j x y hx hy => hI.nd i j x y (get i x hx) (get j y hy), fun i k off hi => ?_, (Mod.refl wa).less (by simp), by simp, ⟨by simp, by simp⟩, fun _ => rfl⟩
 obtain ⟨h1, hn⟩ := yuW hT i k off (yAr (yAs hi))
 obtain ⟨tb, h2, h3⟩ := hI.tags i k off h1
 exact ⟨tb, by rw [List.getElem?_take, if_pos hn]; exact h2, by rw [hg]; exact h3⟩
theorem yn1 {a : LA} {f : FA} {n : Nat} {b : Act} (hR : Rel n f b) : Rel n ⟨mkU a.tg a.live (ykA f a.live), f.get⟩ b :=
 ⟨fun i => by rw [hR.get, ykH]; exact (ysQ (fun _ => rfl) a.live i).symm, hR.defers, hR.size⟩
theorem yn2 {a : LA} {K : List Value → List TB → World → Prop} {f : FA} {s : St} {wa : World} (h : atA a K f s) (hI : Inv f s wa) :
  ∃ mem, K (ykA f a.live) mem wa ∧ Inv ⟨mkU a.tg a.live (ykA f a.live), f.get⟩ ⟨mem, wa, [], [], true⟩ wa := by
 unfold atA at h
 split at h
 ·rename_i hT
  obtain ⟨s', h, hI', hw, hmem, _⟩ := ydJ h (ybP hI)
  rw [hw] at h
  exact ⟨_, h, yDL hI' hT⟩
 ·exact h.elim
theorem yxN {P : Program} (hm : P.follows .mixedOrders = true) (an : List LA) (n : Nat) (root : Code) : ∀ (k : Nat) (c : Code) (rp : List Nat) {Q3 : Kx3} {Q : Exit → Act → World → Prop} {f : FA} {s : St} {w : World} {a : Act}, ysA root rp = c → yd8 n c = true → yz0 P an (dnF P an root k) rp c Q3 f s → Inv f s w → Rel n f a →
  (∀ e f s w a, Q3 e f s → Inv f s w → Rel n f a → Q e a w) → c.wp P Q a w := by
 have other : ∀ (c : Code) (rp : List Nat) {Q3 : Kx3} {Q : Exit → Act → World → Prop} {f : FA} {s : St} {w : World} {a : Act}, yIV P an rp c Q3 f s → Inv f s w → Rel n f a → (∀ e f s w a, Q3 e f s → Inv f s w → Rel n f a → Q e a w) → c.wp P Q a w := by
  intro c rp Q3 Q f s w a h hI hR hQ
  unfold yIV at h
  split at h
  case h_2 => exact h.elim
  rename_i l _
  obtain ⟨mem, h, hI'⟩ := yn2 h hI
  have e : ∀ l : List Nat, yDI a l = ykA f l := fun l => by
   induction l with
   | nil => rfl
   | cons i r ih => simp [yDI, ykA, ih, hR.get]
  have h := h n a hR.size hR.defers (e _)
  refine Code.wp_mono (fun e a w' ⟨hd, hs, hq⟩ => hQ _ _ _ _ _ hq ⟨by simp, by simp, fun i k off ht => by simp [FA.tag, lkT] at ht, (Mod.refl w').less (by simp), by simp, ⟨by simp, by simp⟩, fun _ => rfl⟩ ⟨fun i => rfl, hd, hs⟩) h
 intro k
 induction k using Nat.strongRecOn with
 | _ k ihk =>
 have deep : ∀ (c : Code) (rp : List Nat) {Q3 : Kx3} {Q : Exit → Act → World → Prop} {f : FA} {s : St} {w : World} {a : Act}, ysA root rp = c → yd8 n c = true → dnF P an root k rp Q3 f s → Inv f s w → Rel n f a →
   (∀ e f s w a, Q3 e f s → Inv f s w → Rel n f a → Q e a w) → c.wp P Q a w := by
  intro c rp Q3 Q f s w a hc hd h hI hR hQ
  cases k with
  | zero => exact False.elim h
  | succ k =>
   have h : yz0 P an (dnF P an root k) rp (ysA root rp) Q3 f s := h
   rw [hc] at h
   exact ihk k (Nat.lt_succ_self k) c rp hc hd h hI hR hQ
 intro c
 induction c with
 | skip => intro rp Q3 Q f s w a hc hd h hI hR hQ; exact wp_skip (hQ _ _ _ _ _ h hI hR)
 | region id ops draw =>
  intro rp Q3 Q f s w a hc hd h hI hR hQ
  have hdm := yhR (by simpa [yd8] using hd : yE7 n ops.toList = true)
  cases draw
  ·exact wp_region_list (yfG (fun f s w a h hI hR => hQ _ _ _ _ _ h hI hR) hdm h hI hR)
  ·unfold yz0 at h
   simp only at h
   have dirt : ∀ {f : FA} {s : St} {w w1 : World}, Inv f s w → Mod [] w w1 → Inv f (dirty s) w1 := fun {f s w w1} hI hM => by
    obtain ⟨mem, ws, S, N, cl⟩ := s
    exact ⟨fun k tb hk => hM.keep0 (hI.at_ k tb hk), hI.nd, hI.tags, by simpa [dirty] using hI.mod.trans hM, hI.new, hI.nn, by simp [dirty]⟩
   split at h
   ·rename_i hq
    simp only [Bool.and_eq_true] at hq
    obtain ⟨hq2, hq1⟩ := hq
    have hq2 : ∀ o ∈ ops.toList, yc6 P o = true ∧ Nat.beq (yr9 P o) 0 = true := fun o ho => by simpa only [Bool.and_eq_true] using ynY hq2 o ho
    unfold yz5 at hq1
    simp only [Bool.and_eq_true] at hq1
    refine wp_region_quiet (C := fun w' => Mod [] w w') hm hq1.2 (Mod.drewN w 1) ?_
    exact yeQ (fun f s a h hI hR w' hw' => hQ _ _ _ _ _ h (dirt hI hw') hR) hdm (fun o ho => Nat.eq_of_beq_eq_true (hq2 o ho).2) h hI hR
   ·split at h
    ·rename_i hL
     have hL := yAq hL
     exact yqM hm hL fun w1 h1 => yb4 (fun i o ho => hdm o (by rw [← Array.getElem?_toList] at ho; exact List.mem_of_getElem? ho)) (fun f s w a h hI hR => hQ _ _ _ _ _ h hI hR) h (dirt hI h1) hR ⟨by simp, by simp, by simp⟩
    ·split at h
     ·exact other _ _ h hI hR hQ
     ·split at h
      ·rename_i hL
       obtain ⟨hA, hB⟩ := h
       exact ynR hm hL (fun w1 h1 => yb4 (fun i o ho => hdm o (by rw [← Array.getElem?_toList] at ho; exact List.mem_of_getElem? ho)) (fun f s w a h hI hR => hQ _ _ _ _ _ h hI hR) hA (dirt hI h1) hR ⟨by simp, by simp, by simp⟩)
        fun w1 h1 => yb4 (fun i o ho => hdm o (by rw [← Array.getElem?_toList] at ho; exact List.mem_of_getElem? ho)) (fun f s w a h hI hR => hQ _ _ _ _ _ h hI hR) hB (dirt hI h1) hR ⟨by simp, by simp, by simp⟩
      ·exact other _ _ h hI hR hQ
 | seq c1 c2 ih1 ih2 =>
  intro rp Q3 Q f s w a hc hd h hI hR hQ
  have hd1 : yd8 n c1 = true := by unfold yd8 at hd; split at hd <;> simp_all
  have hd2 : yd8 n c2 = true := by unfold yd8 at hd; split at hd <;> simp_all
  unfold yz0 at h
  have hc1 : ysA root (0 :: rp) = c1 := by simp only [ysA, hc]; rfl
  have hc2 : ysA root (1 :: rp) = c2 := by simp only [ysA, hc]; rfl
  refine wp_seq (ih1 _ hc1 hd1 h hI hR fun e f s w a hq hI hR => ?_)
  unfold yMj at hq
  cases hx : yxK (1 :: rp) an with
  | none =>
   rw [hx] at hq
   cases e
   case normal => exact deep _ _ hc2 hd2 hq hI hR hQ
   all_goals exact hQ _ _ _ _ _ hq hI hR
  | some la =>
   rw [hx] at hq
   cases e
   case normal =>
    change atA _ _ _ _ at hq
    obtain ⟨mem, hc, hI'⟩ := yn2 hq hI
    obtain ⟨J, h0, hr⟩ := hc
    obtain ⟨_, _, hh⟩ := hr _ _ _ h0
    exact deep _ _ hc2 hd2 (yeZ (hh f.get) hI'.at_) hI' (yn1 hR) hQ
   all_goals exact hQ _ _ _ _ _ hq hI hR
 | cond c a b iha ihb =>
  intro rp Q3 Q f s w act hc hd h hI hR hQ
  have hd1 : yd8 n a = true := by unfold yd8 at hd; split at hd <;> simp_all
  have hd2 : yd8 n b = true := by unfold yd8 at hd; split at hd <;> simp_all
  unfold yz0 at h
  split at h
  ·rename_i t ht
   refine wp_cond (t := t) (by rw [hR.eval]; exact ht) ?_
   cases t
   ·exact ihb _ (by simp only [ysA, hc]; rfl) hd2 h hI hR hQ
   ·exact iha _ (by simp only [ysA, hc]; rfl) hd1 h hI hR hQ
  ·exact h.elim
 | block id c ih =>
  intro rp Q3 Q f s w a hc hd h hI hR hQ
  unfold yz0 at h
  refine wp_block (ih _ (by simp only [ysA, hc]; rfl) (by simpa [yd8] using hd) h hI hR fun e f s w a hq hI hR => ?_)
  cases e
  case exit i =>
   simp only [ysK] at hq
   show if i = id then Q .normal a w else Q (.exit i) a w
   split at hq
   ·rename_i hi; rw [if_pos (by simpa using hi)]; exact hQ _ _ _ _ _ hq hI hR
   ·rename_i hi; rw [if_neg (by simpa using hi)]; exact hQ _ _ _ _ _ hq hI hR
  all_goals exact hQ _ _ _ _ _ hq hI hR
 | loop c ih =>
  intro rp Q3 Q f s w a hc hd h hI hR hQ
  have hd1 : yd8 n c = true := by simpa [yd8] using hd
  unfold yz0 at h
  split at h
  case h_2 => exact h.elim
  rename_i la _
  obtain ⟨mem, hl, hI1⟩ := yn2 h hI
  obtain ⟨I, m, h0, hr⟩ := hl
  let J : Nat → Act → World → Prop := fun m a w => ∃ vals js mem, I m vals mem w ∧ Inv ⟨mkU la.tg la.live vals, js⟩ ⟨mem, w, [], [], true⟩ w ∧ Rel n ⟨mkU la.tg la.live vals, js⟩ a
  have hJ0 : J m a w := ⟨_, _, _, h0, hI1, yn1 hR⟩
  have hD : ∀ m a w, J m a w → c.wp P (Exit.then (fun a' w' => ∃ m', m' < m ∧ J m' a' w') Q) a w := by
   rintro m a w ⟨vals, js, mem, hi, hI, hR⟩
   obtain ⟨_, _, hf⟩ := hr m vals mem w hi
   refine deep c _ (by simp only [ysA, hc]; rfl) hd1 (yeZ (hf js) hI.at_) hI hR fun e f' s' w' a' hq hI' hR' => ?_
   cases e
   case normal =>
    have hq : atA la (fun vals' mem' w' => ∃ m', m' < m ∧ I m' vals' mem' w') f' s' := hq
    obtain ⟨mem', hk, hI2⟩ := yn2 hq hI'
    obtain ⟨m', hlt, hi'⟩ := hk
    exact ⟨m', hlt, _, _, _, hi', hI2, yn1 hR'⟩
   all_goals exact hQ _ _ _ _ _ hq hI' hR'
  classical
  let μ : Act → World → Nat := fun a w => if h : ∃ m, J m a w then Classical.choose (least h) else 0
  refine wp_loop (fun a w => ∃ m, J m a w) μ ⟨m, hJ0⟩ fun a w hI => ?_
  have e1 : μ a w = Classical.choose (least hI) := dif_pos hI
  refine Code.wp_mono (fun e a' w' hq => ?_) (hD _ _ _ (Classical.choose_spec (least hI)).1)
  cases e
  case normal =>
   obtain ⟨m', h1, h2⟩ := hq
   have h3 : ∃ m, J m a' w' := ⟨m', h2⟩
   have e2 : μ a' w' = Classical.choose (least h3) := dif_pos h3
   refine ⟨h3, ?_⟩
   rw [e1, e2]
   exact Nat.lt_of_le_of_lt ((Classical.choose_spec (least h3)).2 m' h2) h1
  all_goals exact hq
 | exit id => intro rp Q3 Q f s w a hc hd h hI hR hQ; exact wp_exit (hQ _ _ _ _ _ h hI hR)
 | ret => intro rp Q3 Q f s w a hc hd h hI hR hQ; exact wp_ret (hQ _ _ _ _ _ h hI hR)
 | label l => intro rp Q3 Q f s w a hc hd h hI hR hQ; exact wp_label (hQ _ _ _ _ _ h hI hR)
 | _ => intro rp Q3 Q f s w a hc hd h hI hR hQ; exact other _ _ h hI hR hQ
theorem yxO {P : Program} {n : Nat} {f : FA} {a : Act} (hR : Rel n f a) (w : World) (t : Nat) : (yj8 a.tmps (.tmp t)).run P w = .ok (f.get t) w := by
 simp only [yj8, ← hR.get]; rfl
theorem ykI {P : Program} {n : Nat} {f : FA} {a : Act} {s : St} {w : World} (hI : Inv f s w) (hR : Rel n f a) (hw : s.w = w) : ∀ {rs : List ResultVar} {F : List Value → Prop}, yqV P rs f s F → ∃ vs, F vs ∧ (rs.mapM (yj8 a.tmps)).run P w = .ok vs w
 | [], F, h => ⟨[], h, by simp [Sem.run]⟩
 | .tmp t :: r, F, h => by
  obtain ⟨vs, h1, h2⟩ := ykI hI hR hw (rs := r) h
  refine ⟨_, h1, ?_⟩
  rw [List.mapM_cons, Sem.run_bind, yxO hR]
  simp only [Result.andThen]
  rw [Sem.run_bind, h2]
  rfl
 | .cell c t :: r, F, h => by
  have fin : ∀ {a' : Addr} {v : Value} {F' : List Value → Prop}, f.get c = .pointer (some a') → (∀ w', Mod [] w w' → (Instr.loadAt t (.pointer (some a'))).run P w' = .ok v w') → yqV P r f s (fun vs => F' (v :: vs)) → ∃ vs, F' vs ∧ ((ResultVar.cell c t :: r).mapM (yj8 a.tmps)).run P w = .ok vs w := fun {a' v F'} ha hr h => by
   obtain ⟨vs, h1, h2⟩ := ykI hI hR hw (rs := r) h
   refine ⟨_, h1, ?_⟩
   have hr := hr w (Mod.refl w)
   have e2 : a.tmps.getD c undef = .pointer (some a') := by rw [hR.get, ha]
   have e1 : (yj8 a.tmps (.cell c t)).run P w = .ok v w := by
    show (do loadVar t (← asAddr (a.tmps.getD c undef)) : Sem Value).run P w = _
    rw [e2]
    exact hr
   rw [List.mapM_cons, Sem.run_bind, e1]
   simp only [Result.andThen]
   rw [Sem.run_bind, h2]
   rfl
  unfold yqV at h
  split at h
  ·rename_i k off ht
   split at h
   ·rename_i tb hk
    obtain ⟨tb', hk', ha⟩ := hI.tags _ _ _ ht
    rw [hk] at hk'; cases hk'
    obtain ⟨v, h, hr⟩ := ynV h (ynW (hI.at_ k tb hk) off)
    exact fin ha hr h
   ·exact h.elim
  ·split at h
   ·rename_i a' ha hd
    obtain ⟨v, h, hr⟩ := ynO h hd
    rw [hw] at hr
    exact fin ha hr h
   ·exact h.elim
theorem yl3 {P : Program} (hm : P.follows .mixedOrders = true) {f : FuncId} {fn : Func} {c : Code} {args : List Value} {n : Nat} {w : World} {R : VWP} {np : List Nat} {an : List LA} {u : List (Nat × Value × Tag)} {mem : List TB} (hf : P.funcs[f]? = some fn) (hb : fn.body = some c) (hn : fn.ntmps = n) (hd : yd8 n c = true) (ha : args.length ≤ n)
  (hu : ∀ i, lkV u (fun _ => undef) i = args.getD i undef) (hI : Inv ⟨u, fun _ => undef⟩ ⟨mem, w, [], [], true⟩ w)
  (h : dnF P an c 400 [] (ya7 P fn np R) ⟨u, fun _ => undef⟩ ⟨mem, w, [], [], true⟩) : Calls P f args.toArray w fun e w' => ∃ v, e = .returned v ∧ R v w' := by
 refine calls_of_wp hf hb ?_
 have hR : Rel n ⟨u, fun _ => undef⟩ ({ tmps := args.toArray ++ Array.replicate (fn.ntmps - args.toArray.size) undef, defers := [] } : Act) := by
  refine ⟨fun i => ?_, rfl, by simp [hn]; omega⟩
  show _ = lkV u (fun _ => undef) i
  rw [hu i]
  simp only [Array.getD_eq_getD_getElem?, List.getD_eq_getElem?_getD]
  by_cases hi : i < args.length
  ·rw [Array.getElem?_append_left (by simpa using hi)]; simp
  ·rw [Array.getElem?_append_right (by simpa using hi), List.getElem?_eq_none (by omega)]
   simp only [Array.getElem?_replicate]
   split <;> rfl
 refine yxN hm an n c 399 c [] rfl hd h hI hR fun e f s w' a hq hI' hR' => ?_
 have fin : yhO (ycK (np ++ ygO f (yuU fn.results.toList)) s) (fun s => yqV P fn.results.toList f s fun vs => match vs with
   | [v] => R v s.w
   | vs => R (.tuple ⟨vs⟩) s.w) → ∃ v, (results fn a.tmps).run P w' = .ok v w' ∧ R v w' := fun h => by
  obtain ⟨s', h, hI2, hw, _⟩ := ydJ h (ybP hI')
  obtain ⟨vs, h1, h2⟩ := ykI hI2 hR' hw h
  rw [hw] at h1
  have e : (fn.results.mapM (yj8 a.tmps)).run P w' = .ok vs.toArray w' := by
   rw [Array.mapM_eq_mapM_toList, map_eq_pure_bind, Sem.run_bind, h2]
   simp [Result.andThen]
  rw [yxE, Sem.run_bind, e]
  simp only [Result.andThen]
  split at h1
  ·rename_i v
   exact ⟨v, by simp [Sem.run], h1⟩
  ·rename_i hn
   refine ⟨_, ?_, h1⟩
   have : ¬ vs.toArray.size = 1 := fun hl => by
    match vs, hl, hn with
    | [v], _, hn => exact hn v rfl
   rw [dif_neg this]; rfl
 cases e
 case normal => obtain ⟨v, h1, h2⟩ := fin hq; exact ⟨hR'.defers, v, h1, v, rfl, h2⟩
 case ret => obtain ⟨v, h1, h2⟩ := fin hq; exact ⟨hR'.defers, v, h1, v, rfl, h2⟩
 all_goals exact hq.elim
theorem ykJ : ∀ (args : List Value) (k i : Nat), lkV (ylN k args) (fun _ => undef) i = if i < k then undef else args.getD (i - k) undef
 | [], k, i => by simp [ylN, lkV]
 | v :: r, k, i => by
  simp only [ylN, lkV]
  split
  ·rename_i hb; have := Nat.eq_of_beq_eq_true hb; subst this; simp
  ·rename_i hb
   have hne := Nat.ne_of_beq_eq_false hb
   rw [ykJ r (k + 1) i]
   by_cases h1 : i < k
   ·rw [if_pos (by omega), if_pos h1]
   ·rw [if_neg (by omega), if_neg h1, show i - k = (i - (k + 1)) + 1 by omega, List.getD_cons_succ]
theorem ykK : ∀ (args : List Value) (k i : Nat), lkT (ylN k args) i = none
 | [], k, i => rfl
 | v :: r, k, i => by
  simp only [ylN, lkT]
  split
  ·rfl
  ·exact ykK r (k + 1) i
theorem yaA {P : Program} (hm : P.follows .mixedOrders = true) {f : FuncId} {fn : Func} {c : Code} {args : List Value} {n : Nat} {w : World} {R : VWP} {an : List LA} (hf : P.funcs[f]? = some fn) (hb : fn.body = some c) (hn : fn.ntmps = n) (hd : yd8 n c = true) (ha : Nat.ble args.length n = true)
  (h : dnF P an c 400 [] (ya7 P fn [] R) ⟨ylN 0 args, fun _ => undef⟩ ⟨[], w, [], [], true⟩) : Calls P f args.toArray w fun e w' => ∃ v, e = .returned v ∧ R v w' :=
 yl3 hm hf hb hn hd (Nat.le_of_ble_eq_true ha) (fun i => by rw [ykJ]; simp)
  ⟨by simp, by simp, fun i k off ht => by simp [FA.tag, ykK] at ht, (Mod.refl w).less (by simp), by simp, ⟨by simp, by simp⟩, fun _ => rfl⟩ h
theorem yaZ {P : Program} (hm : P.follows .mixedOrders = true) {f : FuncId} {fn : Func} {c : Code} {args : List Value} {n : Nat} {w : World} {R : VWP} {an : List LA} {b : Nat} {T : TypeId} {cs : List Value} (hf : P.funcs[f]? = some fn) (hb : fn.body = some c) (hn : fn.ntmps = n) (hd : yd8 n c = true) (ha : Nat.ble (args.length + 1) n = true)
  (hw : w.heap[b]? = some (.cells cs.toArray T))
  (h : dnF P an c 400 [] (ya7 P fn [0] R) ⟨(0, .pointer (some ⟨b, 0, none⟩), some (0, 0)) :: ylN 1 args, fun _ => undef⟩ ⟨[⟨b, T, cs, false⟩], w, [], [], true⟩) : Calls P f (.pointer (some ⟨b, 0, none⟩) :: args).toArray w fun e w' => ∃ v, e = .returned v ∧ R v w' := by
 have get : ∀ (k : Nat) (tb : TB), [(⟨b, T, cs, false⟩ : TB)][k]? = some tb → k = 0 ∧ tb = ⟨b, T, cs, false⟩ := fun k tb h => by
  cases k with
  | zero => simp at h; exact ⟨rfl, h.symm⟩
  | succ k => simp at h
 refine yl3 hm hf hb hn hd (by have := Nat.le_of_ble_eq_true ha; simpa using this) (fun i => ?_)
  ⟨fun k tb hk => ?_, fun i j x y hx hy _ => by rw [(get i x hx).1, (get j y hy).1], fun i k off ht => ?_, (Mod.refl w).less (by simp), by simp, ⟨by simp, by simp⟩, fun _ => rfl⟩ h
 ·cases i with
  | zero => rfl
  | succ i =>
   show lkV (ylN 1 args) (fun _ => undef) (i + 1) = _
   rw [ykJ, if_neg (by omega)]; rfl
 ·obtain ⟨_, rfl⟩ := get k tb hk; exact hw
 ·cases i with
  | zero =>
   have ht : some (0, 0) = some (k, off) := ht
   cases ht
   exact ⟨⟨b, T, cs, false⟩, by simp, rfl⟩
  | succ i =>
   have ht : lkT (ylN 1 args) (i + 1) = some (k, off) := ht
   rw [ykK] at ht; cases ht
abbrev VM := List Value × List TB
def yaJ (a : LA) (D : Kx3 → FA → St → Prop) (Q : Kx3) (s : VM) (w : World) : Prop := yE6 a D Q s.1 s.2 w
def yaR (a : LA) (D : FA → St → Prop) (s : VM) (w : World) : Prop := yIU a D s.1 s.2 w
def wpS (P : Program) (c : Code) (l : LA) (Q : Kx3) (s : VM) (w : World) : Prop := wpV P c l Q s.1 s.2 w
def KS (K : Kh) (s : VM) (w : World) : Prop := K s.1 s.2 w
def KG {S : Type} (f : S → VM) (I : Nat → S → World → Prop) (m : Nat) : Kh := fun vals mem w => ∃ m', m' < m ∧ ∃ s, vals = (f s).1 ∧ mem = (f s).2 ∧ I m' s w
abbrev CR (P : Program) (f : FuncId) (args : Array Value) (w : World) (R : VWP) : Prop := Calls P f args w fun e w' => ∃ v, e = .returned v ∧ R v w'
theorem lrule {S : Type} {la : LA} {D : Kx3 → FA → St → Prop} {Q : Kx3} (f : S → VM) (I : Nat → S → World → Prop) {m0 : Nat} {s0 : S} {w0 : World} (h0 : I m0 s0 w0)
  (hr : ∀ m s w, I m s w → (f s).1.length = la.live.length ∧ (f s).2.length = la.n ∧ ∀ js, yDH la (D (yqU (atA la (KG f I m)) Q)) (f s).1 js (f s).2 w) : yaJ la D Q (f s0) w0 := by
 refine ⟨fun m vals mem w => ∃ s, vals = (f s).1 ∧ mem = (f s).2 ∧ I m s w, m0, ⟨s0, rfl, rfl, h0⟩, ?_⟩
 rintro m vals mem w ⟨s, rfl, rfl, hI⟩
 exact hr m s w hI
theorem crule {S : Type} {la : LA} {D : FA → St → Prop} (f : S → VM) (J : S → World → Prop) {s0 : S} {w0 : World} (h0 : J s0 w0)
  (hr : ∀ s w, J s w → (f s).1.length = la.live.length ∧ (f s).2.length = la.n ∧ ∀ js, yDH la D (f s).1 js (f s).2 w) : yaR la D (f s0) w0 := by
 refine ⟨fun vals mem w => ∃ s, vals = (f s).1 ∧ mem = (f s).2 ∧ J s w, ⟨s0, rfl, rfl, h0⟩, ?_⟩
 rintro vals mem w ⟨s, rfl, rfl, hI⟩
 exact hr s w hI
def U1 {A0 : Type} (I : Nat → A0 → World → Prop) : Nat → A0 → World → Prop := fun m_ a0 w_ => I m_ a0 w_
def U2 {A0 A1 : Type} (I : Nat → A0 → A1 → World → Prop) : Nat → A0 × A1 → World → Prop := fun m_ (a0, a1) w_ => I m_ a0 a1 w_
def U3 {A0 A1 A2 : Type} (I : Nat → A0 → A1 → A2 → World → Prop) : Nat → A0 × A1 × A2 → World → Prop := fun m_ (a0, a1, a2) w_ => I m_ a0 a1 a2 w_
def U4 {A0 A1 A2 A3 : Type} (I : Nat → A0 → A1 → A2 → A3 → World → Prop) : Nat → A0 × A1 × A2 × A3 → World → Prop := fun m_ (a0, a1, a2, a3) w_ => I m_ a0 a1 a2 a3 w_
def U5 {A0 A1 A2 A3 A4 : Type} (I : Nat → A0 → A1 → A2 → A3 → A4 → World → Prop) : Nat → A0 × A1 × A2 × A3 × A4 → World → Prop := fun m_ (a0, a1, a2, a3, a4) w_ => I m_ a0 a1 a2 a3 a4 w_
def U6 {A0 A1 A2 A3 A4 A5 : Type} (I : Nat → A0 → A1 → A2 → A3 → A4 → A5 → World → Prop) : Nat → A0 × A1 × A2 × A3 × A4 × A5 → World → Prop := fun m_ (a0, a1, a2, a3, a4, a5) w_ => I m_ a0 a1 a2 a3 a4 a5 w_
def U7 {A0 A1 A2 A3 A4 A5 A6 : Type} (I : Nat → A0 → A1 → A2 → A3 → A4 → A5 → A6 → World → Prop) : Nat → A0 × A1 × A2 × A3 × A4 × A5 × A6 → World → Prop := fun m_ (a0, a1, a2, a3, a4, a5, a6) w_ => I m_ a0 a1 a2 a3 a4 a5 a6 w_
def U9 {A0 A1 A2 A3 A4 A5 A6 A7 A8 : Type} (I : Nat → A0 → A1 → A2 → A3 → A4 → A5 → A6 → A7 → A8 → World → Prop) : Nat → A0 × A1 × A2 × A3 × A4 × A5 × A6 × A7 × A8 → World → Prop := fun m_ (a0, a1, a2, a3, a4, a5, a6, a7, a8) w_ => I m_ a0 a1 a2 a3 a4 a5 a6 a7 a8 w_
def U12 {A0 A1 A2 A3 A4 A5 A6 A7 A8 A9 B0 B1 : Type} (I : Nat → A0 → A1 → A2 → A3 → A4 → A5 → A6 → A7 → A8 → A9 → B0 → B1 → World → Prop) : Nat → A0 × A1 × A2 × A3 × A4 × A5 × A6 × A7 × A8 × A9 × B0 × B1 → World → Prop := fun m_ (a0, a1, a2, a3, a4, a5, a6, a7, a8, a9, b0, b1) w_ => I m_ a0 a1 a2 a3 a4 a5 a6 a7 a8 a9 b0 b1 w_
def V12 {A0 A1 A2 A3 A4 A5 A6 A7 A8 A9 B0 B1 : Type} (J : A0 → A1 → A2 → A3 → A4 → A5 → A6 → A7 → A8 → A9 → B0 → B1 → World → Prop) : A0 × A1 × A2 × A3 × A4 × A5 × A6 × A7 × A8 × A9 × B0 × B1 → World → Prop := fun (a0, a1, a2, a3, a4, a5, a6, a7, a8, a9, b0, b1) w_ => J a0 a1 a2 a3 a4 a5 a6 a7 a8 a9 b0 b1 w_
def U16 {A0 A1 A2 A3 A4 A5 A6 A7 A8 A9 B0 B1 B2 B3 B4 B5 : Type} (I : Nat → A0 → A1 → A2 → A3 → A4 → A5 → A6 → A7 → A8 → A9 → B0 → B1 → B2 → B3 → B4 → B5 → World → Prop) : Nat → A0 × A1 × A2 × A3 × A4 × A5 × A6 × A7 × A8 × A9 × B0 × B1 × B2 × B3 × B4 × B5 → World → Prop := fun m_ (a0, a1, a2, a3, a4, a5, a6, a7, a8, a9, b0, b1, b2, b3, b4, b5) w_ => I m_ a0 a1 a2 a3 a4 a5 a6 a7 a8 a9 b0 b1 b2 b3 b4 b5 w_
def U17 {A0 A1 A2 A3 A4 A5 A6 A7 A8 A9 B0 B1 B2 B3 B4 B5 B6 : Type} (I : Nat → A0 → A1 → A2 → A3 → A4 → A5 → A6 → A7 → A8 → A9 → B0 → B1 → B2 → B3 → B4 → B5 → B6 → World → Prop) : Nat → A0 × A1 × A2 × A3 × A4 × A5 × A6 × A7 × A8 × A9 × B0 × B1 × B2 × B3 × B4 × B5 × B6 → World → Prop := fun m_ (a0, a1, a2, a3, a4, a5, a6, a7, a8, a9, b0, b1, b2, b3, b4, b5, b6) w_ => I m_ a0 a1 a2 a3 a4 a5 a6 a7 a8 a9 b0 b1 b2 b3 b4 b5 b6 w_
def V19 {A0 A1 A2 A3 A4 A5 A6 A7 A8 A9 B0 B1 B2 B3 B4 B5 B6 B7 B8 : Type} (J : A0 → A1 → A2 → A3 → A4 → A5 → A6 → A7 → A8 → A9 → B0 → B1 → B2 → B3 → B4 → B5 → B6 → B7 → B8 → World → Prop) : A0 × A1 × A2 × A3 × A4 × A5 × A6 × A7 × A8 × A9 × B0 × B1 × B2 × B3 × B4 × B5 × B6 × B7 × B8 → World → Prop := fun (a0, a1, a2, a3, a4, a5, a6, a7, a8, a9, b0, b1, b2, b3, b4, b5, b6, b7, b8) w_ => J a0 a1 a2 a3 a4 a5 a6 a7 a8 a9 b0 b1 b2 b3 b4 b5 b6 b7 b8 w_
def V20 {A0 A1 A2 A3 A4 A5 A6 A7 A8 A9 B0 B1 B2 B3 B4 B5 B6 B7 B8 B9 : Type} (J : A0 → A1 → A2 → A3 → A4 → A5 → A6 → A7 → A8 → A9 → B0 → B1 → B2 → B3 → B4 → B5 → B6 → B7 → B8 → B9 → World → Prop) : A0 × A1 × A2 × A3 × A4 × A5 × A6 × A7 × A8 × A9 × B0 × B1 × B2 × B3 × B4 × B5 × B6 × B7 × B8 × B9 → World → Prop := fun (a0, a1, a2, a3, a4, a5, a6, a7, a8, a9, b0, b1, b2, b3, b4, b5, b6, b7, b8, b9) w_ => J a0 a1 a2 a3 a4 a5 a6 a7 a8 a9 b0 b1 b2 b3 b4 b5 b6 b7 b8 b9 w_
def V21 {A0 A1 A2 A3 A4 A5 A6 A7 A8 A9 B0 B1 B2 B3 B4 B5 B6 B7 B8 B9 C0 : Type} (J : A0 → A1 → A2 → A3 → A4 → A5 → A6 → A7 → A8 → A9 → B0 → B1 → B2 → B3 → B4 → B5 → B6 → B7 → B8 → B9 → C0 → World → Prop) : A0 × A1 × A2 × A3 × A4 × A5 × A6 × A7 × A8 × A9 × B0 × B1 × B2 × B3 × B4 × B5 × B6 × B7 × B8 × B9 × C0 → World → Prop := fun (a0, a1, a2, a3, a4, a5, a6, a7, a8, a9, b0, b1, b2, b3, b4, b5, b6, b7, b8, b9, c0) w_ => J a0 a1 a2 a3 a4 a5 a6 a7 a8 a9 b0 b1 b2 b3 b4 b5 b6 b7 b8 b9 c0 w_
def U25 {A0 A1 A2 A3 A4 A5 A6 A7 A8 A9 B0 B1 B2 B3 B4 B5 B6 B7 B8 B9 C0 C1 C2 C3 C4 : Type} (I : Nat → A0 → A1 → A2 → A3 → A4 → A5 → A6 → A7 → A8 → A9 → B0 → B1 → B2 → B3 → B4 → B5 → B6 → B7 → B8 → B9 → C0 → C1 → C2 → C3 → C4 → World → Prop) : Nat → A0 × A1 × A2 × A3 × A4 × A5 × A6 × A7 × A8 × A9 × B0 × B1 × B2 × B3 × B4 × B5 × B6 × B7 × B8 × B9 × C0 × C1 × C2 × C3 × C4 → World → Prop := fun m_ (a0, a1, a2, a3, a4, a5, a6, a7, a8, a9, b0, b1, b2, b3, b4, b5, b6, b7, b8, b9, c0, c1, c2, c3, c4) w_ => I m_ a0 a1 a2 a3 a4 a5 a6 a7 a8 a9 b0 b1 b2 b3 b4 b5 b6 b7 b8 b9 c0 c1 c2 c3 c4 w_
def U28 {A0 A1 A2 A3 A4 A5 A6 A7 A8 A9 B0 B1 B2 B3 B4 B5 B6 B7 B8 B9 C0 C1 C2 C3 C4 C5 C6 C7 : Type} (I : Nat → A0 → A1 → A2 → A3 → A4 → A5 → A6 → A7 → A8 → A9 → B0 → B1 → B2 → B3 → B4 → B5 → B6 → B7 → B8 → B9 → C0 → C1 → C2 → C3 → C4 → C5 → C6 → C7 → World → Prop) : Nat → A0 × A1 × A2 × A3 × A4 × A5 × A6 × A7 × A8 × A9 × B0 × B1 × B2 × B3 × B4 × B5 × B6 × B7 × B8 × B9 × C0 × C1 × C2 × C3 × C4 × C5 × C6 × C7 → World → Prop := fun m_ (a0, a1, a2, a3, a4, a5, a6, a7, a8, a9, b0, b1, b2, b3, b4, b5, b6, b7, b8, b9, c0, c1, c2, c3, c4, c5, c6, c7) w_ => I m_ a0 a1 a2 a3 a4 a5 a6 a7 a8 a9 b0 b1 b2 b3 b4 b5 b6 b7 b8 b9 c0 c1 c2 c3 c4 c5 c6 c7 w_
theorem yaD.of0 {es : List Nat} {ts : List (Nat × TypeId)} {bs : List Nat} {w w' : World} (M : Mod [] w w') : ya4 es ts bs w w' := fun b _ hl _ _ => M.block b hl (by simp)
theorem yaD.of {S es : List Nat} {ts : List (Nat × TypeId)} {bs : List Nat} {w w' : World} (M : Mod S w w') (h : ∀ b ∈ bs, b < w.heap.size → b ∉ S) : ya4 es ts bs w w' := fun b hb hl _ _ => M.block b hl (h b hb hl)
theorem yaD.ofE {S es : List Nat} {ts : List (Nat × TypeId)} {bs : List Nat} {w w' : World} (M : Mod S w w') (h : ∀ b ∈ bs, b < w.heap.size → b ∉ es → b ∉ S) : ya4 es ts bs w w' := fun b hb hl he _ => M.block b hl (h b hb hl he)
theorem Mod.new {S : List Nat} {w w' : World} (h : Mod S w w') (hs : ∀ k ∈ S, w.heap.size ≤ k) : Mod [] w w' := h.less fun k hk hl => by have := hs k hk; omega
theorem Mod.go0 {S : List Nat} {a b c : World} (h : Mod [] a b) (k : Mod S b c) (hs : ∀ i ∈ S, a.heap.size ≤ i) : Mod [] a c :=
 (h.trans k).less fun i hi hl => by simp only [List.nil_append] at hi; have := hs i hi; omega
def ydY : Option Addr → List Nat
 | none => []
 | some ad => [ad.block]
theorem ybY (a : Option Addr) : ∀ ad, a = some ad → ad.block ∈ ydY a := by rintro ad rfl; simp [ydY]
theorem Row.rebase {α : Type} {w : World} {base base' T sz : Nat} {enc : α → List Value} {a : Option Addr} {n c : Nat} {l : List α} (h : Row w base T sz enc a n c l) (hb : base' ≤ base) : Row w base' T sz enc a n c l := by
 obtain ⟨hn, hl, ho⟩ := h
 refine ⟨hn, hl, ?_⟩
 rcases ho with ho | ⟨g, cap, cur, hv, hg, r⟩
 ·exact .inl ho
 ·exact .inr ⟨g, cap, cur, hv, Nat.le_trans hb hg, r⟩
theorem yaQ {P : Program} {f : FuncId} {args : Array Value} {w : World} {X : Value} {S : World → Prop} (h : Calls P f args w fun e w' => ∃ v, e = .returned v ∧ (v = X ∧ S w')) : Calls P f args w fun e w' => e = .returned X ∧ S w' :=
 h.mono fun e w' ⟨v, h1, h2, h3⟩ => ⟨by rw [h1, h2], h3⟩
theorem brT {A B : Prop} {t : Bool} (h : t = true) (hA : A) : brB t A B := by subst h; exact hA
theorem brF {A B : Prop} {t : Bool} (h : t = false) (hB : B) : brB t A B := by subst h; exact hB
theorem ydA (a : Addr) (i j : Nat) : (a.add i).add j = a.add (i + j) := by
 unfold Addr.add
 cases i <;> cases j <;> simp [Nat.add_assoc] <;> omega
theorem Row.fresh {α : Type} {w : World} {base T sz b : Nat} {enc : α → List Value} (h : w.heap[b]? = some (.cells #[] T)) (hb : base ≤ b) : Row w base T sz enc (some ⟨b, 0, none⟩) 0 0 [] :=
 ⟨rfl, by simp, .inr ⟨b, 0, #[], rfl, hb, h, by simp, by simp, by simp, by simp⟩⟩
theorem Row.block {α : Type} {w : World} {base T sz : Nat} {enc : α → List Value} {a : Option Addr} {n c : Nat} {l : List α} (h : Row w base T sz enc a n c l) : ∀ ad, a = some ad → base ≤ ad.block ∧ ∃ cur, w.heap[ad.block]? = some (.cells cur T) := by
 intro ad ha
 obtain ⟨hn, hl, ho⟩ := h
 rcases ho with ⟨ho, _⟩ | ⟨g, cap, cur, hv, hb, hh, r⟩
 ·simp only [Value.slice.injEq] at ho; rw [ho.1] at ha; cases ha
 ·simp only [Value.slice.injEq] at hv; rw [hv.1] at ha; cases ha; exact ⟨hb, _, hh⟩
theorem yd0 {a b : ByteArray} : a.toList = b.toList ↔ a = b := by
 constructor
 ·intro e
  rw [Lib.toList_data, Lib.toList_data] at e
  rw [← Lib.mk_data a, ← Lib.mk_data b, e]
 ·rintro rfl; rfl
theorem yhS (a b : ByteArray) : (a.toList == b.toList) = decide (a = b) := by
 by_cases h : a = b
 ·subst h; simp
 ·rw [decide_eq_false h, Bool.eq_false_iff]
  intro e
  exact h (yd0.1 (eq_of_beq e))
theorem yn3 (a : ByteArray) : a = ⟨#[]⟩ ↔ a.size = 0 := by
 constructor
 ·rintro rfl; rfl
 ·intro h
  obtain ⟨d⟩ := a
  have : d = #[] := Array.eq_empty_of_size_eq_zero h
  rw [this]
theorem yg2 {α : Type} {enc : α → List Value} {sz : Nat} (hs : ∀ x, (enc x).length = sz) : ∀ l : List α, (l.flatMap enc).length = l.length * sz
 | [] => by simp
 | x :: r => by rw [List.flatMap_cons, List.length_append, hs, yg2 hs r, List.length_cons, Nat.succ_mul]; omega
end Go.Proofs.YtjellhflalbbmaaGreat
namespace Go.Proofs.YtjellhflalbbmaaGreat
open Go Go.RowKit Go.Shelf
set_option linter.unusedVariables false
set_option linter.unusedSimpArgs false
structure BT (T : TypeId) : Prop where
 lies : liesAt pP Tryz.prog.depth T (2 / Tryz.prog.cellsOf T) 0 106 1 = true
 ne : T ≠ 5
theorem yE8 : (Tryz.prog.info? 106).map (·.size) = some 2 := by kernel_rfl
theorem yIZ : (Tryz.prog.info? 5).map (fun i => (i.zero, i.size, i.bytes)) = some (some (.int .u8 0), 1, 1) := by kernel_rfl
theorem yGK : Tryz.prog.cellsOf 5 = 1 := by kernel_rfl
set_option maxHeartbeats 1000000 in
set_option maxRecDepth 100000 in
theorem yGL (b : Nat) (w : World) (h0 : w.cell? ⟨b, 0, none⟩ = some (.pointer (some ⟨b, 0, none⟩))) :
  Calls pP 75 #[.pointer (some ⟨b, 0, none⟩)] w fun e w' => e = .returned (.tuple #[]) ∧ w' = w := by
 obtain ⟨j, hj, _⟩ := Option.map_eq_some_iff.1 yE8
 go_enter Tryz.func75, Tryz.ntmps75
 go_wp2
 rw [Lib.run_neq_ptr_same w _ Tryz.underlying103 hj]
 go_wp2
 go_end0
 exact ⟨rfl, rfl⟩
set_option maxHeartbeats 1000000 in
set_option maxRecDepth 100000 in
theorem yDM {T : TypeId} (X : BT T) (b : Nat) (w : World) (h0 : w.cell? ⟨b, 0, none⟩ = some (.pointer none)) (hsh : w.shape? b = some (T, 2)) (hfz : w.frozen? ⟨b, 0, none⟩ = false) :
  Calls pP 75 #[.pointer (some ⟨b, 0, none⟩)] w fun e w' => e = .returned (.tuple #[]) ∧ w' = w.setCell ⟨b, 0, none⟩ (.pointer (some ⟨b, 0, none⟩)) := by
 obtain ⟨j, hj, hjs⟩ := Option.map_eq_some_iff.1 yE8
 go_enter Tryz.func75, Tryz.ntmps75
 go_wp2
 rw [Lib.run_to_unsafe w ⟨b, 0, none⟩ Tryz.underlying103 Tryz.underlying172 hj (by rw [hjs]; decide) hsh (Nat.zero_lt_succ 1)]
 simp only [Result.andThen]
 rw [Oper.upon_value]
 go_wp2
 rw [run_callFunc_extern Tryz.func111 (by kernel_rfl) (by kernel_rfl) (by kernel_rfl) (e := Extern.AbiNoEscape.same) (by kernel_rfl)]
 rw [Lib.run_noEscape]
 simp only [Result.andThen]
 rw [Oper.upon_value]
 go_wp2
 rw [Lib.run_from_unsafe w ⟨b, 0, none⟩ Tryz.underlying172 Tryz.underlying103 hj hsh X.lies]
 simp only [Result.andThen]
 rw [Oper.upon_value]
 go_wp2
 go_end0
 exact ⟨rfl, rfl⟩
theorem yMk {T : TypeId} (X : BT T) (B b : Nat) (bs : List Value) (w : World) (h : Lib.IsBuilderF T 5 B b bs w) :
  Calls pP 75 #[.pointer (some ⟨b, 0, none⟩)] w fun e w' => e = .returned (.tuple #[]) ∧ (Lib.BuilderAtF T 5 B b (.pointer (some ⟨b, 0, none⟩)) bs w' ∧ Below B w w' ∧ Lib.OthersKept 5 (some b) w w') := by
 rcases h with h | h
 ·refine (yDM X b w h.cell0 h.shape h.frozen0).mono ?_
  rintro e w' ⟨rfl, rfl⟩
  exact ⟨rfl, h.used _, (Below.refl B w).setCell (p := ⟨b, 0, none⟩) h.1 _, (Lib.OthersKept.refl _ _ w).setCell ⟨b, 0, none⟩ rfl _⟩
 ·refine (yGL b w h.cell0).mono ?_
  rintro e w' ⟨rfl, rfl⟩
  exact ⟨rfl, h, Below.refl B _, Lib.OthersKept.refl _ _ _⟩
set_option maxHeartbeats 2000000 in
set_option maxRecDepth 100000 in
theorem ygU {T : TypeId} (X : BT T) (B b : Nat) (bs : List Value) (s : ByteArray) (w : World) (h : Lib.IsBuilderF T 5 B b bs w) (hlen : bs.length + s.size ≤ 140737488355328) (hBw : B ≤ w.heap.size) :
  Calls pP 51 #[.pointer (some ⟨b, 0, none⟩), .string s] w fun e w' => e = .returned (.tuple #[.int .i64 s.size, .nilIface]) ∧ (Lib.BuilderAtF T 5 B b (.pointer (some ⟨b, 0, none⟩)) (bs ++ Lib.strCells s) w' ∧ Below B w w' ∧ Lib.OthersKept 5 (some b) w w') := by
 obtain ⟨i0, hi, hz0, hz1, hz2⟩ := info_parts yIZ
 have mixed := Tryz.wide_mixed
 have eC : ∀ args w, (callFunc 75 args).run pP w = .ok (.enter 75 args) w := enters_of Tryz.func75 (by kernel_rfl) rfl
 go_enter Tryz.func51, Tryz.ntmps51
 go_wp2_with (go_at_fn 75; refine (yMk X B b bs _ h).mono ?_)
 rintro e w1 ⟨rfl, h1, hb1, hk1⟩
 obtain ⟨hB, v, hbk, hown, hne⟩ := h1
 have c0 : w1.cell? ⟨b, 0, none⟩ = some (.pointer (some ⟨b, 0, none⟩)) := by rw [Lib.cell_of_heap hbk]; rfl
 have c1 : w1.cell? ⟨b, 1, none⟩ = some v := by rw [Lib.cell_of_heap hbk]; rfl
 go_wp2_with (at_builtin; refine Lib.wpList_append_own_stringF _ rfl _ _ 104 9 rfl B 5 i0 Tryz.underlying104 Tryz.underlying9 hi hz0 hz1 hz2 _ _ _ rfl hown s rfl ?c3 ?c4 ?c5 ?_)
 case c3 => unfold maxLen; omega
 case c4 => omega
 case c5 => have := hb1.size; omega
 intro v' w2 hown' hgrow _
 have hlt : b < w1.heap.size := yaK hbk
 have hb2 : w2.heap[b]? = some (.cells #[.pointer (some ⟨b, 0, none⟩), v] T (0, 0)) := by
  rw [hgrow.block b hlt (fun e => hne e.symm)]
  exact hbk
 have d0 : w2.cell? ⟨b, 0, none⟩ = some (.pointer (some ⟨b, 0, none⟩)) := by rw [Lib.cell_of_heap hb2]; rfl
 have d1 : w2.cell? ⟨b, 1, none⟩ = some v := by rw [Lib.cell_of_heap hb2]; rfl
 have f1 : w2.frozen? ⟨b, 1, none⟩ = false := Lib.frozen_of_heap hb2 1
 obtain ⟨ao, n', cap, rfl⟩ : ∃ ao n' cap, v' = .slice ao n' cap := by
  rcases hown'.2 with ⟨hv, _⟩ | ⟨g, cap, cur, fz, hv, _⟩
  ·exact ⟨_, _, _, hv⟩
  ·exact ⟨_, _, _, hv⟩
 go_wp2
 go_ret2
 refine ⟨rfl, ?_, ?_, (hk1.grown hgrow (Lib.ownsRowF_kind hown)).setCell ⟨b, 1, none⟩ rfl _⟩
 ·exact Lib.BuilderAtF.put (T := T) (e := 5) hB hb2 (bs' := bs ++ Lib.strCells s) (by simpa [Lib.strCells_length] using hown') X.ne
 ·exact (hb1.grown hgrow (by have := hb1.size; omega) (fun k hk => (hown.lt k hk).1)).setCell (p := ⟨b, 1, none⟩) hB _
set_option maxHeartbeats 1000000 in
set_option maxRecDepth 100000 in
theorem ykL {T : TypeId} (X : BT T) (B b : Nat) (l : List UInt8) (w : World) (h : Lib.IsBuilderF T 5 B b (Lib.byteCells l) w) (h0 : l ≠ []) :
  Calls pP 55 #[.pointer (some ⟨b, 0, none⟩)] w fun e w' => e = .returned (.string ⟨l.toArray⟩) ∧ (Lib.IsBuilderF T 5 B b (Lib.byteCells l) w' ∧ Below B w w' ∧ Lib.OthersKept 5 (some b) w w') := by
 obtain ⟨p, hp, hAt⟩ : ∃ p, (p = .pointer none ∨ p = .pointer (some ⟨b, 0, none⟩)) ∧ Lib.BuilderAtF T 5 B b p (Lib.byteCells l) w := by
  rcases h with h | h
  ·exact ⟨_, .inl rfl, h⟩
  ·exact ⟨_, .inr rfl, h⟩
 obtain ⟨hB, v, hbk, hown, hne⟩ := hAt
 have hl0 : l.length ≠ 0 := by simpa using h0
 rw [Lib.byteCells_length] at hown
 obtain ⟨g, cap, cur, fz, rfl, hbg, hg, hfz, hnc, hcm, hcs, htake⟩ : ∃ g cap cur fz, v = .slice (some ⟨g, 0, none⟩) l.length cap ∧ B ≤ g ∧ w.heap[g]? = some (.cells cur 5 fz) ∧ fz.2 ≤ l.length * 1 ∧ l.length ≤ cap ∧ cap ≤ maxLen ∧ cur.size = cap * 1 ∧ cur.toList.take (l.length * 1) = Lib.byteCells l := by
  rcases hown.2 with ⟨_, hz⟩ | ⟨g, cap, cur, fz, hv, r⟩
  ·exact absurd hz hl0
  ·exact ⟨g, cap, cur, fz, hv, r⟩
 have c1 : w.drew.cell? ⟨b, 1, none⟩ = some (.slice (some ⟨g, 0, none⟩) l.length cap) := by
  have : w.drew.heap[b]? = some (.cells #[p, .slice (some ⟨g, 0, none⟩) l.length cap] T (0, 0)) := hbk
  rw [Lib.cell_of_heap this]; rfl
 have hSD : (Builtin.unsafeSliceData_ #[104] 146 #[.slice (some ⟨g, 0, none⟩) l.length cap]).run pP w.drew = .ok (.pointer (some ⟨g, 0, none⟩)) w.drew :=
  Lib.run_unsafeSliceData_row _ _ _ _ _ _ (by omega)
 have hUS : (Builtin.unsafeString_ #[146, 3] 9 #[.pointer (some ⟨g, 0, none⟩), .int .i64 l.length]).run pP w.drew = .ok (.string ⟨l.toArray⟩) (w.drew.freeze ⟨g, 0, none⟩ l.length) := by
  refine Lib.run_unsafeString_row w.drew 146 3 9 5 Tryz.underlying146 yGK g cur.size (by have hg' : w.drew.heap[g]? = some (.cells cur 5 fz) := hg; simp [World.shape?, hg']) l h0 (by omega) (by unfold maxLen at hcm; omega) ?_
  intro j x hx
  have := hown.cells (g := g) rfl j (.int .u8 x.toNat) (by simp [Lib.byteCells, hx])
  exact this
 have hkeep : Lib.IsBuilderF T 5 B b (Lib.byteCells l) (w.drew.freeze ⟨g, 0, none⟩ l.length) := by
  have hA : Lib.BuilderAtF T 5 B b p (Lib.byteCells l) w.drew := ⟨hB, _, hbk, by rw [Lib.byteCells_length]; exact hown, hne⟩
  have hF := hA.froze (g := g) (cap := cap) (by rw [Lib.byteCells_length]; exact c1)
  rw [Lib.byteCells_length] at hF
  rcases hp with rfl | rfl
  ·exact .inl hF
  ·exact .inr hF
 have mixed := Tryz.wide_mixed
 go_enter Tryz.func55, Tryz.ntmps55
 go_wp2
 go_region_o
 all_goals (go_wp2; go_ret; exact ⟨rfl, hkeep, Lib.below_freeze (Below.drew (Below.refl B w)) (p := ⟨g, 0, none⟩) hbg _, ((Lib.OthersKept.refl _ _ w).drew).freeze ⟨g, 0, none⟩ _ ⟨cur, fz, hg⟩⟩)
end Go.Proofs.YtjellhflalbbmaaGreat
namespace Go.Proofs.YtjellhflalbbmaaGreat
open Go Go.RowKit
set_option linter.all false
def yAt {α : Type} (P : Program) (gf : FuncId) (lb : Array Value) (encs : α → Array Value) (C N : Nat) (o0 : Obj) (xs : List α) : Prop :=
 ∀ (l : Nat) (J : List α → World → Prop) (W : World),
  (∀ pre W v, J pre W → J pre (W.setCell ⟨C, 0, none⟩ v)) → (∀ pre W, J pre W → J pre W.drew) →
  (∀ pre x W1, J pre W1 → pre.length < N → YieldAt Fence.wide 0 P l (encs x) W1 fun e W' => e = .returned (.bool true) ∧ J (pre ++ [x]) W' ∧ W'.heap[C]? = W1.heap[C]?) →
  J [] W → W.heap[C]? = some o0 → CallsIn Fence.wide 1 P gf (#[.func (.yield l) #[] #[]] ++ lb) W fun e W' => (∃ v, e = .returned v) ∧ J xs W'
theorem ykM {α : Type} {P : Program} {g : Operand} {ps : Array Tmp} {assign body : Code} {Q : Exit → Act → World → Prop} {a : Act} {w : World}
  {gf : Nat} {lb : Array Value} (hg : a.eval g = .func (.func gf) #[] lb) (eg : ∀ args w, (callFunc gf args).run P w = .ok (.enter gf args) w)
  {encs : α → Array Value} {C N : Nat} {o0 : Obj} {xs : List α} (hC : C < w.heap.size) (hoC : w.heap[C]? = some o0) (hoc : o0.isCells = true) (hseq : yAt P gf lb encs C N o0 xs) (hps : ∀ x, (encs x).size = ps.size)
  (I : List α → World → Prop) (hIa : ∀ s W o, I s W → I s (W.alloc o)) (hIp : ∀ s W l o o', w.heap.size ≤ l → W.heap[l]? = some o → o.isCells = false → I s W → I s (W.putObj l o'))
  (hIc : ∀ s W v, I s W → I s (W.setCell ⟨C, 0, none⟩ v)) (hId : ∀ s W, I s W → I s W.drew) (h0 : I [] w) (a₁ : α → Act)
  (hassign : ∀ (l : Nat) (x : α) (W : World) (K : Act → World → Prop), K (a₁ x) W →
   assign.wpIn (Fence.wide.inRound l) 0 P (Exit.then K (fun _ _ _ => False)) { tmps := (ps.zip (encs x)).foldl (fun t (p, v) => t.setIfInBounds p v) a.tmps, defers := [] } W)
  (hbody : ∀ (l : Nat) (pre : List α) (x : α) (W : World), I pre W → pre.length < N → C < W.heap.size → body.wpIn (Fence.wide.inRound l) 0 P (fun e a' W' => e = .normal ∧ KeepsFrom w.heap.size W W' ∧ W'.heap[C]? = W.heap[C]? ∧ I (pre ++ [x]) W') (a₁ x) W)
  (hdone : ∀ (D : Nat) (W : World), w.heap.size ≤ D → I xs W → W.heap[D]? = some (.deferred (some [])) → Q .normal { a with defers := { target := .collected D, args := #[] } :: a.defers } W) :
  (Code.rangeFunc g ps assign body).wpIn Fence.wide 2 P Q a w := by
 refine wpIn_rangeFunc ?_
 intro fn hfn
 have hro : Fence.wide.round = none := rfl
 rw [hro]
 obtain ⟨rec, hrec⟩ : ∃ rec : LoopState → Option Code → Loop, rec = fun st pe => { state := st, pending := pe, fn, tmps := a.tmps, params := ps, assign, body, defers := w.heap.size } := ⟨_, rfl⟩
 obtain ⟨W1, hW1⟩ : ∃ W1, (w.alloc (.deferred (some []))).alloc (.loop (rec .ready none)) = W1 := ⟨_, rfl⟩
 have hL1 : W1.heap[w.heap.size + 1]? = some (.loop (rec .ready none)) := by
  rw [← hW1]; have := World.alloc_heap_new (w.alloc (.deferred (some []))) (.loop (rec .ready none)); rwa [World.size_alloc] at this
 have hK1 : W1.heap[w.heap.size]? = some (.deferred (some [])) := by
  rw [← hW1]; exact (Below.heap_alloc _ _ _ (by simp)).trans (World.alloc_heap_new w _)
 have hI1 : I [] W1 := by rw [← hW1]; exact hIa _ _ _ (hIa _ _ _ h0)
 have hC1 : W1.heap[C]? = some o0 := by
  rw [← hW1]; exact ((Below.heap_alloc _ _ _ (by simp; omega)).trans (Below.heap_alloc _ _ _ hC)).trans hoC
 refine ⟨w.heap.size + 1, [{ target := .collected w.heap.size, args := #[] }], W1, { target := .fn (.func gf) lb, args := #[.func (.yield (w.heap.size + 1)) #[] #[]] }, W1, gf,
  #[.func (.yield (w.heap.size + 1)) #[] #[]] ++ lb, W1, ?_, ?_, fun _ _ => trivial, ?_, fun h => (by simp [Fence.wide] at h), ?_⟩
 ·rw [← hW1, hrec]; exact run_enterLoop_outer _ _ _ _ _
 ·simp only [resolve, hg]
  simp [go_sem]
 ·simp [invoke, go_sem, eg]
 ·refine (hseq (w.heap.size + 1)
   (fun pre W => I pre W ∧ W.heap[w.heap.size + 1]? = some (.loop (rec .ready none)) ∧ W.heap[w.heap.size]? = some (.deferred (some [])) ∧ C < W.heap.size)
   W1 ?_ ?_ ?_ ⟨hI1, hL1, hK1, yaK hC1⟩ hC1).mono ?_
  ·rintro pre W v ⟨hi, hl, hk, hc⟩
   have hko := KeepsOthers.setCell W ⟨C, 0, none⟩ v
   exact ⟨hIc _ _ _ hi, hko.same _ _ hl rfl, hko.same _ _ hk rfl, Nat.lt_of_lt_of_le hc hko.size⟩
  ·rintro pre W ⟨hi, hl, hk, hc⟩
   exact ⟨hId _ _ hi, hl, hk, hc⟩
  ·rintro pre x W ⟨hi, hl, hk, hc⟩ hlen
   have hlt := yaK hl
   have hy := run_yield (P := P) (args := encs x) hl (by rw [hrec]; exact hps x)
   rw [hrec] at hy
   refine ⟨fn, _, assign, body, hy, roundIn_of_wpIn trivial (hassign _ x W _ ⟨_, run_beginRound hl (by rw [hrec]), ?_⟩)⟩
   have hl2 : (W.putObj (w.heap.size + 1) (.loop { rec .ready none with state := .busy })).heap[w.heap.size + 1]? = some (.loop { rec .ready none with state := .busy }) := World.putObj_heap_same hlt
   have hk2 : (W.putObj (w.heap.size + 1) (.loop { rec .ready none with state := .busy })).heap[w.heap.size]? = some (.deferred (some [])) := (World.putObj_heap_other (by omega)).trans hk
   refine wpIn_mono (hbody _ pre x _ (hIp _ _ _ _ _ (by omega) hl rfl hi) hlen (by simpa [World.putObj] using hc)) ?_
   rintro e a3 W3 ⟨rfl, hk3, hC3, hi3⟩
   have hl3 := hk3.same _ _ (by omega) hl2 rfl
   have hr := run_endRound (P := P) none hl3
   have hlt3 := yaK hl3
   refine ⟨_, _, hr, rfl, ⟨hIp _ _ _ _ _ (by omega) hl3 rfl hi3, ?_, ?_, ?_⟩, ?_⟩
   ·rw [World.putObj_heap_same hlt3, hrec]; rfl
   ·exact (World.putObj_heap_other (by omega)).trans (hk3.same _ _ (Nat.le_refl _) hk2 rfl)
   ·have := hk3.size; simp [World.putObj] at this ⊢; omega
   ·rw [World.putObj_heap_other (by omega), hC3, World.putObj_heap_other (by omega)]
  ·rintro e W2 ⟨⟨v, rfl⟩, hi, hl, hk, hc⟩
   exact ⟨none, _, by have := run_endLoop (P := P) hl (by rw [hrec]; simp); rw [hrec] at this; exact this, hdone _ _ (Nat.le_refl _) (hIp _ _ _ _ _ (by omega) hl rfl hi) ((World.putObj_heap_other (by omega)).trans hk)⟩
end Go.Proofs.YtjellhflalbbmaaGreat
