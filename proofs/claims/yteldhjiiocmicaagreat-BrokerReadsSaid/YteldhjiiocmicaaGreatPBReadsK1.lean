/- Part 1 of the proof of PBReads. -/
import Derived.Test.YteldhjiiocmicaaGreatRows
import Derived.WalkKit
import Derived.WalkSpells
import Derived.WalkLawsBesides
import Derived.Deep.Quiet
import Derived.KernelRfl
import Derived.Maps.Keyed
import Derived.Maps.RangeRun
import Derived.DeepKeys4
import Derived.Lib.Strings
import Derived.Shelf.RegionOpenPlain
import Derived.Lib.Slices
import Derived.Lib.Walk
import Derived.Lib.Builder
import Derived.Lib.FrozenHead
import Derived.Lib.OthersKept
import Derived.Lib.AppendStr
import Derived.Lib.UnsafeStr
import Derived.Lib.MakeNoZero
import Derived.Laws.Externs
import Derived.Laws.IdiomCopy
import Derived.Laws.BitsLemmas
import Derived.RangeFuncBox
import Derived.RangeFuncLeaves
import Derived.RangeFuncNested
import Derived.Shelf.Abstract
import Derived.OwnWalkIn
import Derived.TacticsInMore
import Derived.LoopNIn
import Derived.LoopIn
import Derived.Maps.AppendAt
import Derived.Sort.LoopGhostIn
import Derived.Laws.Bits64b
import Derived.Laws.IdiomStrings
import Derived.Test.YteldhjiiocmicaaGreatProg
import Derived.Shelf.Lay
import Derived.Shelf.Strings.FuncGrows
import Derived.Laws.RangeAny
import Derived.Ground.GgwProg
import Derived.Ground.NamesProg
import Derived.ArgAppend
import Derived.ProofKit
import Derived.OpenShut
import Derived.ShutString
import Derived.ChangeOld
import Derived.Below
import Derived.Deep.Slices
import Derived.Shelf.SlSortCmp.NoneTotal
import Derived.Shelf.SlicesG.Cmp
import Derived.Ground.SlsfProg
import Derived.Ground.SlgcProg
import Derived.StringKeys
import Derived.Shelf.SlIter.Nil
import Derived.Shelf.SortM.Plain
import Derived.Shelf.SortM.SortNone
import Derived.Ground.GgzProg
import Derived.Ground.SlgmProg
import Derived.WideKeyEntry
import Derived.Deep.RegionHeld
namespace Go.Proofs.YteldhjiiocmicaaGreat
open Go Go.RowKit
set_option linter.all false
abbrev OA:=Option Addr
abbrev BA:=ByteArray
noncomputable abbrev pP:=Tryz.prog
abbrev VWP:=Value → World → Prop
structure Mod (S:List Nat) (w w':World):Prop where
 os:w'.os = w.os
 tape:w'.tape = w.tape
 output:w'.output = w.output
 size:w.heap.size ≤ w'.heap.size
 block:∀ k,k < w.heap.size → k ∉ S → w'.heap[k]? = w.heap[k]?
theorem Mod.refl (w:World):Mod [] w w:=⟨rfl,rfl,rfl,Nat.le_refl _,fun _ _ _ => rfl⟩
theorem Mod.trans {S T:List Nat} {a b c:World} (h:Mod S a b) (k:Mod T b c):Mod (S ++ T) a c :=
 ⟨k.os.trans h.os,k.tape.trans h.tape,k.output.trans h.output,Nat.le_trans h.size k.size,fun i hi hS => by
  simp only [List.mem_append,not_or] at hS
  exact (k.block i (Nat.lt_of_lt_of_le hi h.size) hS.2).trans (h.block i hi hS.1)⟩
theorem Mod.less {S T:List Nat} {w w':World} (h:Mod S w w') (hs:∀ k,k ∈ S → k < w.heap.size → k ∈ T):Mod T w w' :=
 ⟨h.os,h.tape,h.output,h.size,fun k hk hT => h.block k hk (fun hS => hT (hs k hS hk))⟩
theorem Mod.keep {S:List Nat} {w w':World} (h:Mod S w w') {b:Nat} {o:Obj} (hb:w.heap[b]? = some o) (hS:b ∉ S):w'.heap[b]? = some o :=
 (h.block b (Array.getElem?_eq_some_iff.1 hb).1 hS).trans hb
theorem Mod.keep0 {w w':World} (h:Mod [] w w') {b:Nat} {o:Obj} (hb:w.heap[b]? = some o):w'.heap[b]? = some o:=h.keep hb (by simp)
theorem Mod.below {S:List Nat} {w w':World} (h:Mod S w w') (hs:∀ k,k ∈ S → w.heap.size ≤ k):Below w.heap.size w w' :=
 ⟨h.os,h.tape,h.output,h.size,fun k hk => h.block k hk (fun hS => by have:=hs k hS; omega)⟩
theorem Mod.of_below {w w':World} (h:Below w.heap.size w w'):Mod [] w w':=⟨h.os,h.tape,h.output,h.size,fun k hk _ => h.block k hk⟩
theorem Mod.drewN (w:World) (n:Nat):Mod [] w (w.drewN n):=⟨rfl,rfl,rfl,Nat.le_refl _,fun _ _ _ => rfl⟩
theorem yaH {w:World} {b:Nat} {o:Obj} (h:w.heap[b]? = some o):b < w.heap.size:=(Array.getElem?_eq_some_iff.1 h).1
theorem Mod.cell {S:List Nat} {w w':World} (h:Mod S w w') {a:Addr} (hb:a.block < w.heap.size) (hS:a.block ∉ S):w'.cell? a = w.cell? a :=
 World.cell?_of_block (w:=w) (h.block a.block hb hS)
theorem yiI {w:World} {a:Addr} {v:Value} (h:w.cell? a = some v):a.block < w.heap.size:=by
 unfold World.cell? at h
 split at h
 ·rename_i hb; exact yaH hb
 ·cases h
theorem Mod.cell0 {w w':World} (h:Mod [] w w') {a:Addr} {v:Value} (hc:w.cell? a = some v):w'.cell? a = some v :=
 (h.cell (yiI hc) (by simp)).trans hc
abbrev Fr:=List Value
def ev (fr:Fr):Operand → Value
 | .tmp t => fr.getD t undef
 | .const v => v
 | .global g => .pointer (some ⟨g,0,none⟩)
 | .func f => .func (.func f) #[] #[]
def pt (fr:Fr):Option Tmp → Value → Fr
 | none,_ => fr
 | some d,v => fr.set d v
def act (fr:Fr):Act:={ tmps:=⟨fr⟩,defers:=[] }
def yeX {α:Type} (P:Program):Sem α → Option α
 | .pure a => some a
 | .program k => yeX P (k P)
 | .mark _ k => yeX P k
 | _ => none
theorem ybZ {α:Type} {P:Program}:∀ {s:Sem α} {a:α},yeX P s = some a → ∀ w,s.run P w = .ok a w
 | .pure _,_,h,w => by simp [yeX] at h; subst h; rfl
 | .program k,_,h,w => by simp only [yeX] at h; simp only [Sem.run]; exact ybZ h w
 | .mark _ k,_,h,w => by simp only [yeX] at h; simp only [Sem.run]; exact ybZ h w
 | .load ..,_,h,_ => by cases h
 | .store ..,_,h,_ => by cases h
 | .new ..,_,h,_ => by cases h
 | .shape ..,_,h,_ => by cases h
 | .freeze ..,_,h,_ => by cases h
 | .frozen ..,_,h,_ => by cases h
 | .getObj ..,_,h,_ => by cases h
 | .setObj ..,_,h,_ => by cases h
 | .choose ..,_,h,_ => by cases h
 | .sys ..,_,h,_ => by cases h
 | .halt ..,_,h,_ => by cases h
inductive Leaf where
 | int (k:IntKind)
 | bool
 | string
 | ptr
 | slice
 | map
 | any
def ye6 (P:Program):Nat → TypeId → List Leaf
 | 0,_ => []
 | n + 1,t => match P.underlying t with
  | some (.int k) => [.int k]
  | some .bool => [.bool]
  | some .string => [.string]
  | some (.pointer _) => [.ptr]
  | some (.slice _) => [.slice]
  | some (.map _ _) => [.map]
  | some (.struct fs) => fs.toList.flatMap fun f => ye6 P n f.type
  | some (.array l e) => (List.replicate l (ye6 P n e)).flatten
  | _ => [.any]
def ykT (P:Program) (t:TypeId):Bool:=match P.underlying t with
 | some (.struct _) | some (.array _ _) => true
 | _ => false
def yEO:List Leaf → (List Value → Prop) → Prop
 | [],F => F []
 | .int k :: r,F => ∃ x:Int,yEO r fun vs => F (.int k x :: vs)
 | .bool :: r,F => ∃ x:Bool,yEO r fun vs => F (.bool x :: vs)
 | .string :: r,F => ∃ x:ByteArray,yEO r fun vs => F (.string x :: vs)
 | .ptr :: r,F => ∃ x:Option Addr,yEO r fun vs => F (.pointer x :: vs)
 | .map :: r,F => ∃ x:Option Nat,yEO r fun vs => F (.map x :: vs)
 | .slice :: r,F => ∃ (x:Option Addr) (n c:Nat),yEO r fun vs => F (.slice x n c :: vs)
 | .any :: r,F => ∃ x:Value,yEO r fun vs => F (x :: vs)
theorem yeL {F:List Value → Prop}:∀ {ls:List Leaf},yEO ls F → ∃ vs,F vs
 | [],h => ⟨_,h⟩
 | .int k :: r,⟨_,h⟩ => let ⟨vs,h⟩:=yeL h; ⟨_,h⟩
 | .bool :: r,⟨_,h⟩ => let ⟨vs,h⟩:=yeL h; ⟨_,h⟩
 | .string :: r,⟨_,h⟩ => let ⟨vs,h⟩:=yeL h; ⟨_,h⟩
 | .ptr :: r,⟨_,h⟩ => let ⟨vs,h⟩:=yeL h; ⟨_,h⟩
 | .map :: r,⟨_,h⟩ => let ⟨vs,h⟩:=yeL h; ⟨_,h⟩
 | .slice :: r,⟨_,_,_,h⟩ => let ⟨vs,h⟩:=yeL h; ⟨_,h⟩
 | .any :: r,⟨_,h⟩ => let ⟨vs,h⟩:=yeL h; ⟨_,h⟩
def exT (P:Program) (t:TypeId) (F:Value → Prop):Prop :=
 yEO (ye6 P 20 t) fun vs => match ykT P t,vs with
  | true,vs => F (.agg ⟨vs⟩)
  | false,[v] => F v
  | _,_ => False
theorem ypP {P:Program} {t:TypeId} {F:Value → Prop} (h:exT P t F):∃ v,F v:=by
 obtain ⟨vs,h⟩:=yeL h
 split at h
 ·exact ⟨_,h⟩
 ·exact ⟨_,h⟩
 ·exact h.elim
def yMl (P:Program):List TypeId → (List Value → Prop) → Prop
 | [],F => F []
 | t :: r,F => exT P t fun v => yMl P r fun vs => F (v :: vs)
theorem yxI {P:Program}:∀ {ts:List TypeId} {F:List Value → Prop},yMl P ts F → ∃ vs,F vs
 | [],_,h => ⟨_,h⟩
 | t :: r,_,h => let ⟨_,h⟩:=ypP h; let ⟨_,h⟩:=yxI h; ⟨_,h⟩
def yJb (P:Program) (ts:List TypeId) (F:Value → Prop):Prop:=yMl P ts fun vs => match vs with
 | [v] => F v
 | vs => F (.tuple ⟨vs⟩)
theorem yBK {P:Program} {ts:List TypeId} {F:Value → Prop} (h:yJb P ts F):∃ v,F v:=by
 obtain ⟨vs,h⟩:=yxI h
 split at h <;> exact ⟨_,h⟩
def yEQ (P:Program) (f:FuncId):List TypeId:=match P.funcs[f]? with
 | some fn => fn.resultTypes.toList
 | none => []
def brB (t:Bool) (A B:Prop):Prop:=match t with
 | true => A
 | false => B
theorem yaE {t:Bool} {A B:Prop} (h1:t = true → A) (h2:t = false → B):brB t A B:=by
 cases t
 ·exact h2 rfl
 ·exact h1 rfl
theorem yaC {p:Prop} [Decidable p] {A B:Prop} (h1:p → A) (h2:¬ p → B):brB (decide p) A B:=by
 by_cases h:p
 ·simpa [brB,h] using h1 h
 ·simpa [brB,h] using h2 h
def call (P:Program) (f:FuncId) (args:Array Value) (w:World) (K:VWP):Prop :=
 Calls P f args w fun e w' => yJb P (yEQ P f) fun v => e = .returned v ∧ K v w'
def ya1 (k:IntKind) (w:World) (a:Addr) (F:Int → Prop):Prop:=match w.cell? a with
 | some (.int k' x) => k' = k ∧ F x
 | _ => False
def yb9 (w:World) (a:Addr) (F:Bool → Prop):Prop:=match w.cell? a with
 | some (.bool x) => F x
 | _ => False
def ya7 (w:World) (a:Addr) (F:ByteArray → Prop):Prop:=match w.cell? a with
 | some (.string x) => F x
 | _ => False
def ygI (w:World) (a:Addr) (F:Option Addr → Prop):Prop:=match w.cell? a with
 | some (.pointer x) => F x
 | _ => False
def yd4 (w:World) (a:Addr) (F:Option Nat → Prop):Prop:=match w.cell? a with
 | some (.map x) => F x
 | _ => False
def ya2 (w:World) (a:Addr) (F:Option Addr → Nat → Nat → Prop):Prop:=match w.cell? a with
 | some (.slice x n c) => F x n c
 | _ => False
def yHp (w:World) (a:Addr) (F:Value → Prop):Prop:=match w.cell? a with
 | some v => F v
 | _ => False
def ldL (w:World) (a:Addr):Nat → List Leaf → (List Value → Prop) → Prop
 | _,[],F => F []
 | i,.int k :: r,F => ya1 k w (a.add i) fun x => ldL w a (i + 1) r fun vs => F (.int k x :: vs)
 | i,.bool :: r,F => yb9 w (a.add i) fun x => ldL w a (i + 1) r fun vs => F (.bool x :: vs)
 | i,.string :: r,F => ya7 w (a.add i) fun x => ldL w a (i + 1) r fun vs => F (.string x :: vs)
 | i,.ptr :: r,F => ygI w (a.add i) fun x => ldL w a (i + 1) r fun vs => F (.pointer x :: vs)
 | i,.map :: r,F => yd4 w (a.add i) fun x => ldL w a (i + 1) r fun vs => F (.map x :: vs)
 | i,.slice :: r,F => ya2 w (a.add i) fun x n c => ldL w a (i + 1) r fun vs => F (.slice x n c :: vs)
 | i,.any :: r,F => yHp w (a.add i) fun x => ldL w a (i + 1) r fun vs => F (x :: vs)
theorem yBL {w:World} {a:Addr}:∀ {ls:List Leaf} {i:Nat} {F:List Value → Prop},ldL w a i ls F → ∃ vs,F vs ∧ vs.length = ls.length ∧ ∀ j v,vs[j]? = some v → w.cell? (a.add (i + j)) = some v
 | [],_,_,h => ⟨[],h,rfl,by simp⟩
 | l :: r,i,F,h => by
  have key:∀ v,w.cell? (a.add i) = some v → ldL w a (i + 1) r (fun vs => F (v :: vs)) → ∃ vs,F vs ∧ vs.length = (l :: r).length ∧ ∀ j v,vs[j]? = some v → w.cell? (a.add (i + j)) = some v:=by
   intro v hv h
   obtain ⟨vs,h1,h2,h3⟩:=yBL h
   refine ⟨v :: vs,h1,by simp [h2],fun j u hu => ?_⟩
   cases j with
   | zero => simp at hu; subst hu; exact hv
   | succ j => rw [show i + (j + 1) = i + 1 + j by omega]; exact h3 j u (by simpa using hu)
  cases l <;> simp only [ldL,ya1,yb9,ya7,ygI,yd4,ya2,yHp] at h
  case int k =>
   split at h
   ·rename_i hc; obtain ⟨rfl,h⟩:=h; exact key _ hc h
   ·exact h.elim
  all_goals
   split at h
   ·rename_i hc; exact key _ hc h
   ·exact h.elim
def ldT (P:Program) (t:TypeId) (w:World) (a:Addr) (F:Value → Prop):Prop :=
 match (ye6 P 20 t).length == P.cellsOf t with
 | true => ldL w a 0 (ye6 P 20 t) fun vs => match ykT P t,vs with
  | true,vs => F (.agg ⟨vs⟩)
  | false,[v] => F v
  | _,_ => False
 | false => False
theorem yiJ {P:Program} {a:Addr} (w:World):∀ (vs:List Value) (i:Nat) (acc:Array Value),(∀ j v,vs[j]? = some v → w.cell? (a.add (i + j)) = some v) → (loadCellsFrom a i vs.length acc).run P w = .ok (acc ++ vs.toArray) w
 | [],i,acc,_ => by simp [loadCellsFrom,Sem.run]
 | v :: vs,i,acc,h => by
  have h0:=h 0 v (by simp)
  simp only [Nat.add_zero] at h0
  have ih:=yiJ (P:=P) (a:=a) w vs (i + 1) (acc.push v) (fun j u hu => by rw [show i + 1 + j = i + (j + 1) by omega]; exact h (j + 1) u (by simpa using hu))
  simp only [List.length_cons,loadCellsFrom,load,Sem.run_bind,Sem.run,h0,Result.andThen,ih]
  simp
theorem yiK {P:Program} {t:TypeId} {d:TypeDesc} (h:P.underlying t = some d):∃ i,P.info? t = some i:=by
 unfold Program.underlying at h
 cases hi:P.info? t with
 | none => simp [hi] at h
 | some i => exact ⟨i,rfl⟩
theorem ysG {P:Program} {t:TypeId} {d:TypeDesc} (h:P.underlying t = some d) (w:World):(isAgg t).run P w = .ok (ykT P t) w:=by
 unfold isAgg ykT
 simp only [Sem.run_bind,run_underlying h,Result.andThen,h]
 cases d <;> rfl
theorem ycM {P:Program} {t:TypeId} {d:TypeDesc} (h:P.underlying t = some d) (w:World):(sizeOf t).run P w = .ok (P.cellsOf t) w:=by
 obtain ⟨i,hi⟩:=yiK h
 simp [sizeOf,typeInfo,Program.cellsOf,hi,Sem.run_bind,program,Sem.run,Result.andThen]
theorem ypQ {P:Program} {t:TypeId} {w:World} {a:Addr} {F:Value → Prop} (h:ldT P t w a F) (hd:(P.underlying t).isSome = true):∃ v,F v ∧ ∀ w',Mod [] w w' → (Instr.loadAt t (.pointer (some a))).run P w' = .ok v w':=by
 unfold ldT at h
 split at h
 case h_2 => exact h.elim
 rename_i hlen
 obtain ⟨d,hd⟩:=Option.isSome_iff_exists.1 hd
 obtain ⟨vs,h,hl,hc⟩:=yBL h
 have hlen':(ye6 P 20 t).length = P.cellsOf t:=by simpa using hlen
 cases hg:ykT P t with
 | true =>
  simp only [hg] at h
  refine ⟨_,h,fun w' hm => ?_⟩
  have hc':∀ j v,vs[j]? = some v → w'.cell? (a.add (0 + j)) = some v:=fun j v hv => hm.cell0 (hc j v hv)
  have:=yiJ (P:=P) w' vs 0 #[] hc'
  simp only [Instr.loadAt,Instr.sureAddr,loadVar,Sem.run_bind,Sem.run,Result.andThen,ysG hd,ycM hd,hg,if_true,loadCells,← hlen',← hl,this]
  simp [this]
 | false =>
  simp only [hg] at h
  match vs,h,hl,hc with
  | [v],h,hl,hc =>
   refine ⟨_,h,fun w' hm => ?_⟩
   have hc0:=hm.cell0 (hc 0 v (by simp))
   simp only [Nat.add_zero] at hc0
   have ha:a.add 0 = a:=by simp [Addr.add]
   rw [ha] at hc0
   simp [Instr.loadAt,Instr.sureAddr,loadVar,Sem.run_bind,Sem.run,Result.andThen,ysG hd,hg,load,hc0]
def rdT (P:Program) (ex:(Value → Prop) → Prop) (s:Sem Value) (w:World) (K:Value → Prop):Prop :=
 ex fun v => (∀ w',Mod [] w w' → s.run P w' = .ok v w') ∧ K v
def ixA (a:Option Addr) (len:Nat) (i:Int) (size:Nat) (F:Addr → Prop):Prop:=∃ a',a = some a' ∧ 0 ≤ i ∧ i < len ∧ F (a'.add (i.toNat * size))
def yBM (s:ByteArray) (i:Nat):Int:=(s.data.toList.getD i 0).toNat
def ixS (s:ByteArray) (i:Int) (F:Int → Prop):Prop:=0 ≤ i ∧ i < s.size ∧ F (yBM s i.toNat)
def slS (s:ByteArray) (lo hi:Int) (F:ByteArray → Prop):Prop:=0 ≤ lo ∧ lo ≤ hi ∧ hi ≤ s.size ∧ F (s.extract lo.toNat hi.toNat)
def slV (a:Option Addr) (cap:Nat) (lo hi mx:Int) (size:Nat) (F:Option Addr → Nat → Nat → Prop):Prop :=
 0 ≤ lo ∧ lo ≤ hi ∧ hi ≤ mx ∧ mx ≤ cap ∧ F (if mx = lo then a else a.map (·.add (lo.toNat * size))) (hi - lo).toNat (mx - lo).toNat
def yNf (x y:ByteArray) (F:ByteArray → Prop):Prop:=x.size + y.size ≤ 9223372036854775807 ∧ F (x ++ y)
def nz (y:Int) (F:Prop):Prop:=y ≠ 0 ∧ F
def nn (y:Int) (F:Prop):Prop:=0 ≤ y ∧ F
def yb7 (x:Option Addr) (F:Addr → Prop):Prop:=match x with
 | some a => F a
 | none => False
def ye7 (P:Program) (o:Oper) (ρ:Operand → Value) (K:Value → Prop):Prop:=match yeX P (execOp ρ o) with
 | some (.value v) => K v
 | _ => False
def bnd (ρ:Operand → Value) (d:Int):Option Operand → Option Int
 | none => some d
 | some x => match ρ x with
  | .int _ n => some n
  | _ => none
def yJc:Operand → Bool
 | .const _ => true
 | _ => false
def yhT (P:Program) (o:Oper) (ρ:Operand → Value) (w:World) (K:Value → Prop):Prop :=
 match o.op with
 | .load t a => match ρ a,(P.underlying t).isSome with
  | .pointer (some a),true => ldT P t w a K
  | _,_ => False
 | .indexAddr t x i => match P.underlying t with
  | some (.slice e) => match ρ x,ρ i,(P.underlying e).isSome with
   | .slice a n _,.int _ i,true => ixA a n i (P.cellsOf e) fun a => K (.pointer (some a))
   | _,_,_ => False
  | _ => ye7 P o ρ K
 | .index t x i => match P.underlying t with
  | some .string => match ρ x,ρ i with
   | .string s,.int _ i => ixS s i fun c => K (.int .u8 c)
   | _,_ => False
  | some (.array _ e) => match yJc i with
   | true => ye7 P o ρ K
   | false => exT P e fun v => (∀ w':World,(Instr.index t (ρ x) (ρ i)).run P w' = .ok v w') ∧ K v
  | _ => ye7 P o ρ K
 | .slice t x lo hi mx => match P.underlying t with
  | some .string => match ρ x,mx with
   | .string s,none => match bnd ρ 0 lo,bnd ρ s.size hi with
    | some l,some h => slS s l h fun s => K (.string s)
    | _,_ => False
   | _,_ => False
  | some (.slice e) => match ρ x,(P.underlying e).isSome with
   | .slice a n c,true => match bnd ρ 0 lo,bnd ρ n hi,bnd ρ c mx,hi,mx with
    | some l,some h,some m,_,none => slV a c l h m (P.cellsOf e) fun a n c => K (.slice a n c)
    | some l,some h,some m,some _,some _ => slV a c l h m (P.cellsOf e) fun a n c => K (.slice a n c)
    | _,_,_,_,_ => False
   | _,_ => False
  | _ => ye7 P o ρ K
 | .lookup t _ _ ok => match P.underlying t with
  | some (.map _ e) => rdT P (fun F => exT P e fun v => match ok with
    | true => ∃ b:Bool,F (.tuple #[v,.bool b])
    | false => F v) (Instr.lookup t (match o.op with | .lookup _ x _ _ => ρ x | _ => undef) (match o.op with | .lookup _ _ i _ => ρ i | _ => undef) ok) w K
  | _ => False
 | .binOp op t x y _ => match op,P.underlying t with
  | .quo,some (.int _) => match ρ x,ρ y with
   | .int k a,.int k' b => match k == k' with
    | true => nz b (K (.int k (k.wrap (a.tdiv b))))
    | false => False
   | _,_ => False
  | .rem,some (.int _) => match ρ x,ρ y with
   | .int k a,.int k' b => match k == k' with
    | true => nz b (K (.int k (a.tmod b)))
    | false => False
   | _,_ => False
  | .shl,some (.int _) => match ρ x,ρ y with
   | .int k a,.int _ b => nn b (K (.int k (k.wrap (a * 2 ^ (min b.toNat k.bits)))))
   | _,_ => False
  | .shr,some (.int _) => match ρ x,ρ y with
   | .int k a,.int _ b => nn b (K (.int k (a.fdiv (2 ^ (min b.toNat k.bits)))))
   | _,_ => False
  | .add,some .string => match ρ x,ρ y with
   | .string a,.string b => yNf a b fun s => K (.string s)
   | _,_ => False
  | .eql,some (.slice _) => match ρ y with
   | .slice none _ _ => match ρ x with
    | .slice a _ _ => K (.bool a.isNone)
    | _ => False
   | _ => False
  | .neq,some (.slice _) => match ρ y with
   | .slice none _ _ => match ρ x with
    | .slice a _ _ => K (.bool (!a.isNone))
    | _ => False
   | _ => False
  | .eql,some (.pointer _) => match ρ y with
   | .pointer none => match ρ x with
    | .pointer a => K (.bool a.isNone)
    | _ => False
   | _ => False
  | .neq,some (.pointer _) => match ρ y with
   | .pointer none => match ρ x with
    | .pointer a => K (.bool (!a.isNone))
    | _ => False
   | _ => False
  | .eql,some (.map _ _) => match ρ y with
   | .map none => match ρ x with
    | .map a => K (.bool a.isNone)
    | _ => False
   | _ => False
  | .neq,some (.map _ _) => match ρ y with
   | .map none => match ρ x with
    | .map a => K (.bool (!a.isNone))
    | _ => False
   | _ => False
  | .eql,some (.struct _) | .eql,some (.array _ _) | .eql,some (.interface _) => rdT P (fun F => ∃ b:Bool,F (.bool b)) (do eqGuard .eql t x y (ρ x) (ρ y); Go.binOp .eql t (ρ x) (ρ y)) w K
  | .neq,some (.struct _) | .neq,some (.array _ _) | .neq,some (.interface _) => rdT P (fun F => ∃ b:Bool,F (.bool b)) (do eqGuard .neq t x y (ρ x) (ρ y); Go.binOp .neq t (ρ x) (ρ y)) w K
  | _,_ => ye7 P o ρ K
 | .nilCheck x => match ρ x with
  | .pointer a => yb7 a fun a => K (.pointer (some a))
  | _ => ye7 P o ρ K
 | .call c => match c.callee with
  | .builtin .len => match (c.argTypes[0]?).bind P.underlying with
   | some (.map _ _) => rdT P (fun F => ∃ n:Int,F (.int .i64 n)) (Builtin.len_ c.argTypes o.type (c.args.map ρ)) w K
   | _ => ye7 P o ρ K
  | _ => ye7 P o ρ K
 | _ => ye7 P o ρ K
def yjK (P:Program) (o:Oper):Bool:=match o.op with
 | .load _ _ | .lookup _ _ _ _ => true
 | .binOp op t _ _ _ => match op,P.underlying t with
  | .eql,some (.struct _) | .eql,some (.array _ _) | .eql,some (.interface _) | .neq,some (.struct _) | .neq,some (.array _ _) | .neq,some (.interface _) => true
  | _,_ => false
 | .call c => match c.callee with
  | .builtin .len => match (c.argTypes[0]?).bind P.underlying with
   | some (.map _ _) => true
   | _ => false
  | _ => false
 | _ => false
theorem yn6 {P:Program} {o:Oper} {ρ:Operand → Value} {K:Value → Prop} (h:ye7 P o ρ K):∃ v,K v ∧ ∀ w,(execOp ρ o).run P w = .ok (.value v) w:=by
 unfold ye7 at h
 split at h
 ·rename_i v hv; exact ⟨v,h,fun w => ybZ hv w⟩
 ·exact h.elim
theorem ya9 {P:Program} {s:Sem Value} {v:Value} {w w':World} (h:s.run P w = .ok v w'):(do pure (Next.value (← s)):Sem Next).run P w = .ok (.value v) w':=by
 simp [Sem.run_bind,h,Result.andThen]
theorem yu3 {P:Program} {ex:(Value → Prop) → Prop} (hex:∀ F,ex F → ∃ v,F v) {s:Sem Value} {w:World} {K:Value → Prop} (h:rdT P ex s w K):∃ v,K v ∧ ∀ w',Mod [] w w' → s.run P w' = .ok v w' :=
 let ⟨v,h1,h2⟩:=hex _ h
 ⟨v,h2,h1⟩
theorem yzY {s:ByteArray} {i:Nat} (h:i < s.size):yBM s i = (s[i].toNat:Int):=by
 have:s.data.toList.getD i 0 = s[i]:=by
  have h':i < s.data.toList.length:=by simpa using h
  rw [List.getD_eq_getElem?_getD,List.getElem?_eq_getElem h']; rfl
 rw [yBM,this]
theorem yd5 {ρ:Operand → Value} {d l:Int} {x:Option Operand} (h:bnd ρ d x = some l):(x = none ∧ l = d) ∨ ∃ y k,x = some y ∧ ρ y = .int k l:=by
 cases x with
 | none => simp [bnd] at h; exact .inl ⟨rfl,h.symm⟩
 | some y =>
  simp only [bnd] at h
  split at h
  ·rename_i k n hy; cases h; exact .inr ⟨y,k,rfl,hy⟩
  ·cases h
theorem ya4 {P:Program} {w:World} {k:IntKind} {i:Int} {y:Nat} {code:BoundsCode} (h0:0 ≤ i) (h1:i ≤ y):(Instr.sliceBound (.int k i) y code).run P w = .ok i.toNat w:=by
 simp [Instr.sliceBound,asIntOf,Sem.run_bind,Result.andThen,h0,h1]
theorem yHq {P:Program} {t:TypeId} (hu:P.underlying t = some .string) (w:World) {ρ:Operand → Value} {s:ByteArray} {lo hi:Option Operand} {l h:Int} (hl:bnd ρ 0 lo = some l) (hh:bnd ρ s.size hi = some h) (g1:0 ≤ l) (g2:l ≤ h) (g3:h ≤ s.size) :
  (Instr.sliceAt t (.string s) (lo.map ρ) (hi.map ρ) (none:Option Value)).run P w = .ok (.string (s.extract l.toNat h.toNat)) w:=by
 have h0:(0:Int) ≤ h:=by omega
 have g2':l ≤ (h.toNat:Int):=by omega
 have g1':l ≤ (s.size:Int):=by omega
 rcases yd5 hl with ⟨rfl,rfl⟩ | ⟨x,k,rfl,hx⟩ <;> rcases yd5 hh with ⟨rfl,rfl⟩ | ⟨y,k',rfl,hy⟩
 ·simp [Instr.sliceAt,Instr.slice,Instr.sliceBounds,Sem.run_bind,run_underlying hu,Result.andThen]
 ·simp [Instr.sliceAt,Instr.slice,Instr.sliceBounds,Sem.run_bind,run_underlying hu,Result.andThen,hy,ya4 h0 g3]
 ·simp [Instr.sliceAt,Instr.slice,Instr.sliceBounds,Sem.run_bind,run_underlying hu,Result.andThen,hx,ya4 g1 g1']
 ·simp [Instr.sliceAt,Instr.slice,Instr.sliceBounds,Sem.run_bind,run_underlying hu,Result.andThen,hx,hy,ya4 h0 g3,ya4 g1 g2']
theorem yBN {P:Program} {t e:TypeId} {d:TypeDesc} (hu:P.underlying t = some (.slice e)) (hd:P.underlying e = some d) (w:World) {ρ:Operand → Value} {a:Option Addr} {n c:Nat} {lo hi mx:Option Operand} {l h m:Int}
  (hl:bnd ρ 0 lo = some l) (hh:bnd ρ n hi = some h) (hm:bnd ρ c mx = some m) (hmx:mx = none ∨ hi.isSome = true) (g1:0 ≤ l) (g2:l ≤ h) (g3:h ≤ m) (g4:m ≤ c) :
  (Instr.sliceAt t (.slice a n c) (lo.map ρ) (hi.map ρ) (mx.map ρ)).run P w = .ok (.slice (if m = l then a else a.map (·.add (l.toNat * P.cellsOf e))) (h - l).toNat (m - l).toNat) w:=by
 have m0:(0:Int) ≤ m:=by omega
 have h0:(0:Int) ≤ h:=by omega
 have e1:(if m.toNat = l.toNat then a else a.map (·.add (l.toNat * P.cellsOf e))) = (if m = l then a else a.map (·.add (l.toNat * P.cellsOf e))):=by
  by_cases hml:m = l
  ·simp [hml]
  ·rw [if_neg hml,if_neg (by omega)]
 have e2:h.toNat - l.toNat = (h - l).toNat:=by omega
 have e3:m.toNat - l.toNat = (m - l).toNat:=by omega
 have k1:h ≤ (m.toNat:Int):=by omega
 have k2:l ≤ (h.toNat:Int):=by omega
 have k3:h ≤ (c:Int):=by omega
 have k4:l ≤ (n:Int) ∨ hi.isSome = true:=by
  rcases yd5 hh with ⟨rfl,rfl⟩ | ⟨y,k',rfl,hy⟩
  ·exact .inl g2
  ·exact .inr rfl
 rw [← e1,← e2,← e3]
 rcases yd5 hm with ⟨rfl,rfl⟩ | ⟨z,k'',rfl,hz⟩
 ·rcases yd5 hl with ⟨rfl,rfl⟩ | ⟨x,k,rfl,hx⟩ <;> rcases yd5 hh with ⟨rfl,rfl⟩ | ⟨y,k',rfl,hy⟩
  ·simp [Instr.sliceAt,Instr.slice,Instr.sliceBounds,Sem.run_bind,run_underlying hu,Result.andThen,ycM hd]
  ·simp [Instr.sliceAt,Instr.slice,Instr.sliceBounds,Sem.run_bind,run_underlying hu,Result.andThen,hy,ya4 h0 k3,ycM hd]
  ·simp [Instr.sliceAt,Instr.slice,Instr.sliceBounds,Sem.run_bind,run_underlying hu,Result.andThen,hx,ya4 g1 g2,ycM hd]
  ·simp [Instr.sliceAt,Instr.slice,Instr.sliceBounds,Sem.run_bind,run_underlying hu,Result.andThen,hx,hy,ya4 h0 k3,ya4 g1 k2,ycM hd]
 ·rcases hmx with hmx | hmx
  ·cases hmx
  rcases yd5 hl with ⟨rfl,rfl⟩ | ⟨x,k,rfl,hx⟩ <;> rcases yd5 hh with ⟨rfl,rfl⟩ | ⟨y,k',rfl,hy⟩
  ·cases hmx
  ·simp [Instr.sliceAt,Instr.slice,Instr.sliceBounds,Sem.run_bind,run_underlying hu,Result.andThen,hy,hz,ya4 m0 g4,ya4 h0 k1,ycM hd]
  ·cases hmx
  ·simp [Instr.sliceAt,Instr.slice,Instr.sliceBounds,Sem.run_bind,run_underlying hu,Result.andThen,hx,hy,hz,ya4 m0 g4,ya4 h0 k1,ya4 g1 k2,ycM hd]
theorem yaY {P:Program} {op:BinOp} {t:TypeId} {x y:Operand} {a b:Value} (w:World) (ha:∀ c,a ≠ .agg c) (hn:a ≠ .nilIface):(eqGuard op t x y a b).run P w = .ok () w:=by
 unfold eqGuard
 cases op <;> simp [Sem.run] <;> cases a <;> simp_all [Sem.run]
theorem yjL {P:Program} {t e:TypeId} (hu:P.underlying t = some (.slice e)) (a:Option Addr) (n c n' c' d:Nat) (w:World):(Op.equalIn (d + 1) t (.slice a n c) (.slice none n' c')).run P w = .ok a.isNone w:=by
 cases a <;> simp [Op.equalIn,Sem.run_bind,run_underlying hu,Result.andThen]
theorem ygJ {P:Program} {t e:TypeId} (hu:P.underlying t = some (.slice e)) (a:Option Addr) (n c n' c':Nat) (w:World):(Op.equal t (.slice a n c) (.slice none n' c')).run P w = .ok a.isNone w :=
 yjL hu a n c n' c' 9999 w
theorem ylS {P:Program} {t e:TypeId} (hu:P.underlying t = some (.pointer e)) (a:Option Addr) (d:Nat) (w:World):(Op.equalIn (d + 1) t (.pointer a) (.pointer none)).run P w = .ok a.isNone w:=by
 cases a <;> simp [Op.equalIn,Sem.run_bind,run_underlying hu,Result.andThen]
theorem yiL {P:Program} {t e:TypeId} (hu:P.underlying t = some (.pointer e)) (a:Option Addr) (w:World):(Op.equal t (.pointer a) (.pointer none)).run P w = .ok a.isNone w :=
 ylS hu a 9999 w
theorem ylT {P:Program} {t k e:TypeId} (hu:P.underlying t = some (.map k e)) (a:Option Nat) (d:Nat) (w:World):(Op.equalIn (d + 1) t (.map a) (.map none)).run P w = .ok a.isNone w:=by
 cases a <;> simp [Op.equalIn,Sem.run_bind,run_underlying hu,Result.andThen]
theorem yiM {P:Program} {t k e:TypeId} (hu:P.underlying t = some (.map k e)) (a:Option Nat) (w:World):(Op.equal t (.map a) (.map none)).run P w = .ok a.isNone w :=
 ylT hu a 9999 w
theorem yhU {P:Program} {o:Oper} {ρ:Operand → Value} {w:World} {K:Value → Prop} (h:yhT P o ρ w K):∃ v,K v ∧ ∀ w',(yjK P o = true → Mod [] w w') → (execOp ρ o).run P w' = .ok (.value v) w':=by
  have pure_:ye7 P o ρ K → ∃ v,K v ∧ ∀ w',(yjK P o = true → Mod [] w w') → (execOp ρ o).run P w' = .ok (.value v) w':=fun h =>
    let ⟨v,h1,h2⟩:=yn6 h
    ⟨v,h1,fun w' _ => h2 w'⟩
  unfold yhT at h
  split at h
  ·
    rename_i t a hop
    split at h
    · rename_i a' ha hd
      obtain ⟨v,h1,h2⟩:=ypQ h hd
      refine ⟨v,h1,fun w' hm => ?_⟩
      simp only [execOp,hop,ha]
      exact ya9 (h2 w' (hm (by simp [yjK,hop])))
    · exact h.elim
  ·
    rename_i t x i hop
    split at h
    · rename_i e hu
      split at h
      · rename_i a n c k i' hx hi he
        obtain ⟨a',rfl,h0,hn,h⟩:=h
        refine ⟨_,h,fun w' _ => ?_⟩
        obtain ⟨d,hd⟩:=Option.isSome_iff_exists.1 he
        simp only [execOp,hop,hx,hi]
        refine ya9 ?_
        simp [Instr.indexAt,asIntOf,Sem.run_bind,run_underlying hu,Result.andThen,h0,hn,ycM hd]
      · exact h.elim
    · exact pure_ h
  ·
    rename_i t x i hop
    split at h
    · rename_i hu
      split at h
      · rename_i s k i' hx hi
        obtain ⟨h0,hn,h⟩:=h
        refine ⟨_,h,fun w' _ => ?_⟩
        simp only [execOp,hop,hx,hi]
        refine ya9 ?_
        have hn':i'.toNat < s.size:=by omega
        rw [yzY hn']
        simp [Instr.index,asIntOf,Sem.run_bind,run_underlying hu,Result.andThen,h0,getElem?_pos s i'.toNat hn']
      · exact h.elim
    · split at h
      · exact pure_ h
      · obtain ⟨v,h1,h2⟩:=ypP h
        refine ⟨v,h2,fun w' _ => ?_⟩
        simp only [execOp,hop]
        exact ya9 (h1 w')
    · exact pure_ h
  ·
    rename_i t x lo hi mx hop
    split at h
    · rename_i hu
      split at h
      · rename_i s hx
        split at h
        · rename_i l hh hl hhh
          obtain ⟨g1,g2,g3,h⟩:=h
          refine ⟨_,h,fun w' _ => ?_⟩
          simp only [execOp,hop,hx]
          exact ya9 (yHq hu w' hl hhh g1 g2 g3)
        · exact h.elim
      · exact h.elim
    · rename_i e hu
      split at h
      · rename_i a n c hx he
        obtain ⟨d,hd⟩:=Option.isSome_iff_exists.1 he
        split at h
        · rename_i l hh m hl hhh hm
          obtain ⟨g1,g2,g3,g4,h⟩:=h
          refine ⟨_,h,fun w' _ => ?_⟩
          simp only [execOp,hop,hx]
          exact ya9 (yBN hu hd w' hl hhh hm (.inl rfl) g1 g2 g3 g4)
        · rename_i l hh m hi' mx' hl hhh hm
          obtain ⟨g1,g2,g3,g4,h⟩:=h
          refine ⟨_,h,fun w' _ => ?_⟩
          simp only [execOp,hop,hx]
          exact ya9 (yBN hu hd w' hl hhh hm (.inr rfl) g1 g2 g3 g4)
        · exact h.elim
      · exact h.elim
    · exact pure_ h
  ·
    rename_i t x i ok hop
    split at h
    · rename_i k e hu
      have:=yu3 (fun F hF => by
        obtain ⟨v,hv⟩:=ypP hF
        cases ok
        · exact ⟨_,hv⟩
        · obtain ⟨b,hv⟩:=hv; exact ⟨_,hv⟩) h
      obtain ⟨v,h1,h2⟩:=this
      refine ⟨v,h1,fun w' hm => ?_⟩
      have:=h2 w' (hm (by simp [yjK,hop]))
      simp only [hop] at this
      simp only [execOp,hop]
      exact ya9 this
    · exact h.elim
  ·
    rename_i op t x y ty hop
    have fin:∀ {v:Value} {w':World},(do eqGuard op t x y (ρ x) (ρ y); Go.binOp op t (ρ x) (ρ y):Sem Value).run P w' = .ok v w' → (execOp ρ o).run P w' = .ok (.value v) w':=fun h => by
      simp only [execOp,hop]; exact ya9 h
    split at h
    · rename_i q hu
      split at h
      · rename_i k a k' b hx hy
        split at h
        · rename_i hk
          obtain ⟨h0,h⟩:=h
          have hk:k = k':=by simpa using hk
          subst hk
          refine ⟨_,h,fun w' _ => fin ?_⟩
          rw [hx,hy]
          simp [Sem.run_bind,yaY,Result.andThen,Go.binOp,Op.intDiv,h0]
        · exact h.elim
      · exact h.elim
    · rename_i q hu
      split at h
      · rename_i k a k' b hx hy
        split at h
        · rename_i hk
          obtain ⟨h0,h⟩:=h
          have hk:k = k':=by simpa using hk
          subst hk
          refine ⟨_,h,fun w' _ => fin ?_⟩
          rw [hx,hy]
          simp [Sem.run_bind,yaY,Result.andThen,Go.binOp,Op.intDiv,h0]
        · exact h.elim
      · exact h.elim
    · rename_i q hu
      split at h
      · rename_i k a k' b hx hy
        obtain ⟨h0,h⟩:=h
        refine ⟨_,h,fun w' _ => fin ?_⟩
        rw [hx,hy]
        simp [Sem.run_bind,yaY,Result.andThen,Go.binOp,Op.shift,show ¬ b < 0 by omega]
      · exact h.elim
    · rename_i q hu
      split at h
      · rename_i k a k' b hx hy
        obtain ⟨h0,h⟩:=h
        refine ⟨_,h,fun w' _ => fin ?_⟩
        rw [hx,hy]
        simp [Sem.run_bind,yaY,Result.andThen,Go.binOp,Op.shift,show ¬ b < 0 by omega]
      · exact h.elim
    · rename_i hu
      split at h
      · rename_i a b hx hy
        obtain ⟨h0,h⟩:=h
        refine ⟨_,h,fun w' _ => fin ?_⟩
        rw [hx,hy]
        have:¬ (IntKind.i64.max < ((a.size + b.size:Nat):Int)):=by simp [IntKind.max,IntKind.signed,IntKind.bits]; omega
        simp only [Sem.run_bind,yaY w' (a:=.string a) (by simp) (by simp),Result.andThen,Go.binOp,Op.stringOp,gt_iff_lt,if_neg this]
        rfl
      · exact h.elim
    · rename_i e hu
      split at h
      · rename_i n c hy
        split at h
        · rename_i a n' c' hx
          refine ⟨_,h,fun w' _ => fin ?_⟩
          rw [hx,hy]
          simp [Sem.run_bind,yaY,Result.andThen,Go.binOp,ygJ hu]
        · exact h.elim
      · exact h.elim
    · rename_i e hu
      split at h
      · rename_i n c hy
        split at h
        · rename_i a n' c' hx
          refine ⟨_,h,fun w' _ => fin ?_⟩
          rw [hx,hy]
          simp [Sem.run_bind,yaY,Result.andThen,Go.binOp,ygJ hu]
        · exact h.elim
      · exact h.elim
    · rename_i e hu
      split at h
      · rename_i hy
        split at h
        · rename_i a hx
          refine ⟨_,h,fun w' _ => fin ?_⟩
          rw [hx,hy]
          simp [Sem.run_bind,yaY,Result.andThen,Go.binOp,yiL hu]
        · exact h.elim
      · exact h.elim
    · rename_i e hu
      split at h
      · rename_i hy
        split at h
        · rename_i a hx
          refine ⟨_,h,fun w' _ => fin ?_⟩
          rw [hx,hy]
          simp [Sem.run_bind,yaY,Result.andThen,Go.binOp,yiL hu]
        · exact h.elim
      · exact h.elim
    · rename_i k e hu
      split at h
      · rename_i hy
        split at h
        · rename_i a hx
          refine ⟨_,h,fun w' _ => fin ?_⟩
          rw [hx,hy]
          simp [Sem.run_bind,yaY,Result.andThen,Go.binOp,yiM hu]
        · exact h.elim
      · exact h.elim
    · rename_i k e hu
      split at h
      · rename_i hy
        split at h
        · rename_i a hx
          refine ⟨_,h,fun w' _ => fin ?_⟩
          rw [hx,hy]
          simp [Sem.run_bind,yaY,Result.andThen,Go.binOp,yiM hu]
        · exact h.elim
      · exact h.elim
    all_goals first
      | exact pure_ h
      | (obtain ⟨v,h1,h2⟩:=yu3 (fun F hF => let ⟨_,hF⟩:=hF; ⟨_,hF⟩) h
         exact ⟨v,h1,fun w' hm => fin (h2 w' (hm (by simp [yjK,hop, *])))⟩)
  ·
    rename_i x hop
    split at h
    · rename_i a hx
      unfold yb7 at h
      split at h
      · refine ⟨_,h,fun w' _ => ?_⟩
        simp [execOp,hop,hx,Sem.run]
      · exact h.elim
    · exact pure_ h
  ·
    rename_i c hop
    split at h
    · rename_i hc
      split at h
      · rename_i k e hu
        obtain ⟨v,h1,h2⟩:=yu3 (fun F hF => let ⟨_,hF⟩:=hF; ⟨_,hF⟩) h
        refine ⟨v,h1,fun w' hm => ?_⟩
        have:=h2 w' (hm (by simp [yjK,hop,hc,hu]))
        simp [execOp,hop,resolve,hc,invoke,Go.builtin,Sem.run_bind,Result.andThen,this]
      · exact pure_ h
    · exact pure_ h
  · exact pure_ h
def al (w:World) (o:Obj) (F:Nat → World → Prop):Prop:=F w.heap.size (w.alloc o)
def yhH:Value → Bool
 | .agg _ | .tuple _ => false
 | _ => true
def stC (w:World) (a:Addr):Nat → List Value → (World → Prop) → Prop
 | _,[],F => F w
 | i,v :: r,F => yhH v = true ∧ (w.cell? (a.add i)).isSome = true ∧ w.frozen? (a.add i) = false ∧ stC (w.setCell (a.add i) v) a (i + 1) r F
def st (w:World) (a:Addr) (vs:List Value) (F:World → Prop):Prop:=stC w a 0 vs F
def eff {α:Type} (P:Program) (s:Sem α) (w:World) (F:α → World → Prop):Prop:=∃ v w',s.run P w = .ok v w' ∧ F v w'
def ybC (P:Program) (s:Sem Value) (w:World) (F:Option Addr → Nat → Nat → World → Prop):Prop:=∃ a n c w',s.run P w = .ok (.slice a n c) w' ∧ F a n c w'
def yJd (P:Program) (s:Sem Value) (w:World) (F:Int → World → Prop):Prop:=∃ n w',s.run P w = .ok (.int .i64 n) w' ∧ F n w'
def ylU (P:Program) (s:Sem Value) (w:World) (F:Addr → World → Prop):Prop:=∃ a w',s.run P w = .ok (.pointer (some a)) w' ∧ F a w'
def ydM (P:Program) (s:Sem Unit) (w:World) (F:World → Prop):Prop:=∃ w',s.run P w = .ok () w' ∧ F w'
def yHr (P:Program) (s:Sem Value) (w:World) (F:VWP):Prop:=∃ v w',s.run P w = .ok v w' ∧ F v w'
def ylV {α:Type} (P:Program):Sem α → Option (Obj × (Nat → Option α))
 | .new o k => some (o,fun r => yeX P (k r))
 | .program k => ylV P (k P)
 | .mark _ k => ylV P k
 | _ => none
theorem yeM {α:Type} {P:Program}:∀ {s:Sem α} {o:Obj} {k:Nat → Option α} {a:α} {w:World},ylV P s = some (o,k) → k w.heap.size = some a → s.run P w = .ok a (w.alloc o)
 | .new o' k',o,k,a,w,h,hk => by
  simp only [ylV,Option.some.injEq,Prod.mk.injEq] at h
  obtain ⟨rfl,rfl⟩:=h
  simp only [Sem.run]
  exact ybZ hk _
 | .program k',_,_,_,_,h,hk => by simp only [ylV] at h; simp only [Sem.run]; exact yeM h hk
 | .mark _ k',_,_,_,_,h,hk => by simp only [ylV] at h; simp only [Sem.run]; exact yeM h hk
 | .pure _,_,_,_,_,h,_ => by cases h
 | .load ..,_,_,_,_,h,_ => by cases h
 | .store ..,_,_,_,_,h,_ => by cases h
 | .shape ..,_,_,_,_,h,_ => by cases h
 | .freeze ..,_,_,_,_,h,_ => by cases h
 | .frozen ..,_,_,_,_,h,_ => by cases h
 | .getObj ..,_,_,_,_,h,_ => by cases h
 | .setObj ..,_,_,_,_,h,_ => by cases h
 | .choose ..,_,_,_,_,h,_ => by cases h
 | .sys ..,_,_,_,_,h,_ => by cases h
 | .halt ..,_,_,_,_,h,_ => by cases h
def yzZ (P:Program) (o:Oper) (ρ:Operand → Value) (w:World) (K:VWP):Prop:=match ylV P (execOp ρ o) with
 | some (ob,k) => al w ob fun b w' => match k b with
  | some (.value v) => K v w'
  | _ => False
 | none => False
def yF2 (P:Program) (o:Oper) (ρ:Operand → Value) (w:World) (K:VWP):Prop:=match yeX P (execOp ρ o) with
 | some (.enter f args) => call P f args w K
 | some (.value v) => K v w
 | _ => False
def yBO (d:Option Tmp) (i:Nat):List Oper → Option TypeId
 | [] => none
 | o :: r => match o.op,d with
  | .extract (.tmp t) j,some d => match Nat.beq t d && Nat.beq i j with
   | true => some o.type
   | false => yBO (some d) i r
  | _,d => yBO d i r
def yER (P:Program) (t:Option TypeId) (F:Value → Prop):Prop:=match t with
 | some t => exT P t F
 | none => ∃ v,F v
theorem ylW {P:Program} {t:Option TypeId} {F:Value → Prop} (h:yER P t F):∃ v,F v:=by
 cases t
 ·exact h
 ·exact ypP h
def yz0 (P:Program) (it:Value) (ty:TypeId) (w:World) (F0:World → Prop) (F1:Value → VWP):Prop :=
 (∃ w',(Instr.next it false ty).run P w = .ok (.tuple #[.bool false]) w' ∧ F0 w') ∨ (∃ k v w',(Instr.next it false ty).run P w = .ok (.tuple #[.bool true,k,v]) w' ∧ F1 k v w')
def yMm (P:Program) (it:Value) (ty:TypeId) (w:World) (F0:World → Prop) (F1:Int → Int → World → Prop):Prop :=
 (∃ w',(Instr.next it true ty).run P w = .ok (.tuple #[.bool false]) w' ∧ F0 w') ∨ (∃ k v w',(Instr.next it true ty).run P w = .ok (.tuple #[.bool true,.int .i64 k,.int .i32 v]) w' ∧ F1 k v w')
def yJe (P:Program) (it:Value) (tk tv:Option TypeId) (w:World) (F:Value → VWP):Prop :=
 yER P tk fun k => yER P tv fun v => ∃ w',(Instr.entry it).run P w = .ok (.tuple #[k,v]) w' ∧ F k v w'
def yES (P:Program) (rest:List Oper) (o:Oper) (ρ:Operand → Value) (w:World) (K:VWP):Prop :=
 match o.op with
 | .alloc _ | .box _ _ | .buildSlice _ _ _ | .makeMap _ _ => yzZ P o ρ w K
 | .store t a x => match ρ a,(ρ x).cells.size == P.cellsOf t,(P.underlying t).isSome with
  | .pointer (some a),true,true => st w a (ρ x).cells.toList fun w' => K undef w'
  | _,_,_ => False
 | .makeSlice t l c => ybC P (Instr.makeSlice t (ρ l) (ρ c)) w fun a n c w' => K (.slice a n c) w'
 | .mapUpdate t m k x => ydM P (Instr.mapUpdate t (ρ m) (ρ k) (ρ x)) w fun w' => K undef w'
 | .insert t m k x => ydM P (Instr.mapUpdate t (ρ m) (ρ k) (ρ x)) w fun w' => K undef w'
 | .range t x => ylU P (Instr.range t (ρ x)) w fun a w' => K (.pointer (some a)) w'
 | .next it isS => match isS with
  | false => yz0 P (ρ it) o.type w (fun w' => K (.tuple #[.bool false]) w') fun k v w' => K (.tuple #[.bool true,k,v]) w'
  | true => yMm P (ρ it) o.type w (fun w' => K (.tuple #[.bool false]) w') fun k v w' => K (.tuple #[.bool true,.int .i64 k,.int .i32 v]) w'
 | .entry it => yJe P (ρ it) (yBO o.dst 0 rest) (yBO o.dst 1 rest) w fun k v w' => K (.tuple #[k,v]) w'
 | .mapEntry t m k => yER P (yBO o.dst 0 rest) fun z => ∃ (n:Int) (w':World),(Instr.mapEntry t (ρ m) (ρ k)).run P w = .ok (.tuple #[z,.int .i64 n]) w' ∧ K (.tuple #[z,.int .i64 n]) w'
 | .entryStore t m s x => ydM P (Instr.entryStore t (ρ m) (ρ s) (ρ x)) w fun w' => K undef w'
 | .convert src dst x => match P.underlying src,P.underlying dst with
  | some .string,some (.slice _) => ybC P (Go.convert src dst (ρ x)) w fun a n c w' => K (.slice a n c) w'
  | some (.slice _),some .string => ∃ s w',(Go.convert src dst (ρ x)).run P w = .ok (.string s) w' ∧ K (.string s) w'
  | _,_ => ye7 P o ρ fun v => K v w
 | .call c => match c.callee with
  | .builtin .append => ybC P (Builtin.append_ c.argTypes o.type (c.args.map ρ)) w fun a n c w' => K (.slice a n c) w'
  | .builtin .copy => yJd P (Builtin.copy_ c.argTypes o.type (c.args.map ρ)) w fun n w' => K (.int .i64 n) w'
  | .builtin .delete => yHr P (Builtin.delete_ c.argTypes o.type (c.args.map ρ)) w K
  | .builtin .clear => yHr P (Builtin.clear_ c.argTypes o.type (c.args.map ρ)) w K
  | .builtin _ => yhT P o ρ w fun v => K v w
  | _ => yF2 P o ρ w K
 | _ => yhT P o ρ w fun v => K v w
def yF3 (P:Program) (o:Oper):Bool:=match o.op with
 | .alloc _ | .box _ _ | .buildSlice _ _ _ | .makeMap _ _ | .store .. | .makeSlice .. | .mapUpdate .. | .insert .. | .range .. | .next .. | .entry _ | .mapEntry .. | .entryStore .. | .go _ | .defer _ | .panic _ | .send .. | .recv .. | .select .. => false
 | .convert src dst _ => match P.underlying src,P.underlying dst with
  | some .string,_ => false
  | some (.slice _),_ => false
  | _,_ => true
 | .call c => match c.callee with
  | .builtin .append | .builtin .copy | .builtin .delete | .builtin .clear => false
  | _ => true
 | _ => true
def ypR (P:Program) (ops:Array Oper):Bool:=ops.toList.all (yF3 P) && Region.lexB .any ops
def yjG (P:Program) (s:Sem Next) (w:World) (K:VWP):Prop:=match s.run P w with
 | .ok (.value v) w' => K v w'
 | .ok .skip w' => K undef w'
 | .ok (.enter f args) w' => Calls P f args w' fun e w'' => ∃ v,e = .returned v ∧ K v w''
 | _ => False
theorem ybD {P:Program} {s:Sem Next} {w:World} {K K':VWP} (h:yjG P s w K) (hk:∀ v w',K v w' → K' v w'):yjG P s w K':=by
 unfold yjG at *
 split at h
 ·exact hk _ _ h
 ·exact hk _ _ h
 ·exact h.mono fun e w'' ⟨v,h1,h2⟩ => ⟨v,h1,hk _ _ h2⟩
 ·exact h.elim
theorem yfZ {P:Program} {o:Oper} {a:Act} {w:World} {K:VWP} {Q:Exit → Act → World → Prop} {next:Act → World → Prop} (h:yjG P (execOp a.eval o) w K) (hK:∀ v w',K v w' → next (a.put o.dst v) w'):o.wp P a w next Q:=by
 unfold yjG at h
 unfold Oper.wp
 split at h
 ·rename_i v w' he; rw [he]; exact hK _ _ h
 ·rename_i w' he; rw [he]; exact hK _ _ h
 ·rename_i f args w' he
  rw [he,Oper.upon_enter]
  refine Calls.mono h fun e w'' hv => ?_
  obtain ⟨v,rfl,hk⟩:=hv
  exact hK v w'' hk
 ·exact h.elim
theorem ycS {P:Program} {s:Sem Next} {w w':World} {v:Value} {K:VWP} (he:s.run P w = .ok (.value v) w') (h:K v w'):yjG P s w K:=by unfold yjG; rw [he]; exact h
theorem ysH {P:Program} {s:Sem Next} {w w':World} {K:VWP} (he:s.run P w = .ok .skip w') (h:K undef w'):yjG P s w K:=by unfold yjG; rw [he]; exact h
theorem yBP {P:Program} {f:FuncId} {args:Array Value} {w:World} {K:VWP} {s:Sem Next} (h:call P f args w K) (he:s.run P w = .ok (.enter f args) w):yjG P s w K:=by
 unfold yjG
 rw [he]
 refine Calls.mono h fun e w' h => ?_
 obtain ⟨v,hv⟩:=yBK h
 exact ⟨v,hv.1,hv.2⟩
theorem ypS {P:Program} {a:Addr} {F:World → Prop}:∀ {vs:List Value} {i:Nat} {w:World},stC w a i vs F → ∃ w',(storeCells a vs i).run P w = .ok () w' ∧ F w'
 | [],i,w,h => ⟨w,rfl,h⟩
 | v :: r,i,w,h => by
  obtain ⟨hl,hc,hf,h⟩:=h
  obtain ⟨u,hu⟩:=Option.isSome_iff_exists.1 hc
  obtain ⟨w',h1,h2⟩:=ypS (P:=P) h
  refine ⟨w',?_,h2⟩
  simp only [storeCells,store,Sem.run_bind]
  have:(Sem.store .plain (a.add i) v (.pure ())).run P w = .ok () (w.setCell (a.add i) v):=by
   cases v <;> simp [yhH] at hl <;> simp [Sem.run,hu,hf]
  rw [this]
  exact h1
theorem ysI {P:Program} {rest:List Oper} {o:Oper} {ρ:Operand → Value} {w:World} {K:VWP} (h:yES P rest o ρ w K):yjG P (execOp ρ o) w K:=by
 have quiet:yhT P o ρ w (fun v => K v w) → yjG P (execOp ρ o) w K:=fun h =>
  let ⟨v,h1,h2⟩:=yhU h
  ycS (h2 w (fun _ => Mod.refl w)) h1
 have pure_:ye7 P o ρ (fun v => K v w) → yjG P (execOp ρ o) w K:=fun h =>
  let ⟨v,h1,h2⟩:=yn6 h
  ycS (h2 w) h1
 have new:yzZ P o ρ w K → yjG P (execOp ρ o) w K:=fun h => by
  unfold yzZ at h
  split at h
  ·rename_i ob k hn
   unfold al at h
   simp only at h
   split at h
   ·rename_i v hv
    exact ycS (yeM hn hv) h
   ·exact h.elim
  ·exact h.elim
 have val:∀ {s:Sem Value} {v:Value} {w':World},(execOp ρ o) = (do pure (Next.value (← s)):Sem Next) → s.run P w = .ok v w' → K v w' → yjG P (execOp ρ o) w K:=fun e hr hk =>
  ycS (w':=_) (by rw [e]; simp [Sem.run_bind,hr,Result.andThen]) hk
 have unit:∀ {s:Sem Unit} {w':World},(execOp ρ o) = (do s; pure Next.skip:Sem Next) → s.run P w = .ok () w' → K undef w' → yjG P (execOp ρ o) w K:=fun e hr hk =>
  ysH (w':=_) (by rw [e]; simp [Sem.run_bind,hr,Result.andThen]) hk
 unfold yES at h
 split at h
 case h_1 => exact new h
 case h_2 => exact new h
 case h_3 => exact new h
 case h_4 => exact new h
 case h_5 t a x hop =>
  split at h
  ·rename_i a' ha hs hd
   obtain ⟨d,hd⟩:=Option.isSome_iff_exists.1 hd
   obtain ⟨w',h1,h2⟩:=ypS (P:=P) h
   refine unit (s:=Instr.storeAt t (ρ a) (ρ x)) (by simp [execOp,hop]) ?_ h2
   have hs':(ρ x).cells.size = P.cellsOf t:=by simpa using hs
   simp [Instr.storeAt,Instr.sureAddr,storeVar,ha,Sem.run_bind,ycM hd,Result.andThen,hs',h1]
  ·exact h.elim
 case h_6 t l c hop =>
  obtain ⟨a,n,c',w',h1,h2⟩:=h
  exact val (s:=Instr.makeSlice t (ρ l) (ρ c)) (by simp [execOp,hop]) h1 h2
 case h_7 t m k x hop =>
  obtain ⟨w',h1,h2⟩:=h
  exact unit (s:=Instr.mapUpdate t (ρ m) (ρ k) (ρ x)) (by simp [execOp,hop]) h1 h2
 case h_8 t m k x hop =>
  obtain ⟨w',h1,h2⟩:=h
  exact unit (s:=Instr.mapUpdate t (ρ m) (ρ k) (ρ x)) (by simp [execOp,hop]) h1 h2
 case h_9 t x hop =>
  obtain ⟨a,w',h1,h2⟩:=h
  exact val (s:=Instr.range t (ρ x)) (by simp [execOp,hop]) h1 h2
 case h_10 it isS hop =>
  cases isS
  ·rcases h with ⟨w',h1,h2⟩ | ⟨k,v,w',h1,h2⟩
   ·exact val (s:=Instr.next (ρ it) false o.type) (by simp [execOp,hop]) h1 h2
   ·exact val (s:=Instr.next (ρ it) false o.type) (by simp [execOp,hop]) h1 h2
  ·rcases h with ⟨w',h1,h2⟩ | ⟨k,v,w',h1,h2⟩
   ·exact val (s:=Instr.next (ρ it) true o.type) (by simp [execOp,hop]) h1 h2
   ·exact val (s:=Instr.next (ρ it) true o.type) (by simp [execOp,hop]) h1 h2
 case h_11 it hop =>
  obtain ⟨k,h⟩:=ylW h
  obtain ⟨v,w',h1,h2⟩:=ylW h
  exact val (s:=Instr.entry (ρ it)) (by simp [execOp,hop]) h1 h2
 case h_12 t m k hop =>
  obtain ⟨z,h⟩:=ylW h
  obtain ⟨n,w',h1,h2⟩:=h
  exact val (s:=Instr.mapEntry t (ρ m) (ρ k)) (by simp [execOp,hop]) h1 h2
 case h_13 t m s x hop =>
  obtain ⟨w',h1,h2⟩:=h
  exact unit (s:=Instr.entryStore t (ρ m) (ρ s) (ρ x)) (by simp [execOp,hop]) h1 h2
 case h_14 src dst x hop =>
  split at h
  ·obtain ⟨a,n,c,w',h1,h2⟩:=h
   exact val (s:=Go.convert src dst (ρ x)) (by simp [execOp,hop]) h1 h2
  ·obtain ⟨s,w',h1,h2⟩:=h
   exact val (s:=Go.convert src dst (ρ x)) (by simp [execOp,hop]) h1 h2
  ·exact pure_ h
 case h_15 c hop =>
  split at h
  ·rename_i hc
   obtain ⟨a,n,c',w',h1,h2⟩:=h
   exact val (s:=Builtin.append_ c.argTypes o.type (c.args.map ρ)) (by simp [execOp,hop,resolve,hc,invoke,Go.builtin]) h1 h2
  ·rename_i hc
   obtain ⟨n,w',h1,h2⟩:=h
   exact val (s:=Builtin.copy_ c.argTypes o.type (c.args.map ρ)) (by simp [execOp,hop,resolve,hc,invoke,Go.builtin]) h1 h2
  ·rename_i hc
   obtain ⟨v,w',h1,h2⟩:=h
   exact val (s:=Builtin.delete_ c.argTypes o.type (c.args.map ρ)) (by simp [execOp,hop,resolve,hc,invoke,Go.builtin]) h1 h2
  ·rename_i hc
   obtain ⟨v,w',h1,h2⟩:=h
   exact val (s:=Builtin.clear_ c.argTypes o.type (c.args.map ρ)) (by simp [execOp,hop,resolve,hc,invoke,Go.builtin]) h1 h2
  ·exact quiet h
  ·unfold yF2 at h
   split at h
   ·rename_i f args he
    exact yBP h (ybZ he w)
   ·rename_i v he
    exact ycS (ybZ he w) h
   ·exact h.elim
 case h_16 => exact quiet h
def ycA (P:Program) (o:Oper):Bool:=yF3 P o && match o.op with
 | .call c => match c.callee with
  | .builtin _ => true
  | _ => false
 | _ => true
def yxJ (o:Oper):Bool:=match o.op with
 | .alloc _ | .box _ _ | .buildSlice _ _ _ | .makeMap _ _ => true
 | _ => false
inductive Reach (ops:Array Oper):Nat → Nat → Prop
 | edge {i j:Nat} {o:Oper} {e:Edge} (h:ops[i]? = some o) (he:e ∈ o.after) (hb:Region.binds .any e = true) (hj:e.on = j):Reach ops i j
 | step {i j k:Nat} {o:Oper} {e:Edge} (h:ops[i]? = some o) (he:e ∈ o.after) (hb:Region.binds .any e = true) (hj:e.on = j) (r:Reach ops j k):Reach ops i k
def ylX (acc:List Nat):List Edge → Nat
 | [] => 0
 | e :: r => if Region.binds .any e then (1 <<< e.on) ||| acc.getD e.on 0 ||| ylX acc r else ylX acc r
def yu4 (acc:List Nat):List Oper → List Nat
 | [] => acc
 | o :: r => yu4 (acc ++ [ylX acc o.after.toList]) r
def clo (ops:Array Oper):List Nat:=yu4 [] ops.toList
def ygH (m:List Nat) (i j:Nat):Bool:=(m.getD i 0).testBit j
theorem yjM {ops:Array Oper} {acc:List Nat} (hacc:∀ i j,(acc.getD i 0).testBit j = true → Reach ops i j) {i:Nat} {o:Oper} (ho:ops[i]? = some o):∀ {l:List Edge} {j:Nat},(∀ e ∈ l,e ∈ o.after) → (ylX acc l).testBit j = true → Reach ops i j
 | [],j,_,h => by simp [ylX] at h
 | e :: r,j,hl,h => by
  unfold ylX at h
  split at h
  ·rename_i hb
   simp only [Nat.testBit_or,Bool.or_eq_true] at h
   rcases h with (h | h) | h
   ·refine .edge ho (hl e (by simp)) hb ?_
    simp [Nat.one_shiftLeft,Nat.testBit_two_pow] at h
    exact h
   ·exact .step ho (hl e (by simp)) hb rfl (hacc _ _ h)
   ·exact yjM hacc ho (fun e he => hl e (by simp [he])) h
  ·exact yjM hacc ho (fun e he => hl e (by simp [he])) h
theorem yiN {ops:Array Oper}:∀ {l:List Oper} {acc:List Nat},(∀ i j,(acc.getD i 0).testBit j = true → Reach ops i j) → (∀ k,l[k]? = ops[acc.length + k]?) → ∀ i j,((yu4 acc l).getD i 0).testBit j = true → Reach ops i j
 | [],acc,h,_,i,j,hij => h i j hij
 | o :: r,acc,h,hk,i,j,hij => by
  refine yiN (l:=r) (acc:=acc ++ [ylX acc o.after.toList]) ?_ ?_ i j hij
  ·intro i j hij
   by_cases hi:i < acc.length
   ·rw [List.getD_eq_getElem?_getD,List.getElem?_append_left hi,← List.getD_eq_getElem?_getD] at hij
    exact h i j hij
   ·by_cases he:i = acc.length
    ·subst he
     have h0:=hk 0
     simp at h0
     rw [List.getD_eq_getElem?_getD,List.getElem?_append_right (Nat.le_refl _)] at hij
     simp at hij
     exact yjM h h0.symm (fun e he => by simpa using he) hij
    ·rw [List.getD_eq_getElem?_getD,List.getElem?_append_right (by omega)] at hij
     have:i - acc.length ≠ 0:=by omega
     rw [List.getElem?_eq_none (by simp; omega)] at hij
     simp at hij
  ·intro k
   have:=hk (k + 1)
   simp only [List.getElem?_cons_succ] at this
   rw [this]; simp; congr 1; omega
theorem ylY {ops:Array Oper} {i j:Nat} (h:ygH (clo ops) i j = true):Reach ops i j :=
 yiN (l:=ops.toList) (acc:=[]) (by simp) (by simp) i j h
def yiO (o:Oper) (j:Nat):Bool:=o.after.toList.any fun e => Region.binds .any e && e.on == j
def yhI (P:Program) (ops:Array Oper) (m:List Nat) (x y:Nat):Bool:=match ops[x]?,ops[y]? with
 | some ox,some oy => !(yiO ox y) && (ycA P ox || ygH m y x) && (ox.apart ops oy || ygH m y x)
 | _,_ => false
def yb3 (P:Program) (ops:Array Oper) (m:List Nat):List Nat → Bool
 | [] => true
 | x :: L => L.all (yhI P ops m x) && yb3 P ops m L
def yBQ (ops:Array Oper) (x:Nat):Bool:=match ops[x]? with
 | some o => !(yiO o x) && (o.after.all fun e => !Region.binds .any e || decide (e.on < ops.size)) && (match o.op with | .select .. => false | _ => true)
 | none => false
def yz1 (n:Nat) (L:List Nat):Bool:=L.length == n && L.all (fun x => decide (x < n)) && decide L.Nodup && (List.range n).all (fun x => L.contains x)
def ylE (ops:Array Oper) (done:Nat) (p:Oper → Bool):Nat → List Oper → Option Nat
 | _,[] => none
 | i,o :: r => match done.testBit i with
  | true => ylE ops done p (i + 1) r
  | false => match p o && o.after.all (fun e => !Region.binds .any e || done.testBit e.on) with
   | true => some i
   | false => ylE ops done p (i + 1) r
def yBR (P:Program) (ops:Array Oper):Nat → Nat → List Nat
 | 0,_ => []
 | n + 1,done => match ylE ops done (ycA P) 0 ops.toList with
  | some i => i :: yBR P ops n (done ||| (1 <<< i))
  | none => match ylE ops done (fun _ => true) 0 ops.toList with
   | some i => i :: yBR P ops n (done ||| (1 <<< i))
   | none => []
def yBS (P:Program) (ops:Array Oper):List Nat:=yBR P ops ops.size 0
def yI6 (P:Program) (ops:Array Oper) (L:List Nat):Bool:=yz1 ops.size L && yb3 P ops (clo ops) L && L.all (yBQ ops)
def ybR (P:Program) (ops:Array Oper) (o:Oper) (v:Value) (a:Act) (w:World):Prop :=
 (Region.wanted o (yielded ops a.tmps) = true ∧ ∀ w',(yjK P o = true → Mod [] w w') → (execOp a.eval o).run P w' = .ok (.value v) w') ∨
 (Region.wanted o (yielded ops a.tmps) = false ∧ v = undef)
theorem ybR.of_same {P:Program} {ops:Array Oper} {o:Oper} {v:Value} {a a':Act} {w:World} (hy:ybR P ops o v a w) (he:execOp a'.eval o = execOp a.eval o)
  (hw:Region.wanted o (yielded ops a'.tmps) = Region.wanted o (yielded ops a.tmps)):ybR P ops o v a' w:=by
 unfold ybR at *
 rw [he,hw]
 exact hy
abbrev yhJ:=List (Nat × Act × Value)
def Obl (P:Program) (ops:Array Oper) (m:List Nat) (i:Nat) (Γ:yhJ) (w:World):Prop:=∀ g ∈ Γ,ygH m i g.1 = false → ∀ o,ops[g.1]? = some o → ybR P ops o g.2.2 g.2.1 w
def sift (m:List Nat) (i:Nat) (Γ:yhJ):yhJ:=Γ.filter fun g => !ygH m i g.1
theorem yg5 {m:List Nat} {i:Nat} {Γ:yhJ} {g:Nat × Act × Value}:g ∈ sift m i Γ ↔ g ∈ Γ ∧ ygH m i g.1 = false:=by simp [sift]
def ycZ (P:Program) (ops:Array Oper) (m:List Nat) (Q:Act → World → Prop):List Nat → yhJ → Act → World → Prop
 | [],_,a,w => Q a w
 | i :: L,Γ,a,w => ∃ o,ops[i]? = some o ∧ match ycA P o with
  | true => ∃ v,ybR P ops o v a w ∧ ycZ P ops m Q L ((i,a,v) :: Γ) (a.put o.dst v) w
  | false => (Region.wanted o (yielded ops a.tmps) = true → yjG P (execOp a.eval o) w fun v w' => Obl P ops m i Γ w' ∧ ycZ P ops m Q L (sift m i Γ) (a.put o.dst v) w') ∧
   (Region.wanted o (yielded ops a.tmps) = false → ycZ P ops m Q L Γ (a.put o.dst undef) w)
def ypT (P:Program) (ops:Array Oper) (Γ' Γ:yhJ):Prop:=∀ g' ∈ Γ',∃ g ∈ Γ,g.1 = g'.1 ∧ ∀ o w,ops[g.1]? = some o → ybR P ops o g.2.2 g.2.1 w → ybR P ops o g'.2.2 g'.2.1 w
theorem ypT.cons {P:Program} {ops:Array Oper} {Γ' Γ:yhJ} (h:ypT P ops Γ' Γ) (x:Nat × Act × Value):ypT P ops (x :: Γ') (x :: Γ):=fun g hg => by
 rcases List.mem_cons.1 hg with rfl | hg
 ·exact ⟨_,by simp,rfl,fun _ _ _ h => h⟩
 ·obtain ⟨g',h1,h2⟩:=h g hg; exact ⟨g',by simp [h1],h2⟩
theorem ypT.drop {P:Program} {ops:Array Oper} (Γ:yhJ) (x:Nat × Act × Value):ypT P ops Γ (x :: Γ):=fun g hg => ⟨g,by simp [hg],rfl,fun _ _ _ h => h⟩
theorem Obl.less {P:Program} {ops:Array Oper} {m:List Nat} {i:Nat} {Γ Γ':yhJ} {w:World} (h:Obl P ops m i Γ w) (hl:ypT P ops Γ' Γ):Obl P ops m i Γ' w:=fun g' hg' hd o ho => by
 obtain ⟨g,hg,h1,h2⟩:=hl g' hg'
 rw [← h1] at ho hd
 exact h2 o w ho (h g hg hd o ho)
theorem ypT.sift {P:Program} {ops:Array Oper} {Γ' Γ:yhJ} {m:List Nat} {i:Nat} (h:ypT P ops Γ' Γ):ypT P ops (Go.Proofs.YteldhjiiocmicaaGreat.sift m i Γ') (Go.Proofs.YteldhjiiocmicaaGreat.sift m i Γ):=fun g' hg' => by
 obtain ⟨h1,h2⟩:=yg5.1 hg'
 obtain ⟨g,h3,h4,h5⟩:=h g' h1
 exact ⟨g,yg5.2 ⟨h3,by rw [h4]; exact h2⟩,h4,h5⟩
theorem yeR {P:Program} {ops:Array Oper} {m:List Nat} {Q:Act → World → Prop}:∀ {L:List Nat} {Γ Γ':yhJ} {a:Act} {w:World},ycZ P ops m Q L Γ a w → ypT P ops Γ' Γ → ycZ P ops m Q L Γ' a w
 | [],_,_,_,_,h,_ => h
 | i :: L,Γ,Γ',a,w,h,hl => by
  obtain ⟨o,ho,h⟩:=h
  refine ⟨o,ho,?_⟩
  split at h
  ·obtain ⟨v,h1,h2⟩:=h
   exact ⟨v,h1,yeR h2 (hl.cons _)⟩
  ·exact ⟨fun hw => ybD (h.1 hw) fun v w' ⟨h1,h2⟩ => ⟨h1.less hl,yeR h2 hl.sift⟩,fun hw => yeR (h.2 hw) hl⟩
theorem ydP {P:Program} {ops:Array Oper} {m:List Nat} {Q:Act → World → Prop} {j:Nat} {oj:Oper} (hj:ops[j]? = some oj) (hsj:∀ cs b,oj.op ≠ .select cs b) {L2:List Nat} :
  ∀ {qs:List Nat} {Γ:yhJ} {a:Act} {w:World},(∀ q ∈ qs,∃ oq,ops[q]? = some oq ∧ ycA P oq = true ∧ oq.apart ops oj = true ∧ ygH m j q = false ∧ ∀ cs b,oq.op ≠ .select cs b) → ycZ P ops m Q (qs ++ j :: L2) Γ a w →
  match ycA P oj with
  | true => ∃ v,ybR P ops oj v a w ∧ ycZ P ops m Q (qs ++ L2) Γ (a.put oj.dst v) w
  | false => (Region.wanted oj (yielded ops a.tmps) = true → yjG P (execOp a.eval oj) w fun v w' => Obl P ops m j Γ w' ∧ ycZ P ops m Q (qs ++ L2) (sift m j Γ) (a.put oj.dst v) w') ∧
   (Region.wanted oj (yielded ops a.tmps) = false → ycZ P ops m Q (qs ++ L2) Γ (a.put oj.dst undef) w)
 | [],Γ,a,w,_,h => by
  obtain ⟨o,ho,h⟩:=h
  rw [hj] at ho; cases ho
  split at h
  ·rename_i hs
   try simp only [hs]
   obtain ⟨v,h1,h2⟩:=h
   exact ⟨v,h1,yeR h2 (ypT.drop _ _)⟩
  ·rename_i hs
   try simp only [hs]
   exact h
 | q :: qs,Γ,a,w,hq,h => by
  obtain ⟨oq,hoq,hsq,hap,hd,hsel⟩:=hq q (by simp)
  obtain ⟨h1,h2,h3⟩:=Oper.apart_spec hap
  obtain ⟨o,ho,h⟩:=h
  rw [hoq] at ho; cases ho
  simp only [hsq] at h
  obtain ⟨u,hu,h⟩:=h
  have ih:=ydP hj hsj (fun q' hq' => hq q' (by simp [hq'])) h
  have comm:∀ v,(a.put oq.dst u).put oj.dst v = (a.put oj.dst v).put oq.dst u:=fun v => Act.put_comm a u v h2
  have yq:∀ v w',ybR P ops oq u a w' → ybR P ops oq u (a.put oj.dst v) w':=fun v w' hy => hy.of_same (execOp_put oq hsel a oj.dst v h3) (wanted_put oq a oj.dst v h3)
  have back:∀ Γ v w',ybR P ops oq u a w' → ycZ P ops m Q (qs ++ L2) ((q,a,u) :: Γ) ((a.put oq.dst u).put oj.dst v) w' → ycZ P ops m Q (q :: (qs ++ L2)) Γ (a.put oj.dst v) w':=fun Γ v w' hy h => by
   refine ⟨oq,hoq,?_⟩
   simp only [hsq]
   refine ⟨u,yq v w' hy,?_⟩
   rw [comm] at h
   refine yeR h fun g' hg' => ?_
   rcases List.mem_cons.1 hg' with rfl | hg'
   ·exact ⟨_,List.mem_cons_self,rfl,fun o w'' ho hy => by
     rw [hoq] at ho; cases ho
     exact yq v w'' hy⟩
   ·exact ⟨g',by simp [hg'],rfl,fun _ _ _ h => h⟩
  split at ih
  ·rename_i hs
   try simp only [hs]
   obtain ⟨v,h4,h5⟩:=ih
   refine ⟨v,h4.of_same (execOp_put oj hsj a oq.dst u h1).symm (wanted_put oj a oq.dst u h1).symm,?_⟩
   exact back Γ v w hu h5
  ·rename_i hs
   try simp only [hs]
   rw [wanted_put oj a oq.dst u h1,execOp_put oj hsj a oq.dst u h1] at ih
   refine ⟨fun hw => ybD (ih.1 hw) fun v w' ⟨h4,h5⟩ => ⟨h4.less (ypT.drop _ _),back _ v w' (h4 _ List.mem_cons_self hd oq hoq) (show ycZ P ops m Q (qs ++ L2) ((q,a,u) :: sift m j Γ) _ _ from (show sift m j ((q,a,u) :: Γ) = (q,a,u) :: sift m j Γ by simp [sift,hd]) ▸ h5)⟩,fun hw => back Γ undef w hu (ih.2 hw)⟩
theorem ygK {ops:Array Oper} {L:List Nat} (hc:∀ x o,x ∉ L → ops[x]? = some o → ∀ e ∈ o.after,Region.binds .any e = true → e.on ∉ L) {i k:Nat} (h:Reach ops i k) :
  (∀ o,ops[i]? = some o → ∀ e ∈ o.after,Region.binds .any e = true → e.on ∉ L) → k ∉ L:=by
 induction h with
 | edge h he hb hj => intro hi; rw [← hj]; exact hi _ h _ he hb
 | step h he hb hj r ih => intro hi; exact ih (fun o ho => hc _ o (by rw [← hj]; exact hi _ h _ he hb) ho)
theorem ybP {P:Program} {ops:Array Oper} {m:List Nat}:∀ {qs L2:List Nat} {j:Nat},yb3 P ops m (qs ++ j :: L2) = true → ∀ q ∈ qs,yhI P ops m q j = true
 | [],_,_,_,q,hq => by cases hq
 | x :: qs,L2,j,h,q,hq => by
  simp only [List.cons_append,yb3,Bool.and_eq_true,List.all_eq_true] at h
  rcases List.mem_cons.1 hq with rfl | hq
  ·exact h.1 j (by simp)
  ·exact ybP h.2 q hq
theorem ydQ {P:Program} {ops:Array Oper} {m:List Nat}:∀ {qs L2:List Nat} {j:Nat},yb3 P ops m (qs ++ j :: L2) = true → yb3 P ops m (qs ++ L2) = true
 | [],_,_,h => by simp only [List.nil_append,yb3,Bool.and_eq_true] at h; exact h.2
 | x :: qs,L2,j,h => by
  simp only [List.cons_append,yb3,Bool.and_eq_true,List.all_eq_true] at h ⊢
  exact ⟨fun y hy => h.1 y (by simp at hy ⊢; rcases hy with hy | hy <;> simp [hy]),ydQ h.2⟩
theorem yhV {P:Program} {ops:Array Oper} {Q:Exit → Act → World → Prop}:∀ (n:Nat) {L:List Nat} {listed:Array Bool} {a:Act} {w:World},L.length = n → listed.size = ops.size → L.Nodup →
  (∀ i,i < ops.size → (listed.getD i true = false ↔ i ∈ L)) → (∀ i ∈ L,i < ops.size) → yb3 P ops (clo ops) L = true → (∀ x ∈ L,yBQ ops x = true) →
  (∀ x o,x ∉ L → ops[x]? = some o → ∀ e ∈ o.after,Region.binds .any e = true → e.on ∉ L) → ycZ P ops (clo ops) (Q .normal) L [] a w → wpAny P .any ops Q n listed a w:=by
 intro n
 induction n with
 | zero =>
  intro L listed a w hn hsz hnd hl hlt hp h1 hc h
  have:L = []:=List.length_eq_zero_iff.1 hn
  subst this
  refine ⟨?_,h⟩
  unfold Region.ready
  rw [List.filter_eq_nil_iff]
  intro i hi hb
  simp only [Bool.and_eq_true,Bool.not_eq_true'] at hb
  have:=(hl i (by simpa using hi)).1 hb.1
  cases this
 | succ n ih =>
  intro L listed a w hn hsz hnd hl hlt hp h1 hc h
  refine ⟨fun hr => ?_,fun i hi => ?_⟩
  ·
   exfalso
   match L,hn with
   | x :: L',hn =>
    have hx:=hlt x (by simp)
    obtain ⟨o,ho⟩:∃ o,ops[x]? = some o:=⟨ops[x],by simp [hx]⟩
    have h1x:=h1 x (by simp)
    simp only [yBQ,ho,Bool.and_eq_true,Bool.not_eq_true'] at h1x
    simp only [yb3,Bool.and_eq_true,List.all_eq_true] at hp
    have:x ∈ Region.ready .any ops listed:=by
     unfold Region.ready
     rw [List.mem_filter]
     refine ⟨by simpa using hx,?_⟩
     simp only [Bool.and_eq_true,Bool.not_eq_true',ho,Option.map_some,Option.getD_some]
     refine ⟨(hl x hx).2 (by simp),?_⟩
     rw [Array.all_eq_true_iff_forall_mem]
     intro e he
     by_cases hb:Region.binds .any e = true
     ·have hlt':e.on < ops.size:=by
       have:=h1x.1.2
       rw [Array.all_eq_true_iff_forall_mem] at this
       have:=this e he
       simpa [hb] using this
      have hnm:e.on ∉ x :: L':=by
       intro hm
       have edge:∀ y,e.on = y → yiO o y = true:=fun y hy => by
        unfold yiO
        rw [List.any_eq_true]
        exact ⟨e,by simpa using he,by simp [hb,hy]⟩
       rcases List.mem_cons.1 hm with hm | hm
       ·rw [edge _ hm] at h1x; simp at h1x
       ·have:=hp.1 _ hm
        unfold yhI at this
        rw [ho] at this
        split at this
        ·rename_i ox oy e1 e2
         cases e1
         rw [edge _ rfl] at this
         simp at this
        ·cases this
      have:listed.getD e.on true ≠ false:=fun hf => hnm ((hl _ hlt').1 hf)
      have hs:e.on < listed.size:=by omega
      simp only [hb,Bool.not_true,Bool.false_or]
      simp [Array.getD,hs] at this ⊢
      exact this
     ·simp [hb]
    rw [hr] at this
    cases this
  ·unfold Region.ready at hi
   rw [List.mem_filter] at hi
   obtain ⟨hi1,hi2⟩:=hi
   have hilt:i < ops.size:=by simpa using hi1
   obtain ⟨o,ho⟩:∃ o,ops[i]? = some o:=⟨ops[i],by simp [hilt]⟩
   simp only [Bool.and_eq_true,Bool.not_eq_true',ho,Option.map_some,Option.getD_some] at hi2
   have hiL:i ∈ L:=(hl i hilt).1 hi2.1
   have hedge:∀ e ∈ o.after,Region.binds .any e = true → e.on ∉ L:=fun e he hb hm => by
    have h2:=hi2.2
    rw [Array.all_eq_true_iff_forall_mem] at h2
    have h2:=h2 e he
    simp only [hb,Bool.not_true,Bool.false_or] at h2
    have hlt':=hlt _ hm
    have:=(hl _ hlt').2 hm
    have hs:e.on < listed.size:=by omega
    simp [Array.getD,hs] at this h2
    rw [this] at h2
    cases h2
   have nodep:∀ q ∈ L,ygH (clo ops) i q = false:=fun q hq => by
    cases hd:ygH (clo ops) i q with
    | false => rfl
    | true => exact absurd hq (ygK hc (ylY hd) (fun o' ho' => by rw [ho] at ho'; cases ho'; exact hedge))
   obtain ⟨qs,L2,rfl⟩:=List.append_of_mem hiL
   have hsel:∀ x ∈ qs ++ i :: L2,∀ o,ops[x]? = some o → ∀ cs b,o.op ≠ .select cs b:=fun x hx o ho cs b e => by
    have:=h1 x hx
    simp [yBQ,ho,e] at this
   have hq:∀ q ∈ qs,∃ oq,ops[q]? = some oq ∧ ycA P oq = true ∧ oq.apart ops o = true ∧ ygH (clo ops) i q = false ∧ ∀ cs b,oq.op ≠ .select cs b:=fun q hq => by
    have hp':=ybP hp q hq
    have hd:=nodep q (by simp [hq])
    unfold yhI at hp'
    split at hp'
    ·rename_i ox oy e1 e2
     rw [ho] at e2; cases e2
     simp only [hd,Bool.or_false,Bool.and_eq_true] at hp'
     exact ⟨ox,e1,hp'.1.2,hp'.2,hd,hsel q (by simp [hq]) ox e1⟩
    ·cases hp'
   have hf:=ydP ho (hsel i (by simp) o ho) hq h
   have next:∀ a' w',ycZ P ops (clo ops) (Q .normal) (qs ++ L2) [] a' w' → wpAny P .any ops Q n (listed.setIfInBounds i true) a' w':=fun a' w' h' => by
    have hni:i ∉ qs ++ L2:=by
     intro hm
     have:=List.nodup_append.1 hnd
     rcases List.mem_append.1 hm with hm | hm
     ·exact this.2.2 i hm i (by simp) rfl
     ·exact (List.nodup_cons.1 this.2.1).1 hm
    refine ih (L:=qs ++ L2) (by simp at hn ⊢; omega) (by simp [hsz]) ?_ ?_ (fun x hx => hlt x (by simp at hx ⊢; rcases hx with hx | hx <;> simp [hx])) (ydQ hp) (fun x hx => h1 x (by simp at hx ⊢; rcases hx with hx | hx <;> simp [hx])) ?_ h'
    ·have hsub:(qs ++ L2).Sublist (qs ++ i :: L2):=List.Sublist.append (List.Sublist.refl _) (List.sublist_cons_self _ _)
     exact hnd.sublist hsub
    ·intro k hk
     by_cases hki:k = i
     ·subst hki
      constructor
      ·intro hf; simp [Array.getD,hsz,hk] at hf
      ·intro hm; exact absurd hm hni
     ·have e1:(listed.setIfInBounds i true).getD k true = listed.getD k true:=by
       simp [Array.getD,hsz,hk,Array.getElem_setIfInBounds,Ne.symm hki]
      rw [e1,hl k hk]
      simp [hki]
    ·intro x o' hx ho' e he hb hm
     by_cases hxi:x = i
     ·subst hxi
      rw [ho] at ho'; cases ho'
      exact hedge e he hb (by simp at hm ⊢; rcases hm with hm | hm <;> simp [hm])
     ·exact hc x o' (by simp at hx ⊢; exact ⟨hx.1,hxi,hx.2⟩) ho' e he hb (by simp at hm ⊢; rcases hm with hm | hm <;> simp [hm])
   unfold wpOp
   simp only [ho]
   split at hf
   ·obtain ⟨v,hy,h'⟩:=hf
    rcases hy with ⟨hw,hr⟩ | ⟨hw,rfl⟩
    ·rw [if_pos hw]
     exact .inl (yfZ (K:=fun u w' => u = v ∧ w' = w) (ycS (hr w (fun _ => Mod.refl w)) ⟨rfl,rfl⟩) fun u w' ⟨e1,e2⟩ => by subst e1; subst e2; exact next _ _ h')
    ·rw [if_neg (by rw [hw]; simp)]
     exact next _ _ h'
   ·by_cases hw:Region.wanted o (yielded ops a.tmps) = true
    ·rw [if_pos hw]
     exact .inl (yfZ (hf.1 hw) fun v w' ⟨_,h'⟩ => next _ _ h')
    ·have hw:Region.wanted o (yielded ops a.tmps) = false:=by simpa using hw
     rw [if_neg (by rw [hw]; simp)]
     exact next _ _ (hf.2 hw)
theorem ysJ {P:Program} (hm:P.follows .mixedOrders = true) {id:Nat} {ops:Array Oper} {Q:Exit → Act → World → Prop} {a:Act} {w:World} {L:List Nat} (hL:yI6 P ops L = true)
  (h:∀ w1,Mod [] w w1 → ycZ P ops (clo ops) (Q .normal) L [] a w1):(Code.region id ops true).wp P Q a w:=by
 simp only [yI6,yz1,Bool.and_eq_true,List.all_eq_true,decide_eq_true_eq,beq_iff_eq] at hL
 obtain ⟨⟨⟨⟨⟨h1,h2⟩,h3⟩,h6⟩,h4⟩,h5⟩:=hL
 have hmem:∀ i,i < ops.size → i ∈ L:=fun i hi => by simpa using h6 i (by simpa using hi)
 refine wp_region_any hm (yhV ops.size h1 (by simp) h3 ?_ h2 h4 h5 ?_ (h _ (Mod.drewN w 1)))
 ·intro i hi
  simp [hi,hmem i hi]
 ·intro x o hx ho
  exact absurd (hmem x (Array.getElem?_eq_some_iff.1 ho).1) hx
def yJf (ops:Array Oper) (L:List Nat):List Oper:=L.filterMap (ops[·]?)
theorem ysK {P:Program} {o:Oper} {ρ:Operand → Value} {w:World} {K:VWP} (h:yzZ P o ρ w K):yjG P (execOp ρ o) w fun v w' => Mod [] w w' ∧ K v w':=by
 unfold yzZ at h
 split at h
 ·rename_i ob k hn
  unfold al at h
  simp only at h
  split at h
  ·rename_i v hv
   exact ycS (yeM hn hv) ⟨Mod.of_below ((Below.refl _ _).alloc (Nat.le_refl _) _),h⟩
  ·exact h.elim
 ·exact h.elim
abbrev Kx:=Exit → Fr → World → Prop
def sub:Code → List Nat → Code
 | c,[] => c
 | .seq a _,0 :: p => sub a p
 | .seq _ b,_ :: p => sub b p
 | .cond _ a _,0 :: p => sub a p
 | .cond _ _ b,_ :: p => sub b p
 | .block _ c,_ :: p => sub c p
 | .loop c,_ :: p => sub c p
 | c,_ => c
def code (f:Func):Code:=f.body.getD .skip
def yMn (P:Program):List ResultVar → Fr → World → (List Value → Prop) → Prop
 | [],_,_,F => F []
 | .tmp t :: r,fr,w,F => yMn P r fr w fun vs => F (fr.getD t undef :: vs)
 | .cell a t :: r,fr,w,F => match fr.getD a undef,(P.underlying t).isSome with
  | .pointer (some a),true => ldT P t w a fun v => yMn P r fr w fun vs => F (v :: vs)
  | _,_ => False
def post (P:Program) (fn:Func) (R:VWP):Kx
 | .normal,fr,w | .ret,fr,w => yMn P fn.results.toList fr w fun vs => match vs with
  | [v] => R v w
  | vs => R (.tuple ⟨vs⟩) w
 | _,_,_ => False
theorem least {p:Nat → Prop} (h:∃ m,p m):∃ m,p m ∧ ∀ k,p k → m ≤ k:=by
 obtain ⟨m,hm⟩:=h
 induction m using Nat.strongRecOn with
 | _ m ih =>
  by_cases hk:∃ k,k < m ∧ p k
  ·obtain ⟨k,h1,h2⟩:=hk; exact ih k h1 h2
  ·exact ⟨m,hm,fun k h => by
    rcases Nat.lt_or_ge k m with h1 | h1
    ·exact absurd ⟨k,h1,h⟩ hk
    ·exact h1⟩
def ylZ (tmps:Array Value):ResultVar → Sem Value
 | .tmp t => pure (tmps.getD t undef)
 | .cell a t => do loadVar t (← asAddr (tmps.getD a undef))
theorem yz2 (fn:Func) (tmps:Array Value):results fn tmps = (do
  let vs ← fn.results.mapM (ylZ tmps)
  pure (if h:vs.size = 1 then vs[0] else .tuple vs)):=by
 unfold results
 congr 1
theorem _root_.Go.Proofs.Tryz.wide_mixed:Tryz.prog.follows .mixedOrders = true:=by kernel_rfl
def ysD (k:IntKind) (x y:Int):Int:=k.wrap (BitVec.ofInt k.bits x &&& BitVec.ofInt k.bits y).toNat
def yEP (k:IntKind) (x y:Int):Int:=k.wrap (BitVec.ofInt k.bits x ^^^ BitVec.ofInt k.bits y).toNat
end Go.Proofs.YteldhjiiocmicaaGreat
namespace Go.Proofs.YteldhjiiocmicaaGreat
open Go.RowKit Go.Maps Go.MapKept
open Go.ChangeMaps (setBlock)
section
set_option linter.unusedSectionVars false
variable {κ β:Type} [DecidableEq κ]
def lkp (L:List (κ × β)) (k:κ):Option β:=match L with
 | [] => none
 | p :: r => if p.1 = k then some p.2 else lkp r k
def put (L:List (κ × β)) (k:κ) (v:β):List (κ × β):=match L with
 | [] => [(k,v)]
 | p :: r => if p.1 = k then (k,v) :: r else p :: put r k v
def del (L:List (κ × β)) (k:κ):List (κ × β):=match L with
 | [] => []
 | p :: r => if p.1 = k then r else p :: del r k
def yaS (P:Program) (t:TypeId) (ek:κ → Value) (ev:β → Value) (w:World) (b:Nat) (L:List (κ × β)):Prop :=
 ∃ es clock,w.heap[b]? = some (.map es clock) ∧ es.toList.map (fun e => (e.key,e.val)) = L.map (fun p => (ek p.1,ev p.2)) ∧
  (∀ p ∈ L,∃ l,keyOf P t (ek p.1) = some l) ∧ Stamped es clock
variable {P:Program} {t:TypeId} {ek:κ → Value} {ev:β → Value} {w w':World} {b:Nat} {L:List (κ × β)}
theorem yaS.lt (h:yaS P t ek ev w b L):b < w.heap.size:=by
 obtain ⟨es,clock,hb,_⟩:=h
 exact (Array.getElem?_eq_some_iff.1 hb).1
theorem yaS.of_block (h:yaS P t ek ev w b L) (e:w'.heap[b]? = w.heap[b]?):yaS P t ek ev w' b L:=by
 obtain ⟨es,clock,hb,r⟩:=h
 exact ⟨es,clock,e.trans hb,r⟩
theorem yaS.of_new (h:w.heap[b]? = some (.map #[] 0)):yaS P t ek ev w b []:=⟨#[],0,h,by simp,by simp,stamped_empty 0⟩
theorem yc0 {L:List (κ × β)} {k:κ} {v:β} (hn:(L.map (·.1)).Nodup) (h:(k,v) ∈ L):lkp L k = some v:=by
 induction L with
 | nil => cases h
 | cons p r ih =>
  simp only [List.map_cons,List.nodup_cons] at hn
  rcases List.mem_cons.1 h with rfl | h
  ·simp [lkp]
  ·have:p.1 ≠ k:=fun e => hn.1 (by rw [e]; exact List.mem_map.2 ⟨_,h,rfl⟩)
   simp [lkp,this,ih hn.2 h]
theorem yc1 {L:List (κ × β)} {k:κ}:lkp L k = none ↔ ∀ p ∈ L,p.1 ≠ k:=by
 induction L with
 | nil => simp [lkp]
 | cons p r ih =>
  by_cases h:p.1 = k
  ·simp [lkp,h]
  ·simp [lkp,h,ih]
theorem yaQ {L:List (κ × β)} {k:κ} {v:β} (h:lkp L k = some v):(k,v) ∈ L:=by
 induction L with
 | nil => cases h
 | cons p r ih =>
  by_cases hp:p.1 = k
  ·simp [lkp,hp] at h; subst h; subst hp; simp
  ·simp [lkp,hp] at h; simp [ih h]
theorem yaS.nodup (h:yaS P t ek ev w b L):(L.map (·.1)).Nodup:=by
 obtain ⟨es,clock,hb,he,hk,hs⟩:=h
 have:=((stamped_iff es clock).1 hs).2.2
 have h2:(es.toList.map (·.key)).Pairwise (· ≠ ·):=List.pairwise_map.2 this
 have e1:es.toList.map (·.key) = (es.toList.map (fun e => (e.key,e.val))).map (·.1):=by simp
 rw [e1,he] at h2
 simp only [List.map_map] at h2
 rw [List.pairwise_map] at h2
 unfold List.Nodup
 rw [List.pairwise_map]
 exact h2.imp (fun h e => h (by simp [e]))
theorem yaS.find (K:Keyed P t) (hi:∀ a b,ek a = ek b → a = b) (h:yaS P t ek ev w b L) {es:Array MapEntry} {clock:Nat} (hb:w.heap[b]? = some (.map es clock)) {k:κ} {l:Lit} (hk:keyOf P t (ek k) = some l) (w0:World) :
  (lkp L k = none ∧ (Instr.findKey t (ek k) es.toList).run P w0 = .ok none w0) ∨
  ∃ j v,lkp L k = some v ∧ L[j]? = some (k,v) ∧ (Instr.findKey t (ek k) es.toList).run P w0 = .ok (some (j,ev v)) w0:=by
 obtain ⟨es',clock',hb',he,hkk,hs⟩:=id h
 rw [hb] at hb'; cases hb'
 have hn:=h.nodup
 have hes:∀ e ∈ es.toList,∃ l,keyOf P t e.key = some l:=fun e hm => by
  have:(e.key,e.val) ∈ L.map (fun p => (ek p.1,ev p.2)):=he ▸ List.mem_map.2 ⟨e,hm,rfl⟩
  obtain ⟨p,hp,e2⟩:=List.mem_map.1 this
  simp only [Prod.mk.injEq] at e2
  rw [← e2.1]; exact hkk p hp
 rcases K.find w0 hk es.toList hes with ⟨h1,h2⟩ | ⟨j,e,h1,h2,h3⟩
 ·refine .inl ⟨?_,h1⟩
  rw [yc1]
  intro p hp ek'
  have:(ek p.1,ev p.2) ∈ es.toList.map (fun e => (e.key,e.val)):=he ▸ List.mem_map.2 ⟨p,hp,rfl⟩
  obtain ⟨e,hm,e2⟩:=List.mem_map.1 this
  simp only [Prod.mk.injEq] at e2
  exact h2 e hm (by rw [e2.1,ek'])
 ·have g:(es.toList.map (fun e => (e.key,e.val)))[j]? = some (e.key,e.val):=by simp [h2]
  rw [he,List.getElem?_map,Option.map_eq_some_iff] at g
  obtain ⟨p,hp,e2⟩:=g
  simp only [Prod.mk.injEq] at e2
  have hpk:p.1 = k:=hi _ _ (by rw [e2.1,h3])
  have hp':p = (k,p.2):=by rw [← hpk]
  refine .inr ⟨j,p.2,yc0 hn (by rw [← hp']; exact List.mem_of_getElem? hp),by rw [← hp']; exact hp,by rw [h1,e2.2]⟩
theorem ycB {L:List (κ × β)} {k:κ} {v:β} (h:lkp L k = none):put L k v = L ++ [(k,v)]:=by
 induction L with
 | nil => rfl
 | cons p r ih =>
  by_cases hp:p.1 = k
  ·simp [lkp,hp] at h
  ·simp [lkp,hp] at h; simp [put,hp,ih h]
theorem ygL {L:List (κ × β)} {k:κ} {v x:β} {j:Nat} (hn:(L.map (·.1)).Nodup) (h:L[j]? = some (k,x)):put L k v = L.set j (k,v):=by
 induction L generalizing j with
 | nil => cases h
 | cons p r ih =>
  simp only [List.map_cons,List.nodup_cons] at hn
  cases j with
  | zero => simp at h; subst h; simp [put]
  | succ j =>
   have hm:(k,x) ∈ r:=List.mem_of_getElem? (by simpa using h)
   have:p.1 ≠ k:=fun e => hn.1 (by rw [e]; exact List.mem_map.2 ⟨_,hm,rfl⟩)
   simp [put,this,ih hn.2 (by simpa using h)]
theorem yhW {L:List (κ × β)} {k:κ} (h:lkp L k = none):del L k = L:=by
 induction L with
 | nil => rfl
 | cons p r ih =>
  by_cases hp:p.1 = k
  ·simp [lkp,hp] at h
  ·simp [lkp,hp] at h; simp [del,hp,ih h]
theorem ysL {L:List (κ × β)} {k:κ} {x:β} {j:Nat} (hn:(L.map (·.1)).Nodup) (h:L[j]? = some (k,x)):del L k = L.eraseIdx j:=by
 induction L generalizing j with
 | nil => cases h
 | cons p r ih =>
  simp only [List.map_cons,List.nodup_cons] at hn
  cases j with
  | zero => simp at h; subst h; simp [del]
  | succ j =>
   have hm:(k,x) ∈ r:=List.mem_of_getElem? (by simpa using h)
   have:p.1 ≠ k:=fun e => hn.1 (by rw [e]; exact List.mem_map.2 ⟨_,hm,rfl⟩)
   simp [del,this,ih hn.2 (by simpa using h)]
theorem yn7 {es:Array MapEntry} {j:Nat} {e:MapEntry} {kv vv:Value} (h:es[j]? = some e) :
  (es.modify j (fun e => { e with key:=kv,val:=vv })).toList.map (fun e => (e.key,e.val)) = (es.toList.map (fun e => (e.key,e.val))).set j (kv,vv):=by
 apply List.ext_getElem?
 intro i
 simp only [Array.toList_modify,List.getElem?_map,List.getElem?_modify,List.getElem?_set,List.length_map,Array.length_toList]
 by_cases hij:j = i
 ·subst hij
  obtain ⟨hl,_⟩:=Array.getElem?_eq_some_iff.1 h
  simp [hl]
 ·simp [hij]
theorem yaS.look {T e:TypeId} (c:Bool) (h:yaS P t ek ev w b L) (K:Keyed P t) (hi:∀ a b,ek a = ek b → a = b) (ht:P.underlying T = some (.map t e)) {z:Value} (hz:(zeroValue e).run P w = .ok z w) {k:κ} {l:Lit} (hk:keyOf P t (ek k) = some l) :
  (Instr.lookup T (.map (some b)) (ek k) c).run P w = .ok (if c then .tuple #[(lkp L k).elim z ev,.bool (lkp L k).isSome] else (lkp L k).elim z ev) w:=by
 obtain ⟨es,clock,hb,_⟩:=id h
 rcases h.find K hi hb hk w with ⟨h1,h2⟩ | ⟨j,v,h1,_,h2⟩
 ·simp [Instr.lookup,run_underlying ht,MapKept.run_getObj_map hb,K.check w _ hk,h2,hz,Result.andThen,h1]
 ·simp [Instr.lookup,run_underlying ht,MapKept.run_getObj_map hb,K.check w _ hk,h2,Result.andThen,h1]
theorem yb0 {o o':Obj} (hb:w.heap[b]? = some o):(setBlock w b o').heap[b]? = some o':=by
 obtain ⟨h,_⟩:=Array.getElem?_eq_some_iff.1 hb
 simp [setBlock,h]
theorem yb1 {o':Obj} {i:Nat} (h:i ≠ b):(setBlock w b o').heap[i]? = w.heap[i]?:=by
 simp [setBlock,Array.getElem?_setIfInBounds,Ne.symm h]
theorem yaS.update {T e:TypeId} (h:yaS P t ek ev w b L) (K:Keyed P t) (hi:∀ a b,ek a = ek b → a = b) (ht:P.underlying T = some (.map t e)) {k:κ} (v:β) {l:Lit} (hk:keyOf P t (ek k) = some l) :
  ∃ o,(Instr.mapUpdate T (.map (some b)) (ek k) (ev v)).run P w = .ok () (setBlock w b o) ∧ yaS P t ek ev (setBlock w b o) b (put L k v):=by
 have hn:=h.nodup
 obtain ⟨es,clock,hb,he,hkk,hs⟩:=id h
 rcases h.find K hi hb hk w with ⟨h1,h2⟩ | ⟨j,x,h1,hj,h2⟩
 ·refine ⟨.map (es.push { key:=ek k,val:=ev v,born:=clock }) (clock + 1),?_,_,_,yb0 hb,?_,?_,?_⟩
  ·simp [Instr.mapUpdate,run_underlying ht,MapKept.run_getObj_map hb,K.check w _ hk,h2,Result.andThen,MapKept.run_setObj_map _ hb,setBlock]
  ·rw [ycB h1]; simp [he]
  ·rw [ycB h1]; intro p hp
   rcases List.mem_append.1 hp with hp | hp
   ·exact hkk p hp
   ·simp at hp; subst hp; exact ⟨l,hk⟩
  ·refine stamped_push hs (fun x hx e => ?_)
   have:(x.key,x.val) ∈ L.map (fun p => (ek p.1,ev p.2)):=he ▸ List.mem_map.2 ⟨x,hx,rfl⟩
   obtain ⟨p,hp,e2⟩:=List.mem_map.1 this
   simp only [Prod.mk.injEq] at e2
   exact yc1.1 h1 p hp (hi _ _ (by rw [e2.1,e]))
 ·have g:(es.toList.map (fun e => (e.key,e.val)))[j]? = some (ek k,ev x):=by rw [he,List.getElem?_map,hj]; rfl
  rw [List.getElem?_map,Option.map_eq_some_iff] at g
  obtain ⟨e0,he0,e2⟩:=g
  simp only [Prod.mk.injEq] at e2
  have he1:es[j]? = some e0:=by rw [← Array.getElem?_toList]; exact he0
  refine ⟨.map (es.modify j fun e => { e with key:=ek k,val:=ev v }) clock,?_,_,_,yb0 hb,?_,?_,?_⟩
  ·simp [Instr.mapUpdate,run_underlying ht,MapKept.run_getObj_map hb,K.check w _ hk,h2,Result.andThen,MapKept.run_setObj_map _ hb,setBlock,he1,e2.1,K.stays w hk]
  ·rw [ygL hn hj,yn7 he1,he,List.map_set]
  ·rw [ygL hn hj]; intro p hp
   rcases List.mem_or_eq_of_mem_set hp with hp | rfl
   ·exact hkk p hp
   ·exact ⟨l,hk⟩
  ·exact stamped_modify hs _ _ (fun _ _ => rfl) (fun e' _ he' => by rw [he1] at he'; cases he'; exact e2.1.symm)
theorem yaS.delete {T e:TypeId} (h:yaS P t ek ev w b L) (K:Keyed P t) (hi:∀ a b,ek a = ek b → a = b) (ht:P.underlying T = some (.map t e)) {k:κ} {l:Lit} (hk:keyOf P t (ek k) = some l) (ty:TypeId) :
  ∃ o,(Builtin.delete_ #[T,t] ty #[.map (some b),ek k]).run P w = .ok (.tuple #[]) (setBlock w b o) ∧ yaS P t ek ev (setBlock w b o) b (del L k):=by
 have hn:=h.nodup
 obtain ⟨es,clock,hb,he,hkk,hs⟩:=id h
 rcases h.find K hi hb hk w with ⟨h1,h2⟩ | ⟨j,x,h1,hj,h2⟩
 ·refine ⟨.map es clock,?_,_,_,yb0 hb,?_,?_,hs⟩
  ·simp [Builtin.delete_,run_underlying ht,MapKept.run_getObj_map hb,K.check w _ hk,h2,Result.andThen,MapKept.run_setObj_map _ hb,setBlock]
  ·rw [yhW h1,he]
  ·rw [yhW h1]; exact hkk
 ·refine ⟨.map (es.eraseIdxIfInBounds j) clock,?_,_,_,yb0 hb,?_,?_,stamped_erase hs j⟩
  ·simp [Builtin.delete_,run_underlying ht,MapKept.run_getObj_map hb,K.check w _ hk,h2,Result.andThen,MapKept.run_setObj_map _ hb,setBlock]
  ·have hl:j < es.size:=by
    have:=(List.getElem?_eq_some_iff.1 hj).1
    have e3:=congrArg List.length he
    simp at e3; omega
   rw [ysL hn hj,Go.ChangeMaps.map_eraseIdx,← he,← Go.ChangeMaps.map_eraseIdx]
   simp [Array.eraseIdxIfInBounds,hl]
  ·rw [ysL hn hj]; exact fun p hp => hkk p (List.mem_of_mem_eraseIdx hp)
theorem yaS.len {T e:TypeId} (h:yaS P t ek ev w b L) (ht:P.underlying T = some (.map t e)) (ty:TypeId):(Builtin.len_ #[T] ty #[.map (some b)]).run P w = .ok (.int .i64 L.length) w:=by
 obtain ⟨es,clock,hb,he,_⟩:=h
 have e3:=congrArg List.length he
 simp at e3
 simp [Builtin.len_,run_underlying ht,MapKept.run_getObj_map hb,Result.andThen,goInt,e3]
end
end Go.Proofs.YteldhjiiocmicaaGreat
namespace Go.Proofs.YteldhjiiocmicaaGreat
open Go Go.RowKit
set_option linter.all false
theorem yaM {w:World} {b i:Nat} {c:Array Value} {T:TypeId} {z:Nat × Nat} (h:w.heap[b]? = some (.cells c T z)):w.cell? ⟨b,i,none⟩ = c[i]?:=by
 simp [World.cell?,h]
theorem yBT {w:World} {b i:Nat} {c:Array Value} {T:TypeId} (h:w.heap[b]? = some (.cells c T)):w.frozen? ⟨b,i,none⟩ = false:=by
 simp [World.frozen?,h]
theorem yaK {k:IntKind} {w:World} {a:Addr} {x:Int} {F:Int → Prop} (h:w.cell? a = some (.int k x)) (hF:F x):ya1 k w a F:=by
 unfold ya1; rw [h]; exact ⟨rfl,hF⟩
theorem ybI {w:World} {a:Addr} {x:Bool} {F:Bool → Prop} (h:w.cell? a = some (.bool x)) (hF:F x):yb9 w a F:=by
 unfold yb9; rw [h]; exact hF
theorem yaL {w:World} {a:Addr} {x:ByteArray} {F:ByteArray → Prop} (h:w.cell? a = some (.string x)) (hF:F x):ya7 w a F:=by
 unfold ya7; rw [h]; exact hF
theorem ydA {w:World} {a:Addr} {x:Option Addr} {F:Option Addr → Prop} (h:w.cell? a = some (.pointer x)) (hF:F x):ygI w a F:=by
 unfold ygI; rw [h]; exact hF
theorem yb2 {w:World} {a:Addr} {x:Option Nat} {F:Option Nat → Prop} (h:w.cell? a = some (.map x)) (hF:F x):yd4 w a F:=by
 unfold yd4; rw [h]; exact hF
theorem yaU {w:World} {a:Addr} {x:Option Addr} {n c:Nat} {F:Option Addr → Nat → Nat → Prop} (h:w.cell? a = some (.slice x n c)) (hF:F x n c):ya2 w a F:=by
 unfold ya2; rw [h]; exact hF
theorem yiP {k:IntKind} {w:World} {b i:Nat} {c:Array Value} {T:TypeId} {z:Nat × Nat} {x:Int} {F:Int → Prop} (h:w.heap[b]? = some (.cells c T z)) (hc:c[i]? = some (.int k x)) (hF:F x):ya1 k w ⟨b,i,none⟩ F :=
 yaK ((yaM h).trans hc) hF
theorem yl0 {w:World} {b i:Nat} {c:Array Value} {T:TypeId} {z:Nat × Nat} {x:Bool} {F:Bool → Prop} (h:w.heap[b]? = some (.cells c T z)) (hc:c[i]? = some (.bool x)) (hF:F x):yb9 w ⟨b,i,none⟩ F :=
 ybI ((yaM h).trans hc) hF
theorem yET {w:World} {b i:Nat} {c:Array Value} {T:TypeId} {z:Nat × Nat} {x:ByteArray} {F:ByteArray → Prop} (h:w.heap[b]? = some (.cells c T z)) (hc:c[i]? = some (.string x)) (hF:F x):ya7 w ⟨b,i,none⟩ F :=
 yaL ((yaM h).trans hc) hF
theorem ydR {w:World} {b i:Nat} {c:Array Value} {T:TypeId} {z:Nat × Nat} {x:Option Addr} {n q:Nat} {F:Option Addr → Nat → Nat → Prop} (h:w.heap[b]? = some (.cells c T z)) (hc:c[i]? = some (.slice x n q)) (hF:F x n q):ya2 w ⟨b,i,none⟩ F :=
 yaU ((yaM h).trans hc) hF
theorem yd6 {w:World} {o:Obj} {F:Nat → World → Prop} (h:∀ b w',w'.heap[b]? = some o → Mod [] w w' → w.heap.size ≤ b → F b w'):al w o F :=
 h _ _ (MapKept.heap_alloc w o).1 (Mod.of_below ((Below.refl _ _).alloc (Nat.le_refl _) _)) (Nat.le_refl _)
theorem ysM {w:World} {b i:Nat} {c:Array Value} {T:TypeId} {z:Nat × Nat} {v:Value} (h:w.heap[b]? = some (.cells c T z)):(w.setCell ⟨b,i,none⟩ v).heap[b]? = some (.cells (c.setIfInBounds i v) T z):=by
 simp [World.setCell,Array.getElem?_modify,h]
theorem yu5 (w:World) (a:Addr) (v:Value):Mod [a.block] w (w.setCell a v) :=
 ⟨rfl,rfl,rfl,by simp [World.setCell],fun k hk hS => Below.heap_setCell w a v k (by simpa using hS)⟩
def ybJ (c:Array Value) (i:Nat):List Value → Array Value
 | [] => c
 | v :: r => ybJ (c.setIfInBounds i v) (i + 1) r
theorem ykU:∀ (vs:List Value) (c:Array Value) (i:Nat),(ybJ c i vs).size = c.size
 | [],_,_ => rfl
 | v :: r,c,i => by simp [ybJ,ykU r]
theorem yF4 {w:World} {b o:Nat} {T:TypeId} {F:World → Prop}:∀ {vs:List Value} {i:Nat} {c:Array Value} {w0:World},w0.heap[b]? = some (.cells c T) → vs.all yhH = true → o + i + vs.length ≤ c.size →
  Mod [b] w w0 → (∀ w',w'.heap[b]? = some (.cells (ybJ c (o + i) vs) T) → Mod [b] w w' → F w') → stC w0 ⟨b,o,none⟩ i vs F
 | [],i,c,w0,h,_,_,hm,hF => hF w0 h hm
 | v :: r,i,c,w0,h,hl,hs,hm,hF => by
  have ha:(⟨b,o,none⟩:Addr).add i = ⟨b,o + i,none⟩:=by
   unfold Addr.add; split
   ·rename_i h0; subst h0; rfl
   ·rfl
  simp only [List.all_cons,Bool.and_eq_true] at hl
  simp only [List.length_cons] at hs
  refine ⟨hl.1,?_,?_,?_⟩
  ·rw [ha,yaM h]; simp; omega
  ·rw [ha,yBT h]
  ·rw [ha]
   refine yF4 (w:=w) (c:=c.setIfInBounds (o + i) v) (i:=i + 1) (ysM h) hl.2 (by simp; omega) ?_ ?_
   ·exact (hm.trans (yu5 w0 _ v)).less (fun k hk _ => by simpa using hk)
   ·intro w' h1 h2; exact hF w' (by simpa [ybJ,Nat.add_assoc] using h1) h2
theorem yeY {w:World} {b o:Nat} {c:Array Value} {T:TypeId} {vs:List Value} {F:World → Prop} (h:w.heap[b]? = some (.cells c T)) (hl:vs.all yhH = true) (hs:o + vs.length ≤ c.size)
  (hF:∀ w',w'.heap[b]? = some (.cells (ybJ c o vs) T) → Mod [b] w w' → F w'):st w ⟨b,o,none⟩ vs F :=
 yF4 (i:=0) h hl (by omega) ((Mod.refl w).less (by simp)) (by simpa using hF)
def ybF {α:Type} (w:World) (sz:Nat) (enc:α → List Value) (a:Option Addr) (n:Nat) (l:List α):Prop :=
 n = l.length ∧ ∀ i x,l[i]? = some x → ∃ ad,a = some ad ∧ ∀ j v,(enc x)[j]? = some v → w.cell? ((ad.add (i * sz)).add j) = some v
theorem ybF.keep {α:Type} {w w':World} {sz:Nat} {enc:α → List Value} {a:Option Addr} {n:Nat} {l:List α} {S:List Nat} (h:ybF w sz enc a n l) (hm:Mod S w w') (hS:∀ ad,a = some ad → ad.block ∉ S):ybF w' sz enc a n l :=
 ⟨h.1,fun i x hx => by
  obtain ⟨ad,ha,hc⟩:=h.2 i x hx
  refine ⟨ad,ha,fun j v hv => ?_⟩
  have h1:=hc j v hv
  have hb:=yiI h1
  have e:((ad.add (i * sz)).add j).block = ad.block:=by simp only [Addr.add]; split <;> split <;> rfl
  rw [hm.cell hb (by rw [e]; exact hS ad ha)]
  exact h1⟩
theorem ybF.keep0 {α:Type} {w w':World} {sz:Nat} {enc:α → List Value} {a:Option Addr} {n:Nat} {l:List α} (h:ybF w sz enc a n l) (hm:Mod [] w w'):ybF w' sz enc a n l:=h.keep hm (by simp)
theorem add_zero (a:Addr):a.add 0 = a:=by simp [Addr.add]
theorem ybF.ix {α:Type} {w:World} {sz:Nat} {enc:α → List Value} {a:Option Addr} {n:Nat} {l:List α} {i:Nat} {x:α} {F:Addr → Prop} (h:ybF w sz enc a n l) (hx:l[i]? = some x)
  (hF:∀ q,(∀ j v,(enc x)[j]? = some v → w.cell? (q.add j) = some v) → F q):ixA a n (i:Int) sz F:=by
 obtain ⟨ad,ha,hc⟩:=h.2 i x hx
 have hl:=(List.getElem?_eq_some_iff.1 hx).1
 exact ⟨ad,ha,by omega,by rw [h.1]; omega,hF _ (by simpa using hc)⟩
def Row {α:Type} (w:World) (base T sz:Nat) (enc:α → List Value) (a:Option Addr) (n c:Nat) (l:List α):Prop :=
 n = l.length ∧ w.ownsRow base T sz (.slice a n c) n (l.flatMap enc)
theorem ycT {α:Type} {enc:α → List Value} {sz:Nat} (hs:∀ x,(enc x).length = sz):∀ (l:List α) (i j:Nat) (x:α),l[i]? = some x → j < sz → (l.flatMap enc)[i * sz + j]? = (enc x)[j]?
 | [],i,j,x,h,_ => by simp at h
 | y :: r,0,j,x,h,hj => by
  simp at h; subst h
  rw [List.flatMap_cons,Nat.zero_mul,Nat.zero_add,List.getElem?_append_left (by rw [hs]; exact hj)]
 | y :: r,i + 1,j,x,h,hj => by
  rw [List.flatMap_cons,List.getElem?_append_right (by rw [hs,Nat.add_mul]; omega),hs]
  rw [show (i + 1) * sz + j - sz = i * sz + j by rw [Nat.add_mul]; omega]
  exact ycT hs r i j x (by simpa using h) hj
theorem Row.sl {α:Type} {w:World} {base T sz:Nat} {enc:α → List Value} {a:Option Addr} {n c:Nat} {l:List α} (h:Row w base T sz enc a n c l) (hs:∀ x,(enc x).length = sz):ybF w sz enc a n l:=by
 obtain ⟨hn,hl,ho⟩:=h
 refine ⟨hn,fun i x hx => ?_⟩
 have hil:=(List.getElem?_eq_some_iff.1 hx).1
 rcases ho with ⟨_,h0⟩ | ⟨g,cap,cur,hv,_,hh,_,_,hc,ht⟩
 ·omega
 ·simp only [Value.slice.injEq] at hv
  refine ⟨_,hv.1,fun j v hv' => ?_⟩
  have hj:j < sz:=by rw [← hs x]; exact (List.getElem?_eq_some_iff.1 hv').1
  have e:((⟨g,0,none⟩:Addr).add (i * sz)).add j = ⟨g,i * sz + j,none⟩:=by
   simp only [Addr.add]
   by_cases h1:i * sz = 0 <;> by_cases h2:j = 0 <;> simp [h1,h2]
  rw [e,yaM hh]
  have hg:=ycT hs l i j x hx hj
  rw [← ht,hv',List.getElem?_take] at hg
  split at hg
  ·rw [← Array.getElem?_toList]; exact hg
  ·cases hg
theorem Row.keep {α:Type} {w w':World} {base T sz:Nat} {enc:α → List Value} {a:Option Addr} {n c:Nat} {l:List α} {S:List Nat} (h:Row w base T sz enc a n c l) (hm:Mod S w w') (hS:∀ ad,a = some ad → ad.block ∉ S):Row w' base T sz enc a n c l:=by
 obtain ⟨hn,hl,ho⟩:=h
 refine ⟨hn,hl,?_⟩
 rcases ho with ho | ⟨g,cap,cur,hv,hb,hh,r⟩
 ·exact .inl ho
 ·refine .inr ⟨g,cap,cur,hv,hb,hm.keep hh ?_,r⟩
  simp only [Value.slice.injEq] at hv
  exact hS _ hv.1
theorem Row.keep0 {α:Type} {w w':World} {base T sz:Nat} {enc:α → List Value} {a:Option Addr} {n c:Nat} {l:List α} (h:Row w base T sz enc a n c l) (hm:Mod [] w w'):Row w' base T sz enc a n c l:=h.keep hm (by simp)
theorem Row.base {α:Type} {w:World} {base T sz:Nat} {enc:α → List Value} {a:Option Addr} {n c:Nat} {l:List α} (h:Row w base T sz enc a n c l):∀ ad,a = some ad → base ≤ ad.block:=by
 intro ad ha
 obtain ⟨hn,hl,ho⟩:=h
 rcases ho with ⟨ho,_⟩ | ⟨g,cap,cur,hv,hb,hh,r⟩
 ·simp only [Value.slice.injEq] at ho; rw [ho.1] at ha; cases ha
 ·simp only [Value.slice.injEq] at hv; rw [hv.1] at ha; cases ha; exact hb
theorem Row.nil {α:Type} (w:World) (base T sz:Nat) (enc:α → List Value):Row w base T sz enc none 0 0 []:=⟨rfl,by simp,.inl ⟨rfl,rfl⟩⟩
theorem yl1 {α:Type} {P:Program} {w:World} {base T S sz bytes:Nat} {enc:α → List Value} {a:Option Addr} {n c:Nat} {l:List α} {i:TypeInfo} {z:Value} {ty:TypeId} {F:Option Addr → Nat → Nat → World → Prop}
  (h:Row w base T sz enc a n c l) (ht:P.underlying S = some (.slice T)) (hi:P.info? T = some i) (hz:i.zero = some z) (hsize:i.size = sz) (hby:i.bytes = bytes) (hzs:z.cells.size = sz) (hsz:0 < sz)
  {b:Nat} {x:α} {T':TypeId} (hb:w.heap[b]? = some (.cells (enc x).toArray T')) (hx:(enc x).length = sz) (hone:∀ u ∈ enc x,u.oneCell' = true) (hlen:(l.length + 1) * bytes ≤ 140737488355328) (hl2:l.length + 1 ≤ maxLen) (hbase:base ≤ w.heap.size)
  (hF:∀ a' c' w',Row w' base T sz enc a' (n + 1) c' (l ++ [x]) → (∀ X,(∀ ad,a = some ad → ad.block ∈ X) → Mod X w w') → F a' (n + 1) c' w') :
  ybC P (Builtin.append_ #[S,S] ty #[.slice a n c,.slice (some ⟨b,0,none⟩) 1 1]) w F:=by
 obtain ⟨hn,ho⟩:=h
 obtain ⟨v',w',h1,h2,h3,_⟩:=run_append_own w base S ty T i z sz bytes ht hi hz hsize hby hzs hsz (.slice a n c) n (l.flatMap enc) ho ⟨b,0,none⟩ 1 1 (enc x) (by rw [hx]; omega)
  (fun j u hu => by
   have e:(⟨b,0,none⟩:Addr).add j = ⟨b,j,none⟩:=by
    simp only [Addr.add]; split
    ·rename_i h0; subst h0; rfl
    ·simp
   rw [e,yaM hb]; simpa using hu) hone (by rw [hn]; exact hl2) (by rw [hn]; exact hlen) hbase
 have hv:∃ a' c',v' = .slice a' (n + 1) c':=by
  rcases h2.2 with ⟨e1,e2⟩ | ⟨g,cap,cur,e1,_⟩
  ·exact ⟨none,0,by rw [e1]; omega⟩
  ·exact ⟨_,_,e1⟩
 obtain ⟨a',c',rfl⟩:=hv
 refine ⟨a',n + 1,c',w',h1,hF a' c' w' ⟨by simp [hn],by simpa using h2⟩ fun X hX => ⟨h3.os,h3.tape,h3.output,h3.size,fun k hk hkX => h3.block k hk fun e => hkX ?_⟩⟩
 cases a with
 | none => simp [Value.ownBlock] at e
 | some ad => simp [Value.ownBlock] at e; subst e; exact hX ad rfl
theorem yaI {x:Int} (h1:-9223372036854775808 ≤ x) (h2:x ≤ 9223372036854775807):IntKind.wrap .i64 x = x:=by
 rw [IntKind.wrap_i64]; omega
def yBU (P:Program) (ops:Array Oper):List Nat → Option (List Nat × Nat × List Nat)
 | [] => none
 | i :: r => match ops[i]? with
  | none => none
  | some o => match ycA P o with
   | true => match yBU P ops r with
    | some (X,c,Y) => some (i :: X,c,Y)
    | none => none
   | false => some ([],i,r)
def yJg (P:Program) (ops:Array Oper) (L:List Nat):Option (List Nat × Nat × List Nat × Nat × List Nat):=match yBU P ops L with
 | none => none
 | some (X,c,R) => match yBU P ops R with
  | none => none
  | some (Z,a,Y) => some (X,c,Z,a,Y)
def yk9 (ops:Array Oper) (x y:Nat):Bool:=match ops[x]? with
 | some o => !(yiO o y)
 | none => false
def yn8 (P:Program) (ops:Array Oper) (x:Nat):Bool:=match ops[x]? with
 | some o => ycA P o
 | none => false
def yHs (P:Program) (ops:Array Oper) (X:List Nat) (c:Nat) (Z:List Nat) (a:Nat) (Y:List Nat):Bool :=
 yz1 ops.size (X ++ c :: (Z ++ a :: Y)) && yb3 P ops (clo ops) (X ++ (Z ++ a :: Y)) && yb3 P ops (clo ops) (X ++ c :: (Z ++ Y)) && (X ++ c :: (Z ++ a :: Y)).all (yBQ ops) && X.all (yn8 P ops) && yk9 ops c a && yk9 ops a c && (Z ++ Y).all (fun y => ygH (clo ops) y c)
theorem ybR.det {P:Program} {ops:Array Oper} {o:Oper} {u v:Value} {a:Act} {w:World} (h:ybR P ops o u a w) (k:ybR P ops o v a w):u = v:=by
 rcases h with ⟨h1,h2⟩ | ⟨h1,h2⟩ <;> rcases k with ⟨k1,k2⟩ | ⟨k1,k2⟩
 ·have e1:=h2 w (fun _ => Mod.refl w)
  have e2:=k2 w (fun _ => Mod.refl w)
  rw [e1] at e2
  simpa using e2
 ·rw [h1] at k1; cases k1
 ·rw [h1] at k1; cases k1
 ·rw [h2,k2]
structure Left (ops:Array Oper) (listed:Array Bool) (L:List Nat):Prop where
 size:listed.size = ops.size
 nd:L.Nodup
 iff:∀ i,i < ops.size → (listed.getD i true = false ↔ i ∈ L)
 lt:∀ i ∈ L,i < ops.size
 one:∀ x ∈ L,yBQ ops x = true
 clo:∀ x o,x ∉ L → ops[x]? = some o → ∀ e ∈ o.after,Region.binds .any e = true → e.on ∉ L
theorem Left.next {ops:Array Oper} {listed:Array Bool} {L R:List Nat} {i:Nat} {o:Oper} (h:Left ops listed L) (hi:i ∈ L) (ho:ops[i]? = some o) (hedge:∀ e ∈ o.after,Region.binds .any e = true → e.on ∉ L) (hR:R.Nodup) (hm:∀ x,x ∈ R ↔ x ∈ L ∧ x ≠ i):Left ops (listed.setIfInBounds i true) R:=by
 refine ⟨by simp [h.size],hR,fun k hk => ?_,fun x hx => h.lt x ((hm x).1 hx).1,fun x hx => h.one x ((hm x).1 hx).1,fun x o' hx ho' e he hb hmm => ?_⟩
 ·by_cases hki:k = i
  ·subst hki
   constructor
   ·intro hf; simp [Array.getD,h.size,hk] at hf
   ·intro hmm; exact absurd rfl ((hm k).1 hmm).2
  ·have e1:(listed.setIfInBounds i true).getD k true = listed.getD k true:=by
    simp [Array.getD,h.size,hk,Array.getElem_setIfInBounds,Ne.symm hki]
   rw [e1,h.iff k hk,hm]
   exact ⟨fun h => ⟨h,hki⟩,fun h => h.1⟩
 ·by_cases hxi:x = i
  ·subst hxi
   rw [ho] at ho'; cases ho'
   exact hedge e he hb ((hm _).1 hmm).1
  ·exact h.clo x o' (fun hxL => hx ((hm x).2 ⟨hxL,hxi⟩)) ho' e he hb ((hm _).1 hmm).1
theorem Left.sound {P:Program} {ops:Array Oper} {Q:Exit → Act → World → Prop} {n:Nat} {L:List Nat} {listed:Array Bool} {a:Act} {w:World} (h:Left ops listed L) (hn:L.length = n) (hp:yb3 P ops (Go.Proofs.YteldhjiiocmicaaGreat.clo ops) L = true) (hv:ycZ P ops (Go.Proofs.YteldhjiiocmicaaGreat.clo ops) (Q .normal) L [] a w):wpAny P .any ops Q n listed a w :=
 yhV n hn h.size h.nd h.iff h.lt hp h.one h.clo hv
theorem Left.ready {ops:Array Oper} {listed:Array Bool} {L:List Nat} (h:Left ops listed L) {x:Nat} {o:Oper} (hx:x ∈ L) (ho:ops[x]? = some o) (hne:∀ y ∈ L,y ≠ x → yiO o y = false):x ∈ Region.ready .any ops listed:=by
 have h1x:=h.one x hx
 simp only [yBQ,ho,Bool.and_eq_true,Bool.not_eq_true'] at h1x
 unfold Region.ready
 rw [List.mem_filter]
 refine ⟨by simpa using h.lt x hx,?_⟩
 simp only [Bool.and_eq_true,Bool.not_eq_true',ho,Option.map_some,Option.getD_some]
 refine ⟨(h.iff x (h.lt x hx)).2 hx,?_⟩
 rw [Array.all_eq_true_iff_forall_mem]
 intro e he
 by_cases hb:Region.binds .any e = true
 ·have hlt':e.on < ops.size:=by
   have:=h1x.1.2
   rw [Array.all_eq_true_iff_forall_mem] at this
   have:=this e he
   simpa [hb] using this
  have edge:∀ y,e.on = y → yiO o y = true:=fun y hy => by
   unfold yiO
   rw [List.any_eq_true]
   exact ⟨e,by simpa using he,by simp [hb,hy]⟩
  have hnm:e.on ∉ L:=by
   intro hm
   by_cases hxe:e.on = x
   ·rw [edge _ hxe] at h1x; simp at h1x
   ·have:=hne _ hm hxe
    rw [edge _ rfl] at this; cases this
  have:listed.getD e.on true ≠ false:=fun hf => hnm ((h.iff _ hlt').1 hf)
  have hs:e.on < listed.size:=by rw [h.size]; exact hlt'
  simp only [hb,Bool.not_true,Bool.false_or]
  simp [Array.getD,hs] at this ⊢
  exact this
 ·simp [hb]
theorem ycH {P:Program} {ops:Array Oper} {m:List Nat} {x y:Nat} {o:Oper} (h:yhI P ops m x y = true) (ho:ops[x]? = some o):yiO o y = false:=by
 unfold yhI at h
 rw [ho] at h
 split at h
 ·rename_i ox oy e1 e2
  cases e1
  simp at h
  exact h.1.1
 ·cases h
theorem ybV {P:Program} {ops:Array Oper} {m:List Nat} {x:Nat} {L:List Nat} (h:yb3 P ops m (x :: L) = true):∀ y ∈ L,yhI P ops m x y = true:=by
 simp only [yb3,Bool.and_eq_true,List.all_eq_true] at h; exact h.1
theorem yl2 {ops:Array Oper} {x y:Nat} {o:Oper} (h:yk9 ops x y = true) (ho:ops[x]? = some o):yiO o y = false:=by
 unfold yk9 at h; rw [ho] at h; simpa using h
theorem yn9 {P:Program} {ops:Array Oper} {x:Nat} {o:Oper} (h:yn8 P ops x = true) (ho:ops[x]? = some o):ycA P o = true:=by
 unfold yn8 at h; rw [ho] at h; exact h
theorem yBV {P:Program} {ops:Array Oper} {Q:Exit → Act → World → Prop}:∀ (n:Nat) {X Z Y:List Nat} {c a:Nat} {listed:Array Bool} {act:Act} {w:World},(X ++ c :: (Z ++ a :: Y)).length = n → Left ops listed (X ++ c :: (Z ++ a :: Y)) →
  yb3 P ops (clo ops) (X ++ (Z ++ a :: Y)) = true → yb3 P ops (clo ops) (X ++ c :: (Z ++ Y)) = true → (∀ x ∈ X,yn8 P ops x = true) → yk9 ops c a = true → yk9 ops a c = true → (∀ y ∈ Z ++ Y,ygH (clo ops) y c = true) →
  ycZ P ops (clo ops) (Q .normal) (X ++ a :: c :: (Z ++ Y)) [] act w → ycZ P ops (clo ops) (Q .normal) (X ++ c :: (Z ++ a :: Y)) [] act w → wpAny P .any ops Q n listed act w:=by
 intro n
 induction n with
 | zero => intro X Z Y c a listed act w hn; simp at hn
 | succ n ih =>
  intro X Z Y c a listed act w hn hL hp1 hp2 hst he1 he2 hdep h1 h2
  refine ⟨fun hr => ?_,fun i hi => ?_⟩
  ·exfalso
   have key:∀ x ∈ (X ++ c :: (Z ++ a :: Y)),∀ o,ops[x]? = some o → (∀ y ∈ (X ++ c :: (Z ++ a :: Y)),y ≠ x → yiO o y = false) → False:=fun x hx o ho hne => by
    have:=hL.ready hx ho hne
    rw [hr] at this; cases this
   cases X with
   | nil =>
    have hc:=hL.lt c (by simp)
    obtain ⟨o,ho⟩:∃ o,ops[c]? = some o:=⟨ops[c],by simp [hc]⟩
    refine key c (by simp) o ho fun y hy hne => ?_
    simp at hy
    rcases hy with rfl | hy | rfl | hy
    ·exact absurd rfl hne
    ·exact ycH (ybV hp2 y (by simp [hy])) ho
    ·exact yl2 he1 ho
    ·exact ycH (ybV hp2 y (by simp [hy])) ho
   | cons x X =>
    have hc:=hL.lt x (by simp)
    obtain ⟨o,ho⟩:∃ o,ops[x]? = some o:=⟨ops[x],by simp [hc]⟩
    refine key x (by simp) o ho fun y hy hne => ?_
    simp at hy
    rcases hy with rfl | hy | rfl | hy | rfl | hy
    ·exact absurd rfl hne
    ·exact ycH (ybV hp2 y (by simp [hy])) ho
    ·exact ycH (ybV hp2 y (by simp)) ho
    ·exact ycH (ybV hp2 y (by simp [hy])) ho
    ·exact ycH (ybV hp1 y (by simp)) ho
    ·exact ycH (ybV hp2 y (by simp [hy])) ho
  ·have hi':=hi
   unfold Region.ready at hi
   rw [List.mem_filter] at hi
   obtain ⟨hi1,hi2⟩:=hi
   have hilt:i < ops.size:=by simpa using hi1
   obtain ⟨o,ho⟩:∃ o,ops[i]? = some o:=⟨ops[i],by simp [hilt]⟩
   simp only [Bool.and_eq_true,Bool.not_eq_true',ho,Option.map_some,Option.getD_some] at hi2
   have hiL:i ∈ X ++ c :: (Z ++ a :: Y):=(hL.iff i hilt).1 hi2.1
   have hedge:∀ e ∈ o.after,Region.binds .any e = true → e.on ∉ X ++ c :: (Z ++ a :: Y):=fun e he hb hm => by
    have h2:=hi2.2
    rw [Array.all_eq_true_iff_forall_mem] at h2
    have h2:=h2 e he
    simp only [hb,Bool.not_true,Bool.false_or] at h2
    have hlt':=hL.lt _ hm
    have:=(hL.iff _ hlt').2 hm
    have hs:e.on < listed.size:=by rw [hL.size]; exact hlt'
    simp [Array.getD,hs] at this h2
    rw [this] at h2
    cases h2
   have nodep:∀ q ∈ X ++ c :: (Z ++ a :: Y),ygH (clo ops) i q = false:=fun q hq => by
    cases hd:ygH (clo ops) i q with
    | false => rfl
    | true => exact absurd hq (ygK hL.clo (ylY hd) (fun o' ho' => by rw [ho] at ho'; cases ho'; exact hedge))
   have hsel:∀ x ∈ X ++ c :: (Z ++ a :: Y),∀ o,ops[x]? = some o → ∀ cs b,o.op ≠ .select cs b:=fun x hx o ho cs b e => by
    have:=hL.one x hx
    simp [yBQ,ho,e] at this
   have hq:∀ q ∈ X,yhI P ops (clo ops) q i = true → ∃ oq,ops[q]? = some oq ∧ ycA P oq = true ∧ oq.apart ops o = true ∧ ygH (clo ops) i q = false ∧ ∀ cs b,oq.op ≠ .select cs b:=fun q hq hp' => by
    have hd:=nodep q (by simp [hq])
    unfold yhI at hp'
    split at hp'
    ·rename_i ox oy e1 e2
     rw [ho] at e2; cases e2
     simp only [hd,Bool.or_false,Bool.and_eq_true] at hp'
     exact ⟨ox,e1,hp'.1.2,hp'.2,hd,hsel q (by simp [hq]) ox e1⟩
    ·cases hp'
   have hnd:=hL.nd
   have wpop:(match ycA P o with
     | true => ∃ v,ybR P ops o v act w ∧ wpAny P .any ops Q n (listed.setIfInBounds i true) (act.put o.dst v) w
     | false => (Region.wanted o (yielded ops act.tmps) = true → yjG P (execOp act.eval o) w fun v w' => wpAny P .any ops Q n (listed.setIfInBounds i true) (act.put o.dst v) w') ∧
      (Region.wanted o (yielded ops act.tmps) = false → wpAny P .any ops Q n (listed.setIfInBounds i true) (act.put o.dst undef) w)) → wpOp P ops Q i (wpAny P .any ops Q n (listed.setIfInBounds i true)) act w:=fun hf => by
    unfold wpOp
    simp only [ho]
    split at hf
    ·obtain ⟨v,hy,h'⟩:=hf
     rcases hy with ⟨hw,hr⟩ | ⟨hw,rfl⟩
     ·rw [if_pos hw]
      exact .inl (yfZ (K:=fun u w' => u = v ∧ w' = w) (ycS (hr w (fun _ => Mod.refl w)) ⟨rfl,rfl⟩) fun u w' ⟨e1,e2⟩ => by subst e1; subst e2; exact h')
     ·rw [if_neg (by rw [hw]; simp)]
      exact h'
    ·by_cases hw:Region.wanted o (yielded ops act.tmps) = true
     ·rw [if_pos hw]
      exact .inl (yfZ (hf.1 hw) fun v w' h' => h')
     ·have hw:Region.wanted o (yielded ops act.tmps) = false:=by simpa using hw
      rw [if_neg (by rw [hw]; simp)]
      exact hf.2 hw
   have fin:∀ {L2:List Nat},ycZ P ops (clo ops) (Q .normal) (X ++ i :: L2) [] act w → (∀ q ∈ X,yhI P ops (clo ops) q i = true) → (∀ a' w',ycZ P ops (clo ops) (Q .normal) (X ++ L2) [] a' w' → wpAny P .any ops Q n (listed.setIfInBounds i true) a' w') → wpOp P ops Q i (wpAny P .any ops Q n (listed.setIfInBounds i true)) act w:=fun {L2} h hp hk => by
    refine wpop ?_
    have hf:=ydP ho (hsel i hiL o ho) (fun q hq' => hq q hq' (hp q hq')) h
    split at hf
    ·rename_i hs
     try simp only [hs]
     obtain ⟨v,h1,h2⟩:=hf
     exact ⟨v,h1,hk _ _ h2⟩
    ·rename_i hs
     try simp only [hs]
     exact ⟨fun hw => ybD (hf.1 hw) fun v w' ⟨_,h⟩ => hk _ _ h,fun hw => hk _ _ (hf.2 hw)⟩
   have hmem:=hiL
   simp only [List.mem_append,List.mem_cons] at hmem
   have ndX:X.Nodup ∧ (∀ x ∈ X,x ≠ c ∧ x ≠ a ∧ x ∉ Z ∧ x ∉ Y) ∧ c ≠ a ∧ c ∉ Z ∧ c ∉ Y ∧ a ∉ Z ∧ a ∉ Y:=by
    have h:=List.nodup_append.1 hnd
    have h':=List.nodup_cons.1 h.2.1
    have h'':=List.nodup_append.1 h'.2
    have h3:=List.nodup_cons.1 h''.2.1
    refine ⟨h.1,fun x hx => ⟨fun e => h.2.2 x hx c (by simp) e,fun e => h.2.2 x hx a (by simp) e,fun hy => h.2.2 x hx x (by simp [hy]) rfl,fun hy => h.2.2 x hx x (by simp [hy]) rfl⟩,fun e => h'.1 (by simp [e]),fun hy => h'.1 (by simp [hy]),fun hy => h'.1 (by simp [hy]),fun hy => h''.2.2 a hy a (by simp) rfl,h3.1⟩
   obtain ⟨nX,nXo,nca,ncZ,ncY,naZ,naY⟩:=ndX
   rcases hmem with hX | rfl | hZ | rfl | hY
   ·
    obtain ⟨X1,X2,rfl⟩:=List.append_of_mem hX
    have hs:ycA P o = true:=yn9 (hst i (by simp)) ho
    have e1:∀ W:List Nat,X1 ++ i :: X2 ++ W = X1 ++ i :: (X2 ++ W):=fun W => by simp
    have hpq:∀ q ∈ X1,yhI P ops (clo ops) q i = true:=by rw [e1] at hp1; exact ybP hp1
    rw [e1] at h1 h2
    have f1:=ydP ho (hsel i hiL o ho) (fun q hq' => hq q (by simp [hq']) (hpq q hq')) h1
    have f2:=ydP ho (hsel i hiL o ho) (fun q hq' => hq q (by simp [hq']) (hpq q hq')) h2
    simp only [hs] at f1 f2
    obtain ⟨v1,y1,g1⟩:=f1
    obtain ⟨v2,y2,g2⟩:=f2
    have ev:=y1.det y2
    subst ev
    refine wpop ?_
    simp only [hs]
    rw [← List.append_assoc] at g1 g2
    refine ⟨v1,y1,ih (X:=X1 ++ X2) (by simp at hn ⊢; omega) ?_ ?_ ?_ (fun x hx => hst x (by simp at hx ⊢; rcases hx with hx | hx <;> simp [hx])) he1 he2 hdep g1 g2⟩
    ·refine hL.next hiL ho hedge ?_ fun x => ?_
     ·have:(X1 ++ X2 ++ c :: (Z ++ a :: Y)).Sublist (X1 ++ i :: X2 ++ c :: (Z ++ a :: Y)):=by
       rw [List.append_assoc,List.append_assoc]
       exact List.Sublist.append (List.Sublist.refl _) (by simp)
      exact hnd.sublist this
     ·have hni:i ∉ X1 ∧ i ∉ X2:=by
       have h:=List.nodup_append.1 nX
       have h':=List.nodup_cons.1 h.2.1
       exact ⟨fun hx => h.2.2 i hx i (by simp) rfl,h'.1⟩
      have hno:=nXo i (by simp)
      simp only [List.mem_append,List.mem_cons]
      constructor
      ·rintro ((h | h) | h | h | h | h)
       ·exact ⟨.inl (.inl h),fun e => hni.1 (e ▸ h)⟩
       ·exact ⟨.inl (.inr (.inr h)),fun e => hni.2 (e ▸ h)⟩
       ·exact ⟨.inr (.inl h),fun e => hno.1 (e.symm.trans h)⟩
       ·exact ⟨.inr (.inr (.inl h)),fun e => hno.2.2.1 (e ▸ h)⟩
       ·exact ⟨.inr (.inr (.inr (.inl h))),fun e => hno.2.1 (e.symm.trans h)⟩
       ·exact ⟨.inr (.inr (.inr (.inr h))),fun e => hno.2.2.2 (e ▸ h)⟩
      ·rintro ⟨(h | h | h) | h | h | h | h,hne⟩
       ·exact .inl (.inl h)
       ·exact absurd h hne
       ·exact .inl (.inr h)
       ·exact .inr (.inl h)
       ·exact .inr (.inr (.inl h))
       ·exact .inr (.inr (.inr (.inl h)))
       ·exact .inr (.inr (.inr (.inr h)))
    ·rw [e1] at hp1; have:=ydQ hp1; rwa [List.append_assoc]
    ·rw [e1] at hp2; have:=ydQ hp2; rwa [List.append_assoc]
   ·
    refine fin h2 (ybP hp2) fun a' w' h => ?_
    refine (hL.next hiL ho hedge (R:=X ++ (Z ++ a :: Y)) ?_ fun x => ?_).sound (by simp at hn ⊢; omega) hp1 h
    ·exact hnd.sublist (List.Sublist.append (List.Sublist.refl _) (List.sublist_cons_self _ _))
    ·simp only [List.mem_append,List.mem_cons]
     constructor
     ·rintro (h | h | h | h)
      ·exact ⟨.inl h,(nXo x h).1⟩
      ·exact ⟨.inr (.inr (.inl h)),fun e => ncZ (e ▸ h)⟩
      ·exact ⟨.inr (.inr (.inr (.inl h))),fun e => nca (e.symm.trans h)⟩
      ·exact ⟨.inr (.inr (.inr (.inr h))),fun e => ncY (e ▸ h)⟩
     ·rintro ⟨h | h | h | h | h,hne⟩
      ·exact .inl h
      ·exact absurd h hne
      ·exact .inr (.inl h)
      ·exact .inr (.inr (.inl h))
      ·exact .inr (.inr (.inr h))
   ·have:=hdep i (by simp [hZ])
    rw [nodep c (by simp)] at this; cases this
   ·refine fin h1 (fun q hq' => by rw [← List.append_assoc] at hp1; exact ybP hp1 q (by simp [hq'])) fun a' w' h => ?_
    refine (hL.next hiL ho hedge (R:=X ++ c :: (Z ++ Y)) ?_ fun x => ?_).sound (by simp at hn ⊢; omega) hp2 h
    ·exact hnd.sublist (List.Sublist.append (List.Sublist.refl _) (List.Sublist.cons_cons _ (List.Sublist.append (List.Sublist.refl _) (List.sublist_cons_self _ _))))
    ·simp only [List.mem_append,List.mem_cons]
     constructor
     ·rintro (h | h | h | h)
      ·exact ⟨.inl h,(nXo x h).2.1⟩
      ·exact ⟨.inr (.inl h),fun e => nca (h.symm.trans e)⟩
      ·exact ⟨.inr (.inr (.inl h)),fun e => naZ (e ▸ h)⟩
      ·exact ⟨.inr (.inr (.inr (.inr h))),fun e => naY (e ▸ h)⟩
     ·rintro ⟨h | h | h | h | h,hne⟩
      ·exact .inl h
      ·exact .inr (.inl h)
      ·exact .inr (.inr (.inl h))
      ·exact absurd h hne
      ·exact .inr (.inr (.inr h))
   ·have:=hdep i (by simp [hY])
    rw [nodep c (by simp)] at this; cases this
theorem ypU {P:Program} (hm:P.follows .mixedOrders = true) {id:Nat} {ops:Array Oper} {Q:Exit → Act → World → Prop} {act:Act} {w:World} {X Z Y:List Nat} {c a:Nat} (hL:yHs P ops X c Z a Y = true)
  (h1:∀ w1,Mod [] w w1 → ycZ P ops (clo ops) (Q .normal) (X ++ a :: c :: (Z ++ Y)) [] act w1) (h2:∀ w1,Mod [] w w1 → ycZ P ops (clo ops) (Q .normal) (X ++ c :: (Z ++ a :: Y)) [] act w1):(Code.region id ops true).wp P Q act w:=by
 simp only [yHs,yz1,Bool.and_eq_true,List.all_eq_true,decide_eq_true_eq,beq_iff_eq] at hL
 obtain ⟨⟨⟨⟨⟨⟨⟨⟨⟨⟨p1,p2⟩,p3⟩,p4⟩,q1⟩,q2⟩,q3⟩,q4⟩,q5⟩,q6⟩,q7⟩:=hL
 have hmem:∀ i,i < ops.size → i ∈ X ++ c :: (Z ++ a :: Y):=fun i hi => by simpa using p4 i (by simpa using hi)
 refine wp_region_any hm (yBV ops.size p1 ⟨by simp,p3,fun i hi => ?_,p2,q3,fun x o hx ho => ?_⟩ q1 q2 q4 q5 q6 q7 (h1 _ (Mod.drewN w 1)) (h2 _ (Mod.drewN w 1)))
 ·have:=hmem i hi
  have e:(Array.replicate ops.size false).getD i true = false:=by simp [hi]
  exact ⟨fun _ => this,fun _ => e⟩
 ·exact absurd (hmem x (Array.getElem?_eq_some_iff.1 ho).1) hx
theorem yl3 {P:Program} {ops:Array Oper} {Q:Exit → Act → World → Prop} {i:Nat} {o:Oper} {act:Act} {w:World} {T:Act → World → Prop} (ho:ops[i]? = some o)
  (hf:match ycA P o with
   | true => ∃ v,ybR P ops o v act w ∧ T (act.put o.dst v) w
   | false => (Region.wanted o (yielded ops act.tmps) = true → yjG P (execOp act.eval o) w fun v w' => T (act.put o.dst v) w') ∧ (Region.wanted o (yielded ops act.tmps) = false → T (act.put o.dst undef) w)):wpOp P ops Q i T act w:=by
 unfold wpOp
 simp only [ho]
 split at hf
 ·obtain ⟨v,hy,h'⟩:=hf
  rcases hy with ⟨hw,hr⟩ | ⟨hw,rfl⟩
  ·rw [if_pos hw]
   exact .inl (yfZ (K:=fun u w' => u = v ∧ w' = w) (ycS (hr w (fun _ => Mod.refl w)) ⟨rfl,rfl⟩) fun u w' ⟨e1,e2⟩ => by subst e1; subst e2; exact h')
  ·rw [if_neg (by rw [hw]; simp)]
   exact h'
 ·by_cases hw:Region.wanted o (yielded ops act.tmps) = true
  ·rw [if_pos hw]
   exact .inl (yfZ (hf.1 hw) fun v w' h' => h')
  ·have hw:Region.wanted o (yielded ops act.tmps) = false:=by simpa using hw
   rw [if_neg (by rw [hw]; simp)]
   exact hf.2 hw
theorem Left.of_ready {ops:Array Oper} {listed:Array Bool} {L:List Nat} (hL:Left ops listed L) {i:Nat} (hi:i ∈ Region.ready .any ops listed) :
  ∃ o,ops[i]? = some o ∧ i ∈ L ∧ (∀ e ∈ o.after,Region.binds .any e = true → e.on ∉ L) ∧ ∀ q ∈ L,ygH (Go.Proofs.YteldhjiiocmicaaGreat.clo ops) i q = false:=by
 unfold Region.ready at hi
 rw [List.mem_filter] at hi
 obtain ⟨hi1,hi2⟩:=hi
 have hilt:i < ops.size:=by simpa using hi1
 obtain ⟨o,ho⟩:∃ o,ops[i]? = some o:=⟨ops[i],by simp [hilt]⟩
 simp only [Bool.and_eq_true,Bool.not_eq_true',ho,Option.map_some,Option.getD_some] at hi2
 have hiL:i ∈ L:=(hL.iff i hilt).1 hi2.1
 have hedge:∀ e ∈ o.after,Region.binds .any e = true → e.on ∉ L:=fun e he hb hm => by
  have h2:=hi2.2
  rw [Array.all_eq_true_iff_forall_mem] at h2
  have h2:=h2 e he
  simp only [hb,Bool.not_true,Bool.false_or] at h2
  have hlt':=hL.lt _ hm
  have:=(hL.iff _ hlt').2 hm
  have hs:e.on < listed.size:=by rw [hL.size]; exact hlt'
  simp [Array.getD,hs] at this h2
  rw [this] at h2
  cases h2
 refine ⟨o,ho,hiL,hedge,fun q hq => ?_⟩
 cases hd:ygH (Go.Proofs.YteldhjiiocmicaaGreat.clo ops) i q with
 | false => rfl
 | true => exact absurd hq (ygK hL.clo (ylY hd) (fun o' ho' => by rw [ho] at ho'; cases ho'; exact hedge))
theorem Left.sel {ops:Array Oper} {listed:Array Bool} {L:List Nat} (hL:Left ops listed L) {x:Nat} (hx:x ∈ L) {o:Oper} (ho:ops[x]? = some o):∀ cs b,o.op ≠ .select cs b:=fun cs b e => by
 have:=hL.one x hx
 simp [yBQ,ho,e] at this
theorem Left.pass {P:Program} {ops:Array Oper} {listed:Array Bool} {L:List Nat} (hL:Left ops listed L) {i:Nat} {o:Oper} (ho:ops[i]? = some o) (hd:∀ q ∈ L,ygH (Go.Proofs.YteldhjiiocmicaaGreat.clo ops) i q = false) {q:Nat} (hq:q ∈ L) (hp:yhI P ops (Go.Proofs.YteldhjiiocmicaaGreat.clo ops) q i = true) :
  ∃ oq,ops[q]? = some oq ∧ ycA P oq = true ∧ oq.apart ops o = true ∧ ygH (Go.Proofs.YteldhjiiocmicaaGreat.clo ops) i q = false ∧ ∀ cs b,oq.op ≠ .select cs b:=by
 have hd:=hd q hq
 unfold yhI at hp
 split at hp
 ·rename_i ox oy e1 e2
  rw [ho] at e2; cases e2
  simp only [hd,Bool.or_false,Bool.and_eq_true] at hp
  exact ⟨ox,e1,hp.1.2,hp.2,hd,hL.sel hq e1⟩
 ·cases hp
theorem Left.take {ops:Array Oper} {listed:Array Bool} {A B:List Nat} {i:Nat} {o:Oper} (hL:Left ops listed (A ++ i :: B)) (ho:ops[i]? = some o) (hedge:∀ e ∈ o.after,Region.binds .any e = true → e.on ∉ A ++ i :: B):Left ops (listed.setIfInBounds i true) (A ++ B):=by
 have hnd:=hL.nd
 have h1:=List.nodup_append.1 hnd
 have h2:=List.nodup_cons.1 h1.2.1
 refine hL.next (by simp) ho hedge (hnd.sublist (List.Sublist.append (List.Sublist.refl _) (List.sublist_cons_self _ _))) fun x => ?_
 simp only [List.mem_append,List.mem_cons]
 constructor
 ·rintro (h | h)
  ·exact ⟨.inl h,fun e => h1.2.2 x h i (by simp) e⟩
  ·exact ⟨.inr (.inr h),fun e => h2.1 (e ▸ h)⟩
 ·rintro ⟨h | h | h,hne⟩
  ·exact .inl h
  ·exact absurd h hne
  ·exact .inr h
theorem yBW {P:Program} {ops:Array Oper} {Q:Exit → Act → World → Prop} {R:List Nat}:∀ (n:Nat) {X:List Nat} {listed:Array Bool} {act:Act} {w:World},X.length = n → Left ops listed (X ++ R) → yb3 P ops (clo ops) X = true →
  (∀ x ∈ X,∀ y ∈ R,yk9 ops x y = true ∧ ygH (clo ops) y x = true) → ycZ P ops (clo ops) (fun a w => ∀ listed,Left ops listed R → wpAny P .any ops Q R.length listed a w) X [] act w → wpAny P .any ops Q (n + R.length) listed act w:=by
 intro n
 induction n with
 | zero =>
  intro X listed act w hn hL hp hd h
  have:X = []:=List.length_eq_zero_iff.1 hn
  subst this
  rw [Nat.zero_add]
  exact h listed (by simpa using hL)
 | succ n ih =>
  intro X listed act w hn hL hp hd h
  rw [Nat.succ_add]
  refine ⟨fun hr => ?_,fun i hi => ?_⟩
  ·exfalso
   cases X with
   | nil => simp at hn
   | cons x X =>
    obtain ⟨o,ho⟩:∃ o,ops[x]? = some o:=⟨ops[x]'(hL.lt x (by simp)),by simp [hL.lt x (by simp)]⟩
    have:=hL.ready (x:=x) (by simp) ho fun y hy hne => ?_
    ·rw [hr] at this; cases this
    ·simp at hy
     rcases hy with rfl | hy | hy
     ·exact absurd rfl hne
     ·exact ycH (ybV hp y hy) ho
     ·exact yl2 (hd x (by simp) y hy).1 ho
  ·obtain ⟨o,ho,hiL,hedge,nodep⟩:=hL.of_ready hi
   rcases List.mem_append.1 hiL with hX | hR
   ·obtain ⟨X1,X2,rfl⟩:=List.append_of_mem hX
    have hf:=ydP ho (hL.sel hiL ho) (fun q hq => hL.pass ho nodep (by simp [hq]) (ybP hp q hq)) h
    have hL':Left ops (listed.setIfInBounds i true) ((X1 ++ X2) ++ R):=by
     have:Left ops listed (X1 ++ i :: (X2 ++ R)):=by simpa using hL
     have:=this.take ho (by simpa using hedge)
     simpa using this
    have on:∀ a' w',ycZ P ops (clo ops) (fun a w => ∀ listed,Left ops listed R → wpAny P .any ops Q R.length listed a w) (X1 ++ X2) [] a' w' → wpAny P .any ops Q (n + R.length) (listed.setIfInBounds i true) a' w':=fun a' w' h' =>
     ih (by simp at hn ⊢; omega) hL' (ydQ hp) (fun x hx y hy => hd x (by simp at hx ⊢; rcases hx with hx | hx <;> simp [hx]) y hy) h'
    refine yl3 ho ?_
    split at hf
    ·rename_i hs
     try simp only [hs]
     obtain ⟨v,h1,h2⟩:=hf
     exact ⟨v,h1,on _ _ h2⟩
    ·rename_i hs
     try simp only [hs]
     exact ⟨fun hw => ybD (hf.1 hw) fun v w' ⟨_,h⟩ => on _ _ h,fun hw => on _ _ (hf.2 hw)⟩
   ·cases X with
    | nil => simp at hn
    | cons x X =>
     have:=(hd x (by simp) i hR).2
     rw [nodep x (by simp)] at this; cases this
theorem yg6 {P:Program} {ops:Array Oper} {m:List Nat} {Q Q':Act → World → Prop} (hQ:∀ a w,Q a w → Q' a w):∀ {L:List Nat} {Γ:yhJ} {a:Act} {w:World},ycZ P ops m Q L Γ a w → ycZ P ops m Q' L Γ a w
 | [],_,_,_,h => hQ _ _ h
 | i :: L,Γ,a,w,h => by
  obtain ⟨o,ho,h⟩:=h
  refine ⟨o,ho,?_⟩
  split at h
  ·obtain ⟨v,h1,h2⟩:=h
   exact ⟨v,h1,yg6 hQ h2⟩
  ·exact ⟨fun hw => ybD (h.1 hw) fun v w' ⟨h1,h2⟩ => ⟨h1,yg6 hQ h2⟩,fun hw => yg6 hQ (h.2 hw)⟩
def yd7 (P:Program) (ops:Array Oper) (m:List Nat) (Q:yhJ → Act → World → Prop):List Nat → yhJ → Act → World → Prop
 | [],Γ,a,w => Q Γ a w
 | i :: L,Γ,a,w => ∃ o,ops[i]? = some o ∧ match ycA P o with
  | true => ∃ v,ybR P ops o v a w ∧ yd7 P ops m Q L ((i,a,v) :: Γ) (a.put o.dst v) w
  | false => (Region.wanted o (yielded ops a.tmps) = true → yjG P (execOp a.eval o) w fun v w' => Obl P ops m i Γ w' ∧ yd7 P ops m Q L (sift m i Γ) (a.put o.dst v) w') ∧
   (Region.wanted o (yielded ops a.tmps) = false → yd7 P ops m Q L Γ (a.put o.dst undef) w)
theorem ydS {P:Program} {ops:Array Oper} {m:List Nat} {Q:yhJ → Act → World → Prop} (hQ:∀ Γ Γ' a w,Q Γ a w → ypT P ops Γ' Γ → Q Γ' a w):∀ {L:List Nat} {Γ Γ':yhJ} {a:Act} {w:World},yd7 P ops m Q L Γ a w → ypT P ops Γ' Γ → yd7 P ops m Q L Γ' a w
 | [],_,_,_,_,h,hl => hQ _ _ _ _ h hl
 | i :: L,Γ,Γ',a,w,h,hl => by
  obtain ⟨o,ho,h⟩:=h
  refine ⟨o,ho,?_⟩
  split at h
  ·obtain ⟨v,h1,h2⟩:=h
   exact ⟨v,h1,ydS hQ h2 (hl.cons _)⟩
  ·exact ⟨fun hw => ybD (h.1 hw) fun v w' ⟨h1,h2⟩ => ⟨h1.less hl,ydS hQ h2 hl.sift⟩,fun hw => ydS hQ (h.2 hw) hl⟩
theorem yhX {P:Program} {ops:Array Oper} {m:List Nat} {Q:yhJ → Act → World → Prop} (hQ:∀ Γ Γ' a w,Q Γ a w → ypT P ops Γ' Γ → Q Γ' a w) {j:Nat} {oj:Oper} (hj:ops[j]? = some oj) (hsj:∀ cs b,oj.op ≠ .select cs b) {L2:List Nat} :
  ∀ {qs:List Nat} {Γ:yhJ} {a:Act} {w:World},(∀ q ∈ qs,∃ oq,ops[q]? = some oq ∧ ycA P oq = true ∧ oq.apart ops oj = true ∧ ygH m j q = false ∧ ∀ cs b,oq.op ≠ .select cs b) → yd7 P ops m Q (qs ++ j :: L2) Γ a w →
  match ycA P oj with
  | true => ∃ v,ybR P ops oj v a w ∧ yd7 P ops m Q (qs ++ L2) Γ (a.put oj.dst v) w
  | false => (Region.wanted oj (yielded ops a.tmps) = true → yjG P (execOp a.eval oj) w fun v w' => Obl P ops m j Γ w' ∧ yd7 P ops m Q (qs ++ L2) (sift m j Γ) (a.put oj.dst v) w') ∧
   (Region.wanted oj (yielded ops a.tmps) = false → yd7 P ops m Q (qs ++ L2) Γ (a.put oj.dst undef) w)
 | [],Γ,a,w,_,h => by
  obtain ⟨o,ho,h⟩:=h
  rw [hj] at ho; cases ho
  split at h
  ·rename_i hs
   try simp only [hs]
   obtain ⟨v,h1,h2⟩:=h
   exact ⟨v,h1,ydS hQ h2 (ypT.drop _ _)⟩
  ·rename_i hs
   try simp only [hs]
   exact h
 | q :: qs,Γ,a,w,hq,h => by
  obtain ⟨oq,hoq,hsq,hap,hd,hsel⟩:=hq q (by simp)
  obtain ⟨h1,h2,h3⟩:=Oper.apart_spec hap
  obtain ⟨o,ho,h⟩:=h
  rw [hoq] at ho; cases ho
  simp only [hsq] at h
  obtain ⟨u,hu,h⟩:=h
  have ih:=yhX hQ hj hsj (fun q' hq' => hq q' (by simp [hq'])) h
  have comm:∀ v,(a.put oq.dst u).put oj.dst v = (a.put oj.dst v).put oq.dst u:=fun v => Act.put_comm a u v h2
  have yq:∀ v w',ybR P ops oq u a w' → ybR P ops oq u (a.put oj.dst v) w':=fun v w' hy => hy.of_same (execOp_put oq hsel a oj.dst v h3) (wanted_put oq a oj.dst v h3)
  have back:∀ Γ v w',ybR P ops oq u a w' → yd7 P ops m Q (qs ++ L2) ((q,a,u) :: Γ) ((a.put oq.dst u).put oj.dst v) w' → yd7 P ops m Q (q :: (qs ++ L2)) Γ (a.put oj.dst v) w':=fun Γ v w' hy h => by
   refine ⟨oq,hoq,?_⟩
   simp only [hsq]
   refine ⟨u,yq v w' hy,?_⟩
   rw [comm] at h
   refine ydS hQ h fun g' hg' => ?_
   rcases List.mem_cons.1 hg' with rfl | hg'
   ·exact ⟨_,List.mem_cons_self,rfl,fun o w'' ho hy => by
     rw [hoq] at ho; cases ho
     exact yq v w'' hy⟩
   ·exact ⟨g',by simp [hg'],rfl,fun _ _ _ h => h⟩
  split at ih
  ·rename_i hs
   try simp only [hs]
   obtain ⟨v,h4,h5⟩:=ih
   refine ⟨v,h4.of_same (execOp_put oj hsj a oq.dst u h1).symm (wanted_put oj a oq.dst u h1).symm,?_⟩
   exact back Γ v w hu h5
  ·rename_i hs
   try simp only [hs]
   rw [wanted_put oj a oq.dst u h1,execOp_put oj hsj a oq.dst u h1] at ih
   refine ⟨fun hw => ybD (ih.1 hw) fun v w' ⟨h4,h5⟩ => ⟨h4.less (ypT.drop _ _),back _ v w' (h4 _ List.mem_cons_self hd oq hoq) (show yd7 P ops m Q (qs ++ L2) ((q,a,u) :: sift m j Γ) _ _ from (show sift m j ((q,a,u) :: Γ) = (q,a,u) :: sift m j Γ by simp [sift,hd]) ▸ h5)⟩,fun hw => back Γ undef w hu (ih.2 hw)⟩
theorem yg7 {P:Program} {ops:Array Oper} {m:List Nat} {Q Q':yhJ → Act → World → Prop} (hQ:∀ Γ a w,Q Γ a w → Q' Γ a w):∀ {L:List Nat} {Γ:yhJ} {a:Act} {w:World},yd7 P ops m Q L Γ a w → yd7 P ops m Q' L Γ a w
 | [],_,_,_,h => hQ _ _ _ h
 | i :: L,Γ,a,w,h => by
  obtain ⟨o,ho,h⟩:=h
  refine ⟨o,ho,?_⟩
  split at h
  ·obtain ⟨v,h1,h2⟩:=h
   exact ⟨v,h1,yg7 hQ h2⟩
  ·exact ⟨fun hw => ybD (h.1 hw) fun v w' ⟨h1,h2⟩ => ⟨h1,yg7 hQ h2⟩,fun hw => yg7 hQ (h.2 hw)⟩
theorem yiQ {P:Program} {ops:Array Oper} {m:List Nat} {Q:yhJ → Act → World → Prop} {L2:List Nat}:∀ {L:List Nat} {Γ:yhJ} {a:Act} {w:World},yd7 P ops m (fun Γ a w => yd7 P ops m Q L2 Γ a w) L Γ a w → yd7 P ops m Q (L ++ L2) Γ a w
 | [],_,_,_,h => h
 | i :: L,Γ,a,w,h => by
  obtain ⟨o,ho,h⟩:=h
  refine ⟨o,ho,?_⟩
  split at h
  ·obtain ⟨v,h1,h2⟩:=h
   exact ⟨v,h1,yiQ h2⟩
  ·exact ⟨fun hw => ybD (h.1 hw) fun v w' ⟨h1,h2⟩ => ⟨h1,yiQ h2⟩,fun hw => yiQ (h.2 hw)⟩
theorem yiR {P:Program} {ops:Array Oper} {m:List Nat} {Q:Act → World → Prop} {L2:List Nat}:∀ {L:List Nat} {Γ:yhJ} {a:Act} {w:World},yd7 P ops m (fun Γ a w => ycZ P ops m Q L2 Γ a w) L Γ a w → ycZ P ops m Q (L ++ L2) Γ a w
 | [],_,_,_,h => h
 | i :: L,Γ,a,w,h => by
  obtain ⟨o,ho,h⟩:=h
  refine ⟨o,ho,?_⟩
  split at h
  ·rename_i hs
   try simp only [hs]
   obtain ⟨v,h1,h2⟩:=h
   exact ⟨v,h1,yiR h2⟩
  ·rename_i hs
   try simp only [hs]
   exact ⟨fun hw => ybD (h.1 hw) fun v w' ⟨h1,h2⟩ => ⟨h1,yiR h2⟩,fun hw => yiR (h.2 hw)⟩
def yHt (m:List Nat) (N:List Nat) (i:Nat):Bool:=match N with
 | [] => true
 | j :: r => match Nat.beq i j,ygH m i j with
  | false,true => false
  | _,_ => yHt m r i
def yl4:List Nat → Nat → List Nat
 | [],_ => []
 | j :: r,i => match Nat.beq j i with
  | true => r
  | false => j :: yl4 r i
theorem yBX {m:List Nat} {i:Nat}:∀ {N:List Nat},(∀ j ∈ N,ygH m i j = false) → yHt m N i = true
 | [],_ => rfl
 | j :: r,h => by
  unfold yHt
  rw [h j (by simp)]
  cases Nat.beq i j <;> exact yBX fun j' hj' => h j' (by simp [hj'])
theorem yoA {i:Nat} {B:List Nat}:∀ {A:List Nat},i ∉ A → yl4 (A ++ i :: B) i = A ++ B
 | [],_ => by simp [yl4]
 | j :: r,h => by
  have hj:Nat.beq j i = false:=by
   rw [Bool.eq_false_iff]
   intro e
   exact h (by simp [Nat.eq_of_beq_eq_true e])
  simp only [List.cons_append,yl4,hj]
  rw [yoA (by simp at h; exact h.2)]
def ynV (P:Program) (ops:Array Oper) (m:List Nat) (Q:Act → World → Prop) (Y:List Nat):Nat → List Nat → yhJ → Act → World → Prop
 | 0,_,Γ,a,w => ycZ P ops m Q Y Γ a w
 | k + 1,N,Γ,a,w => ∀ i ∈ N,yHt m N i = true → yd7 P ops m (fun Γ a w => ynV P ops m Q Y k (yl4 N i) Γ a w) [i] Γ a w
theorem yoB {P:Program} {ops:Array Oper} {m:List Nat} {Q:Act → World → Prop} {Y:List Nat}:∀ (k:Nat) (N:List Nat) (Γ Γ':yhJ) (a:Act) (w:World),ynV P ops m Q Y k N Γ a w → ypT P ops Γ' Γ → ynV P ops m Q Y k N Γ' a w
 | 0,_,_,_,_,_,h,hl => yeR h hl
 | k + 1,N,_,_,_,_,h,hl => fun i hi hm => ydS (fun Γ Γ' a w h hl => yoB k (yl4 N i) Γ Γ' a w h hl) (h i hi hm) hl
theorem yz3 {P:Program} {ops:Array Oper} {Q:Exit → Act → World → Prop} {Y:List Nat}:∀ (n:Nat) {X N:List Nat} {listed:Array Bool} {act:Act} {w:World},(X ++ (N ++ Y)).length = n → Left ops listed (X ++ (N ++ Y)) →
  yb3 P ops (clo ops) (X ++ Y) = true → (∀ i ∈ N,yb3 P ops (clo ops) (X ++ i :: Y) = true) → (∀ x ∈ X,yn8 P ops x = true) → N.Pairwise (fun i j => yk9 ops i j = true) → (∀ y ∈ Y,∀ i ∈ N,ygH (clo ops) y i = true) →
  yd7 P ops (clo ops) (fun Γ a w => ynV P ops (clo ops) (Q .normal) Y N.length N Γ a w) X [] act w → wpAny P .any ops Q n listed act w:=by
 intro n
 induction n with
 | zero =>
  intro X N listed act w hn hL hp hpi hst he hd h
  have hlen:=hn
  rw [List.length_append,List.length_append] at hlen
  have hx:X = []:=List.eq_nil_of_length_eq_zero (by omega)
  have hN:N = []:=List.eq_nil_of_length_eq_zero (by omega)
  subst hx hN
  exact hL.sound hn hp (yiR h)
 | succ n ih =>
  intro X N listed act w hn hL hp hpi hst he hd h
  by_cases h0:N = []
  ·subst h0
   exact hL.sound hn hp (yiR h)
  obtain ⟨i0,N0,hN⟩:=List.exists_cons_of_ne_nil h0
  have hi0:i0 ∈ N:=by simp [hN]
  refine ⟨fun hr => ?_,fun i hi => ?_⟩
  ·exfalso
   cases X with
   | cons x X =>
    obtain ⟨o,ho⟩:∃ o,ops[x]? = some o:=⟨ops[x]'(hL.lt x (by simp)),by simp [hL.lt x (by simp)]⟩
    have:=hL.ready (x:=x) (by simp) ho fun y hy hne => ?_
    ·rw [hr] at this; cases this
    ·simp at hy
     rcases hy with rfl | hy | hy | hy
     ·exact absurd rfl hne
     ·exact ycH (ybV hp y (by simp [hy])) ho
     ·exact ycH (ybV (hpi y hy) y (by simp)) ho
     ·exact ycH (ybV hp y (by simp [hy])) ho
   | nil =>
    obtain ⟨o,ho⟩:∃ o,ops[i0]? = some o:=⟨ops[i0]'(hL.lt i0 (by simp [hi0])),by simp [hL.lt i0 (by simp [hi0])]⟩
    have:=hL.ready (x:=i0) (by simp [hi0]) ho fun y hy hne => ?_
    ·rw [hr] at this; cases this
    ·simp only [List.nil_append,List.mem_append] at hy
     rcases hy with hy | hy
     ·rw [hN] at hy he
      rcases List.mem_cons.1 hy with rfl | hy
      ·exact absurd rfl hne
      ·exact yl2 ((List.pairwise_cons.1 he).1 y hy) ho
     ·exact ycH (ybV (hpi i0 hi0) y (by simp [hy])) ho
  ·obtain ⟨o,ho,hiL,hedge,nodep⟩:=hL.of_ready hi
   have less:∀ k N Γ Γ' a w,ynV P ops (clo ops) (Q .normal) Y k N Γ a w → ypT P ops Γ' Γ → ynV P ops (clo ops) (Q .normal) Y k N Γ' a w:=fun k N => yoB k N
   rcases List.mem_append.1 hiL with hX | hNY
   ·obtain ⟨X1,X2,rfl⟩:=List.append_of_mem hX
    have hs:ycA P o = true:=yn9 (hst i (by simp)) ho
    have hps:∀ q ∈ X1,yhI P ops (clo ops) q i = true:=fun q hq => by
     have:yb3 P ops (clo ops) (X1 ++ i :: (X2 ++ Y)) = true:=by simpa using hp
     exact ybP this q hq
    have f:=yhX (less _ _) ho (hL.sel hiL ho) (fun q hq => hL.pass ho nodep (by simp [hq]) (hps q hq)) h
    simp only [hs] at f
    obtain ⟨v,y1,g1⟩:=f
    have hL':Left ops (listed.setIfInBounds i true) ((X1 ++ X2) ++ (N ++ Y)):=by
     have:Left ops listed (X1 ++ i :: (X2 ++ (N ++ Y))):=by simpa using hL
     have:=this.take ho (by simpa using hedge)
     simpa using this
    have er:∀ W:List Nat,yb3 P ops (clo ops) (X1 ++ i :: X2 ++ W) = true → yb3 P ops (clo ops) (X1 ++ X2 ++ W) = true:=fun W h => by
     have:yb3 P ops (clo ops) (X1 ++ i :: (X2 ++ W)) = true:=by simpa using h
     have:=ydQ this
     simpa using this
    refine yl3 ho ?_
    simp only [hs]
    exact ⟨v,y1,ih (by simp at hn ⊢; omega) hL' (er _ hp) (fun j hj => er _ (hpi j hj)) (fun x hx => hst x (by simp at hx ⊢; rcases hx with hx | hx <;> simp [hx])) he hd g1⟩
   ·rcases List.mem_append.1 hNY with hi' | hY
    ·obtain ⟨A,B,hAB⟩:=List.append_of_mem hi'
     have hnd:N.Nodup:=(List.nodup_append.1 (List.nodup_append.1 hL.nd).2.1).1
     have hiA:i ∉ A:=fun hA => by
      rw [hAB] at hnd
      exact (List.nodup_append.1 hnd).2.2 i hA i (by simp) rfl
     have hlen:N.length = (A ++ B).length + 1:=by rw [hAB]; simp; omega
     rw [hlen] at h
     have h':yd7 P ops (clo ops) (fun Γ a w => ynV P ops (clo ops) (Q .normal) Y (A ++ B).length (A ++ B) Γ a w) (X ++ i :: []) [] act w:=by
      refine yiQ (yg7 (fun Γ a w ht => ?_) h)
      have:=ht i hi' (yBX fun j hj => nodep j (by simp [hj]))
      rwa [hAB,yoA hiA] at this
     have hps:∀ q ∈ X,yhI P ops (clo ops) q i = true:=ybP (hpi i hi')
     have f:=yhX (less _ _) ho (hL.sel hiL ho) (fun q hq => hL.pass ho nodep (by simp [hq]) (hps q hq)) h'
     rw [List.append_nil] at f
     have hL':Left ops (listed.setIfInBounds i true) (X ++ ((A ++ B) ++ Y)):=by
      have:Left ops listed ((X ++ A) ++ i :: (B ++ Y)):=by simpa [hAB] using hL
      have:=this.take ho (by simpa [hAB] using hedge)
      simpa using this
     have on:∀ Γ a' w',yd7 P ops (clo ops) (fun Γ a w => ynV P ops (clo ops) (Q .normal) Y (A ++ B).length (A ++ B) Γ a w) X Γ a' w' → wpAny P .any ops Q n (listed.setIfInBounds i true) a' w':=fun Γ a' w' g =>
      ih (by simp [hAB] at hn ⊢; omega) hL' hp (fun j hj => hpi j (by rw [hAB]; simp at hj ⊢; rcases hj with hj | hj <;> simp [hj])) hst (by rw [hAB] at he; exact he.sublist (List.Sublist.append (List.Sublist.refl _) (List.sublist_cons_self _ _)))
       (fun y hy j hj => hd y hy j (by rw [hAB]; simp at hj ⊢; rcases hj with hj | hj <;> simp [hj])) (ydS (less _ _) g (fun g hg => by cases hg))
     refine yl3 ho ?_
     split at f
     ·rename_i hs
      try simp only [hs]
      obtain ⟨v,g1,g2⟩:=f
      exact ⟨v,g1,on _ _ _ g2⟩
     ·rename_i hs
      try simp only [hs]
      exact ⟨fun hw => ybD (f.1 hw) fun v w' ⟨_,h⟩ => on _ _ _ h,fun hw => on _ _ _ (f.2 hw)⟩
    ·have:=hd i hY i0 hi0
     rw [nodep i0 (by simp [hi0])] at this; cases this
structure TB where
 b:Nat
 T:TypeId
 cs:List Value
 ex:Bool
abbrev Tag:=Option (Nat × Nat)
structure FA where
 u:List (Nat × Value × Tag)
 js:Nat → Value
def lkV:List (Nat × Value × Tag) → (Nat → Value) → Nat → Value
 | [],js,i => js i
 | (j,v,_) :: r,js,i => match Nat.beq j i with
  | true => v
  | false => lkV r js i
def lkT:List (Nat × Value × Tag) → Nat → Tag
 | [],_ => none
 | (j,_,t) :: r,i => match Nat.beq j i with
  | true => t
  | false => lkT r i
def FA.get (f:FA) (i:Nat):Value:=match f with
 | ⟨u,js⟩ => lkV u js i
def FA.tag (f:FA) (i:Nat):Tag:=match f with
 | ⟨u,_⟩ => lkT u i
def evA (f:FA):Operand → Value
 | .tmp t => f.get t
 | .const v => v
 | .global g => .pointer (some ⟨g,0,none⟩)
 | .func g => .func (.func g) #[] #[]
def ydZ (f:FA) (d:Option Tmp) (v:Value) (t:Tag):FA:=match d with
 | none => f
 | some d => match f with
  | ⟨u,js⟩ => ⟨(d,v,t) :: u,js⟩
structure St where
 mem:List TB
 w:World
 S:List Nat
 N:List Nat
 cl:Bool
structure Adv (S N:List Nat) (w w':World):Prop where
 mod:Mod S w w'
 lt:∀ b ∈ N,b < w'.heap.size
 nd:N.Nodup
def yxK (mem:List TB):List Nat → List Nat
 | [] => []
 | i :: r => match mem[i]? with
  | some tb => tb.b :: yxK mem r
  | none => yxK mem r
def yoC:List TB → World → Prop → Prop
 | [],_,F => F
 | tb :: r,w,F => match tb.ex with
  | true => w.heap[tb.b]? = some (.cells tb.cs.toArray tb.T) → yoC r w F
  | false => yoC r w F
def yBY {α:Type}:List α → (List α → Prop) → Prop
 | [],k => k []
 | x :: r,k => yBY r fun r' => k (x :: r')
def yoD:List TB → (List TB → Prop) → Prop
 | [],k => k []
 | ⟨b,T,cs,ex⟩ :: r,k => yBY cs fun cs => match ex with
  | true => yoD r fun r' => k (⟨b,T,cs,true⟩ :: r')
  | false => yoD r fun r' => k (⟨b,T,cs,false⟩ :: r')
def ygB (s:St) (K:St → Prop):Prop:=match s with
 | ⟨mem,w,S,N,cl⟩ => match cl with
  | true => K ⟨mem,w,S,N,true⟩
  | false => yoD mem fun mem => ∀ w',Adv (yxK mem S) (yxK mem N) w w' → yoC mem w' (K ⟨mem,w',[],[],true⟩)
def ynW (f:FA):Operand → Tag
 | .tmp t => f.tag t
 | _ => none
def yhK (f:FA):List Operand → List Nat
 | [] => []
 | x :: r => match ynW f x with
  | some (k,_) => k :: yhK f r
  | none => yhK f r
def yBZ:List Nat → Nat → Bool
 | [],_ => false
 | x :: r,i => match Nat.beq x i with
  | true => true
  | false => yBZ r i
def exM (ids:List Nat):Nat → List TB → List TB
 | _,[] => []
 | i,tb :: r => (match yBZ ids i with
  | true => ⟨tb.b,tb.T,tb.cs,true⟩
  | false => tb) :: exM ids (i + 1) r
def yJh (ids:List Nat):Nat → List TB → Bool
 | _,[] => false
 | i,tb :: r => match yBZ ids i,tb.ex with
  | true,false => true
  | _,_ => yJh ids (i + 1) r
def ycI (ids:List Nat) (s:St):St:=match ids with
 | [] => s
 | ids => match yJh ids 0 s.mem with
  | true => ⟨exM ids 0 s.mem,s.w,s.S,s.N,false⟩
  | false => s
def leak:Op → List Operand
 | .box _ x => [x]
 | .build _ ps => ps.toList.map (·.2)
 | .buildSlice _ _ ps => ps.toList.map (·.2)
 | .insert _ _ k x => [k,x]
 | .mapUpdate _ _ k x => [k,x]
 | .mapEntry _ _ k => [k]
 | .entryStore _ _ _ x => [x]
 | .store _ a x => [a,x]
 | .makeInterface _ x => [x]
 | .makeFunc _ f c => f.toList ++ c.toList
 | .call c => (match c.callee with
  | .value x => [x]
  | .invoke x _ => [x]
  | _ => []) ++ c.args.toList
 | .pick _ a b => [a,b]
 | .slice _ x _ _ _ => [x]
 | .indexAddr _ x _ => [x]
 | .fieldAddr _ x _ => [x]
 | .range _ x => [x]
 | _ => []
def okL:Leaf → Value → Bool
 | .int k,.int k' _ => k == k'
 | .bool,.bool _ => true
 | .string,.string _ => true
 | .ptr,.pointer _ => true
 | .map,.map _ => true
 | .slice,.slice _ _ _ => true
 | .any,_ => true
 | _,_ => false
def yI7:List Leaf → List Value → Bool
 | [],_ => true
 | l :: ls,v :: vs => match okL l v with
  | true => yI7 ls vs
  | false => false
 | _,_ => false
def yJi (P:Program) (t:TypeId) (cs:List Value) (K:Value → Prop):Prop :=
 match (ye6 P 20 t).length == P.cellsOf t with
 | false => False
 | true => match yI7 (ye6 P 20 t) cs with
  | false => False
  | true => match (P.underlying t).isSome with
   | false => False
   | true => match ykT P t with
    | true => K (.agg ⟨cs.take (P.cellsOf t)⟩)
    | false => match cs,ye6 P 20 t with
     | v :: _,[_] => K v
     | _,_ => False
def ye8:List Value → Nat → List Value → List Value
 | [],_,_ => []
 | x :: r,0,[] => x :: r
 | x :: r,0,v :: vs => v :: ye8 r 0 vs
 | x :: r,n + 1,vs => x :: ye8 r n vs
def yaV (es:List Nat) (ts:List (Nat × TypeId)) (bs:List Nat) (w w':World):Prop:=∀ b ∈ bs,b < w.heap.size → b ∉ es → (∀ p ∈ ts,p.1 = b → ∃ cs,w.heap[b]? = some (.cells cs p.2)) → w'.heap[b]? = w.heap[b]?
abbrev yaF (bs:List Nat) (w w':World):Prop:=yaV [] [] bs w w'
def yHu (mem:List TB) (w w':World) (F:Prop):Prop:=match mem with
 | [] => F
 | mem => yaF (mem.map (·.b)) w w' ∧ F
def nxB:List TB → List Nat
 | [] => []
 | tb :: r => match tb.ex with
  | true => nxB r
  | false => tb.b :: nxB r
def nxT:List TB → List (Nat × TypeId)
 | [] => []
 | tb :: r => match tb.ex with
  | true => nxT r
  | false => (tb.b,tb.T) :: nxT r
def exB:List TB → List Nat
 | [] => []
 | tb :: r => match tb.ex with
  | true => tb.b :: exB r
  | false => exB r
def reD (P:Program) (w':World):List TB → (List TB → Prop) → Prop
 | [],F => F []
 | tb :: r,F => match tb.ex with
  | false => reD P w' r fun m => F (tb :: m)
  | true => yEO (ye6 P 20 tb.T) fun vs => w'.heap[tb.b]? = some (.cells vs.toArray tb.T) ∧ reD P w' r fun m => F (⟨tb.b,tb.T,vs,true⟩ :: m)
def yHv (P:Program) (mem:List TB) (w w':World) (F:List TB → Prop):Prop:=match nxB mem with
 | [] => reD P w' mem F
 | bs => match exB mem with
  | [] => yaF bs w w' ∧ reD P w' mem F
  | es => yaV es (nxT mem) bs w w' ∧ reD P w' mem F
def ysE (P:Program) (o:Oper):Nat:=match o.op with
 | .alloc _ | .box _ _ | .buildSlice _ _ _ | .makeMap _ _ => 1
 | .store .. => 3
 | .makeSlice .. | .mapUpdate .. | .insert .. | .range .. | .next .. | .entry _ | .mapEntry .. | .entryStore .. => 2
 | .convert src dst _ => match P.underlying src,P.underlying dst with
  | some .string,some (.slice _) => 2
  | some (.slice _),some .string => 2
  | _,_ => 0
 | .call c => match c.callee with
  | .builtin .append | .builtin .copy | .builtin .delete | .builtin .clear => 2
  | .builtin _ => 0
  | _ => 3
 | _ => 0
abbrev KOp:=Value → Tag → St → Prop
def yBI (P:Program) (rest:List Oper) (o:Oper) (f:FA) (s0:St) (K:KOp):Prop :=
 match ysE P o,yjK P o with
 | 0,false => yhT P o (evA f) s0.w fun v => K v none (ycI (yhK f (leak o.op)) s0)
 | e,_ => ygB (ycI (yhK f (leak o.op)) s0) fun s => match e with
  | 0 => yhT P o (evA f) s.w fun v => K v none s
  | 1 => yzZ P o (evA f) s.w fun v w' => K v none ⟨s.mem,w',[],[],true⟩
  | 2 => yES P rest o (evA f) s.w fun v w' => yHu s.mem s.w w' (K v none ⟨s.mem,w',[],[],true⟩)
  | _ => yES P rest o (evA f) s.w fun v w' => yHv P s.mem s.w w' fun mem => K v none ⟨mem,w',[],[],true⟩
def yMo (s:St) (T:TypeId) (cs:List Value) (K:KOp):Prop :=
 match s with
 | ⟨mem,w,S,N,cl⟩ => ∀ b,w.heap.size ≤ b → yoD (mem ++ [⟨b,T,cs,false⟩]) fun mem' => K (.pointer (some ⟨b,0,none⟩)) (some (mem.length,0)) ⟨mem',w,S,mem.length :: N,false⟩
def yMc (N S:List Nat) (k:Nat):List Nat:=match yBZ N k,yBZ S k with
 | false,false => k :: S
 | _,_ => S
def yF5:Operand → Option Nat
 | .const (.int _ (.ofNat n)) => some n
 | _ => none
def pkB (t:Bool) (A B:Prop):Prop:=match t with
 | true => A
 | false => B
def ye9 (P:Program) (rest:List Oper) (o:Oper) (f:FA) (s:St) (K:KOp):Prop :=
 match o.op with
 | .load t a => match ynW f a with
  | some (k,off) => match s.mem[k]? with
   | some tb => yJi P t (tb.cs.drop off) fun v => K v none s
   | none => False
  | none => yBI P rest o f s K
 | .store t a x => match ynW f a with
  | some (k,off) => match (ycI (yhK f [x]) s).mem[k]?,(evA f x).cells.size == P.cellsOf t,(P.underlying t).isSome,(evA f x).cells.toList.all yhH with
   | some tb,true,true,true => match Nat.ble (off + (evA f x).cells.size) tb.cs.length with
    | true => yoD ((ycI (yhK f [x]) s).mem.set k ⟨tb.b,tb.T,ye8 tb.cs off (evA f x).cells.toList,tb.ex⟩) fun mem => K undef none ⟨mem,s.w,yMc s.N s.S k,s.N,false⟩
    | false => False
   | _,_,_,_ => False
  | none => yBI P rest o f s K
 | .alloc e => match yeX P (zeroValue e) with
  | some z => yMo s e z.cells.toList K
  | none => False
 | .box e x => yMo (ycI (yhK f [x]) s) e (evA f x).cells.toList K
 | .fieldAddr t x fi => match ynW f x with
  | some (k,off) => match s.mem[k]?,P.underlying t with
   | some tb,some (.struct fs) => match fs[fi]? with
    | some fl => match (P.info? fl.type).isSome,P.cellsOf fl.type with
     | true,_ + 1 => K (.pointer (some ⟨tb.b,off + fl.offset,none⟩)) (some (k,off + fl.offset)) s
     | _,_ => False
    | none => False
   | _,_ => False
  | none => yBI P rest o f s K
 | .indexAddr t x ix => match P.underlying t with
  | some (.array len e) => match (P.info? e).isSome with
   | false => False
   | true => match yF5 ix,ynW f x with
    | some n,some (k,off) => match s.mem[k]?,Nat.blt n len with
     | some tb,true => K (.pointer (some ⟨tb.b,off + n * P.cellsOf e,none⟩)) (some (k,off + n * P.cellsOf e)) s
     | _,_ => False
    | _,_ => match evA f x,evA f ix with
     | .pointer (some a),.int _ i => 0 ≤ i ∧ i < len ∧ K (.pointer (some (a.add (i.toNat * P.cellsOf e)))) none (ycI (yhK f [x]) s)
     | _,_ => False
  | _ => yBI P rest o f s K
 | .nilCheck x => match ynW f x with
  | some (k,off) => match s.mem[k]? with
   | some tb => K (.pointer (some ⟨tb.b,off,none⟩)) (some (k,off)) s
   | none => False
  | none => yBI P rest o f s K
 | .move x => K (evA f x) (ynW f x) s
 | .assign x => K (evA f x) (ynW f x) s
 | .pick c a b => match evA f c with
  | .bool t => pkB t (K (evA f a) none (ycI (yhK f [a,b]) s)) (K (evA f b) none (ycI (yhK f [a,b]) s))
  | _ => False
 | _ => yBI P rest o f s K
def ybS (P:Program) (ops:Array Oper):List Oper → (FA → St → Prop) → FA → St → Prop
 | [],K,f,s => K f s
 | o :: r,K,f,s => match o.guard with
  | none => ye9 P r o f s fun v t s => ybS P ops r K (ydZ f o.dst v t) s
  | some (j,b) => match (ops[j]?).bind (·.dst) with
   | none => ybS P ops r K (ydZ f o.dst undef none) s
   | some d => match f.get d with
    | .bool t => brB t
     (match b with
      | true => ye9 P r o (ydZ f (some d) (.bool true) none) s fun v t s => ybS P ops r K (ydZ (ydZ f (some d) (.bool true) none) o.dst v t) s
      | false => ybS P ops r K (ydZ (ydZ f (some d) (.bool true) none) o.dst undef none) s)
     (match b with
      | false => ye9 P r o (ydZ f (some d) (.bool false) none) s fun v t s => ybS P ops r K (ydZ (ydZ f (some d) (.bool false) none) o.dst v t) s
      | true => ybS P ops r K (ydZ (ydZ f (some d) (.bool false) none) o.dst undef none) s)
    | _ => ybS P ops r K (ydZ f o.dst undef none) s
def yNg:Option Nat → Nat → Bool
 | some k,d => Nat.beq k d
 | none,_ => false
def yf0 (P:Program) (ops:Array Oper) (d g:Nat):List Oper → (FA → St → Prop) → FA → St → Prop
 | [],K,f,s => K f s
 | o :: r,K,f,s => match o.guard with
  | none => match yNg o.dst d with
   | true => ∃ p:Option Addr,ye9 P r o f s fun v t s => v = .func (.func g) #[.pointer p] #[] ∧ yf0 P ops d g r K (ydZ f o.dst (.func (.func g) #[.pointer p] #[]) t) s
   | false => ye9 P r o f s fun v t s => yf0 P ops d g r K (ydZ f o.dst v t) s
  | some _ => False
def yHw (F:Nat → Prop):List Nat → Prop
 | [] => False
 | g :: r => match r with
  | [] => F g
  | _ => F g ∨ yHw F r
theorem yxL {F:Nat → Prop}:∀ {gs:List Nat},yHw F gs → ∃ g ∈ gs,F g
 | [],h => h.elim
 | [g],h => ⟨g,by simp,h⟩
 | g :: g' :: r,h => by
  rcases h with h | h
  ·exact ⟨g,by simp,h⟩
  ·obtain ⟨x,hx,hf⟩:=yxL (gs:=g' :: r) h
   exact ⟨x,by simp at hx ⊢; exact .inr hx,hf⟩
theorem ypV {F:Nat → Prop} {g:Nat}:∀ {gs:List Nat},g ∈ gs → F g → yHw F gs
 | [x],h,hf => by simp at h; subst h; exact hf
 | x :: y :: r,h,hf => by
  rcases List.mem_cons.1 h with rfl | h
  ·exact .inl hf
  ·exact .inr (ypV (gs:=y :: r) h hf)
structure DRec2 where
 i:Nat
 o:Oper
 f:FA
 v:Value
 tag:Tag
def yHx (P:Program) (g:DRec2) (w:World):Prop:=match g.o.op with
 | .load t a => match evA g.f a,(P.underlying t).isSome with
  | .pointer (some a),true => ldT P t w a fun u => u = g.v
  | _,_ => False
 | .lookup t x i ok => ∀ w',Mod [] w w' → (Instr.lookup t (evA g.f x) (evA g.f i) ok).run P w' = .ok g.v w'
 | _ => ∀ w',Mod [] w w' → (execOp (evA g.f) g.o).run P w' = .ok (.value g.v) w'
def ysN (P:Program) (g:DRec2) (s:St):Prop:=match g.tag,g.o.op with
 | some (k,off),.load t _ => match s.mem[k]? with
  | some tb => yJi P t (tb.cs.drop off) fun u => u = g.v
  | none => False
 | _,_ => yHx P g s.w
def yI8 (P:Program) (m:List Nat) (i:Nat):List DRec2 → St → Prop → Prop
 | [],_,F => F
 | g :: r,s,F => match ygH m i g.i with
  | true => yI8 P m i r s F
  | false => ysN P g s ∧ yI8 P m i r s F
def yu6 (m:List Nat) (i:Nat):List DRec2 → List DRec2
 | [] => []
 | g :: r => match ygH m i g.i with
  | true => yu6 m i r
  | false => g :: yu6 m i r
def yEU:List DRec2 → Bool
 | [] => false
 | g :: r => match g.tag with
  | none => true
  | _ => yEU r
def yHy (P:Program) (m:List Nat) (i:Nat) (Γ:List DRec2) (s:St) (K:St → Prop):Prop:=match yEU (yu6 m i Γ) with
 | true => ygB s fun s => yI8 P m i Γ s (K s)
 | false => yI8 P m i Γ s (K s)
def yHz (f:FA):Op → Tag
 | .load _ a => ynW f a
 | _ => none
def yhN (P:Program) (ops:Array Oper) (m:List Nat) (L:List Nat) (i:Nat) (o:Oper) (Γ:List DRec2) (X:List Nat) (f:FA) (s:St) (K:List DRec2 → List Nat → FA → St → Prop):Prop :=
 match ycA P o with
 | true => match ysE P o with
  | 0 => ye9 P [] o f s fun v t s' => match yjK P o with
   | true => K (⟨i,o,f,v,yHz f o.op⟩ :: Γ) X (ydZ f o.dst v t) s'
   | false => K Γ X (ydZ f o.dst v t) s'
  | _ => False
 | false => match yxJ o with
  | true => ye9 P [] o f s fun v t s' => K Γ X (ydZ f o.dst v t) s'
  | false => ye9 P (yJf ops L) o f s fun v t s' => yHy P m i Γ s' fun s' => K (yu6 m i Γ) X (ydZ f o.dst v t) s'
def ygM (P:Program) (ops:Array Oper) (m:List Nat):List Nat → List DRec2 → List Nat → (FA → St → Prop) → FA → St → Prop
 | [],_,_,K,f,s => K f s
 | i :: L,Γ,X,K,f,s => match ops[i]? with
  | none => False
  | some o => match o.guard with
   | none => yhN P ops m L i o Γ X f s fun Γ X f s => ygM P ops m L Γ X K f s
   | some (j,b) => match (ops[j]?).bind (·.dst) with
    | none => ygM P ops m L Γ X K (ydZ f o.dst undef none) s
    | some d => match f.get d with
     | .bool t => brB t
      (match b with
       | true => yhN P ops m L i o Γ X (ydZ f (some d) (.bool true) none) s fun Γ X f s => ygM P ops m L Γ X K f s
       | false => ygM P ops m L Γ X K (ydZ (ydZ f (some d) (.bool true) none) o.dst undef none) s)
      (match b with
       | false => yhN P ops m L i o Γ X (ydZ f (some d) (.bool false) none) s fun Γ X f s => ygM P ops m L Γ X K f s
       | true => ygM P ops m L Γ X K (ydZ (ydZ f (some d) (.bool false) none) o.dst undef none) s)
     | _ => ygM P ops m L Γ X K (ydZ f o.dst undef none) s
def yjN (P:Program) (ops:Array Oper) (m:List Nat):List Nat → List DRec2 → List Nat → (List DRec2 → List Nat → FA → St → Prop) → FA → St → Prop
 | [],Γ,X,K,f,s => K Γ X f s
 | i :: L,Γ,X,K,f,s => match ops[i]? with
  | none => False
  | some o => match o.guard with
   | none => yhN P ops m L i o Γ X f s fun Γ X f s => yjN P ops m L Γ X K f s
   | some (j,b) => match (ops[j]?).bind (·.dst) with
    | none => yjN P ops m L Γ X K (ydZ f o.dst undef none) s
    | some d => match f.get d with
     | .bool t => brB t
      (match b with
       | true => yhN P ops m L i o Γ X (ydZ f (some d) (.bool true) none) s fun Γ X f s => yjN P ops m L Γ X K f s
       | false => yjN P ops m L Γ X K (ydZ (ydZ f (some d) (.bool true) none) o.dst undef none) s)
      (match b with
       | false => yhN P ops m L i o Γ X (ydZ f (some d) (.bool false) none) s fun Γ X f s => yjN P ops m L Γ X K f s
       | true => yjN P ops m L Γ X K (ydZ (ydZ f (some d) (.bool false) none) o.dst undef none) s)
     | _ => yjN P ops m L Γ X K (ydZ f o.dst undef none) s
def yB0 (p:Nat → Prop):List Nat → Prop
 | [] => True
 | i :: r => match r with
  | [] => p i
  | _ => p i ∧ yB0 p r
def yz4 (m:List Nat) (N:List Nat):List Nat → List Nat
 | [] => []
 | i :: r => match yHt m N i with
  | true => i :: yz4 m N r
  | false => yz4 m N r
def yHA (P:Program) (ops:Array Oper) (m:List Nat) (Y:List Nat) (K:FA → St → Prop):Nat → List Nat → List DRec2 → List Nat → FA → St → Prop
 | 0,_,Γ,X,f,s => ygM P ops m Y Γ X K f s
 | k + 1,N,Γ,X,f,s => yB0 (fun i => yjN P ops m [i] Γ X (fun Γ X f s => yHA P ops m Y K k (yl4 N i) Γ X f s) f s) (yz4 m N N)
def tB (m i:Nat):Bool:=Nat.beq (Nat.land (Nat.shiftRight m i) 1) 1
def yB1 (n:Nat):Nat → List Nat → Bool
 | m,[] => Nat.beq m (Nat.sub (Nat.shiftLeft 1 n) 1)
 | m,x :: r => match Nat.blt x n,tB m x with
  | true,false => yB1 n (Nat.lor m (Nat.shiftLeft 1 x)) r
  | _,_ => false
def yJj (n x:Nat):List Edge → Bool
 | [] => true
 | e :: r => match Region.binds .any e with
  | false => yJj n x r
  | true => match Nat.blt e.on n,Nat.beq e.on x with
   | true,false => yJj n x r
   | _,_ => false
def yEV (n:Nat) (ops:Array Oper) (x:Nat):Bool:=match ops[x]? with
 | some o => match o.op with
  | .select .. => false
  | _ => yJj n x o.after.toList
 | none => false
def yxM {α:Type} (p:α → Bool):List α → Bool
 | [] => true
 | x :: r => match p x with
  | true => yxM p r
  | false => false
def ynX:List Nat → Nat
 | [] => 0
 | x :: r => Nat.lor (ynX r) (Nat.shiftLeft 1 x)
def ysO:List Edge → Nat
 | [] => 0
 | e :: r => match Region.binds .any e with
  | true => Nat.lor (ysO r) (Nat.shiftLeft 1 e.on)
  | false => ysO r
structure OR where
 i:Nat
 em:Nat
 cm:Nat
 st:Bool
 rm:Nat
 dm:Nat
def yF6:Option Tmp → Nat
 | none => 0
 | some d => Nat.shiftLeft 1 d
def yHB (x y:OR):Bool:=match tB y.cm x.i with
 | true => true
 | false => match x.st,Nat.beq (Nat.land x.dm (Nat.lor y.rm y.dm)) 0,Nat.beq (Nat.land y.dm x.rm) 0 with
  | true,true,true => true
  | _,_,_ => false
def yB2:List OR → Nat
 | [] => 0
 | x :: r => Nat.lor (yB2 r) (Nat.shiftLeft 1 x.i)
def ykV:List OR → Bool
 | [] => true
 | x :: r => match Nat.beq (Nat.land x.em (yB2 r)) 0,yxM (yHB x) r with
  | true,true => ykV r
  | _,_ => false
def ypW (P:Program) (ops:Array Oper) (m:List Nat):List Nat → (List OR → Bool) → Bool
 | [],k => k []
 | i :: r,k => match ops[i]? with
  | none => false
  | some o => match ycA P o with
   | true => ypW P ops m r fun l => k (⟨i,ysO o.after.toList,m.getD i 0,true,ynX (o.looksAt ops),yF6 o.dst⟩ :: l)
   | false => ypW P ops m r fun l => k (⟨i,ysO o.after.toList,m.getD i 0,false,ynX (o.looksAt ops),yF6 o.dst⟩ :: l)
def yEW (P:Program) (ops:Array Oper) (L:List Nat):Bool:=match Nat.beq L.length ops.size,yB1 ops.size 0 L with
 | true,true => match yxM (yEV ops.size ops) L with
  | true => ypW P ops (clo ops) L ykV
  | false => false
 | _,_ => false
def yMd (ops:Array Oper) (m:List Nat) (R:List Nat):List Nat → Bool
 | [] => true
 | x :: X => match yxM (fun y => match yk9 ops x y with
   | true => ygH m y x
   | false => false) R with
  | true => yMd ops m R X
  | false => false
def yMe (ops:Array Oper):List Nat → Bool
 | [] => true
 | i :: r => match yxM (yk9 ops i) r with
  | true => yMe ops r
  | false => false
def yJk (P:Program) (ops:Array Oper) (m:List Nat) (X0 X N Y:List Nat):Bool:=match Nat.beq (X0 ++ (X ++ (N ++ Y))).length ops.size,yB1 ops.size 0 (X0 ++ (X ++ (N ++ Y))),yxM (yEV ops.size ops) (X0 ++ (X ++ (N ++ Y))) with
 | true,true,true => match ypW P ops m X0 ykV,ypW P ops m (X ++ Y) ykV,yxM (fun i => ypW P ops m (X ++ i :: Y) ykV) N with
  | true,true,true => match yxM (yn8 P ops) X,yMe ops N,yxM (fun y => yxM (fun i => ygH m y i) N) Y with
   | true,true,true => yMd ops m (X ++ (N ++ Y)) X0
   | _,_,_ => false
  | _,_,_ => false
 | _,_,_ => false
def yHC (P:Program) (ops:Array Oper) (X0 X N Y:List Nat):Bool:=yJk P ops (clo ops) X0 X N Y
abbrev Kx3:=Exit → FA → St → Prop
def ysP (K:FA → St → Prop) (Q:Kx3):Kx3
 | .normal,f,s => K f s
 | e,f,s => Q e f s
def yu7 (id:Nat) (Q:Kx3):Kx3
 | .exit i,f,s => match i == id with
  | true => Q .normal f s
  | false => Q (.exit i) f s
 | e,f,s => Q e f s
structure LA where
 path:List Nat
 live:List Nat
 tg:List (Nat × Nat × Nat)
 n:Nat
 ex:List Nat
def yJl:List Nat → List Nat → Bool
 | [],[] => true
 | x :: r,y :: t => match Nat.beq x y with
  | true => yJl r t
  | false => false
 | _,_ => false
def ysQ (p:List Nat):List LA → Option LA
 | [] => none
 | a :: r => match yJl a.path p with
  | true => some a
  | false => ysQ p r
def tgA:List (Nat × Nat × Nat) → Nat → Tag
 | [],_ => none
 | (j,k,o) :: r,i => match Nat.beq j i with
  | true => some (k,o)
  | false => tgA r i
def yiS (f:FA):List Nat → List Value
 | [] => []
 | i :: r => f.get i :: yiS f r
def mkU (tg:List (Nat × Nat × Nat)):List Nat → List Value → List (Nat × Value × Tag)
 | i :: r,v :: vs => (i,v,tgA tg i) :: mkU tg r vs
 | _,_ => []
def yJm (f:FA) (n:Nat):List (Nat × Nat × Nat) → Bool
 | [] => true
 | (i,k,o) :: r => match f.tag i with
  | some (k',o') => match Nat.beq k k',Nat.beq o o',Nat.blt k n with
   | true,true,true => yJm f n r
   | _,_,_ => false
  | none => false
def yB3 (f:FA) (mem:List TB):Nat → List Nat → List (Nat × Nat × Nat) → (List TB → Prop) → Prop
 | _,_,[],F => F []
 | c,seen,(i,k,o) :: r,F => match f.tag i with
  | some (k',o') => match Nat.beq k c,Nat.beq o' o,yBZ seen k',mem[k']? with
   | true,true,false,some tb => yB3 f mem (c + 1) (k' :: seen) r fun m => F (tb :: m)
   | _,_,_,_ => False
  | none => False
def atA (a:LA) (K:List Value → List TB → World → Prop) (f:FA) (s:St):Prop:=match yJm f a.n a.tg with
 | true => ygB (ycI a.ex s) fun s => K (yiS f a.live) (s.mem.take a.n) s.w
 | false => ygB (ycI a.ex s) fun s => yB3 f s.mem 0 [] a.tg fun mem => K (yiS f a.live) mem s.w
def yEX (a:LA) (D:FA → St → Prop) (vals:List Value) (js:Nat → Value) (mem:List TB) (w:World):Prop :=
 yoC mem w (D ⟨mkU a.tg a.live vals,js⟩ ⟨mem,w,[],[],true⟩)
def yF7 (a:LA) (D:Kx3 → FA → St → Prop) (Q:Kx3) (vals:List Value) (mem:List TB) (w:World):Prop :=
 ∃ (I:Nat → List Value → List TB → World → Prop) (m:Nat),I m vals mem w ∧
  ∀ m vals mem w,I m vals mem w → vals.length = a.live.length ∧ mem.length = a.n ∧ ∀ js,yEX a (D (ysP (atA a fun vals' mem' w' => ∃ m',m' < m ∧ I m' vals' mem' w') Q)) vals js mem w
def yJn (a:LA) (D:FA → St → Prop) (vals:List Value) (mem:List TB) (w:World):Prop :=
 ∃ J:List Value → List TB → World → Prop,J vals mem w ∧
  ∀ vals mem w,J vals mem w → vals.length = a.live.length ∧ mem.length = a.n ∧ ∀ js,yEX a D vals js mem w
def yMp (an:List LA) (rp:List Nat) (B:Kx3 → FA → St → Prop) (Q:Kx3):Kx3:=match ysQ rp an with
 | none => ysP (B Q) Q
 | some a => ysP (atA a (yJn a (B Q))) Q
def yEY (a:Act):List Nat → List Value
 | [] => []
 | i :: r => a.tmps.getD i undef :: yEY a r
def wpV (P:Program) (c:Code) (l:LA) (Q:Kx3) (vals:List Value) (mem:List TB) (w:World):Prop :=
 ∀ (n:Nat) (a:Act),a.tmps.size = n → a.defers = [] → yEY a l.live = vals → c.wp P (fun e a w' => a.defers = [] ∧ a.tmps.size = n ∧ Q e ⟨[],fun i => a.tmps.getD i undef⟩ ⟨[],w',[],[],true⟩) a w
def yHD (P:Program) (an:List LA) (rp:List Nat) (c:Code) (Q:Kx3) (f:FA) (s:St):Prop:=match ysQ rp an with
 | some l => atA l (wpV P c l Q) f s
 | none => False
def dirty (s:St):St:=match s with
 | ⟨mem,w,S,N,_⟩ => ⟨mem,w,S,N,false⟩
def yMf (P:Program) (an:List LA) (rp:List Nat) (id:Nat) (ops:Array Oper) (Q:Kx3) (f:FA) (s:St):Prop:=match ysQ (9 :: rp) an with
 | some l => match l.tg with
  | [(k,_,_)] => match yHC P ops l.live (l.ex.take l.n) ((l.ex.drop l.n).take k) ((l.ex.drop l.n).drop k) with
   | true => ygM P ops (clo ops) l.live [] [] (fun f s => yjN P ops (clo ops) (l.ex.take l.n) [] [] (fun Γ X f s => yHA P ops (clo ops) ((l.ex.drop l.n).drop k) (Q .normal) ((l.ex.drop l.n).take k).length ((l.ex.drop l.n).take k) Γ X f s) f s) f (dirty s)
   | false => yHD P an rp (.region id ops true) Q f s
  | _ => yHD P an rp (.region id ops true) Q f s
 | none => yHD P an rp (.region id ops true) Q f s
abbrev Gx:=List Nat → Kx3 → FA → St → Prop
def yz5 (P:Program) (an:List LA) (G:Gx):List Nat → Code → Kx3 → FA → St → Prop
 | _,.skip,Q,f,s => Q .normal f s
 | rp,.region id ops draw,Q,f,s => match draw with
  | false => match ysQ (9 :: rp) an with
   | some l => match l.live with
    | d :: gs => yHw (fun g => yf0 P ops d g ops.toList (Q .normal) f s) gs
    | _ => yHD P an rp (.region id ops false) Q f s
   | none => ybS P ops ops.toList (Q .normal) f s
  | true => match yxM (fun o => ycA P o && Nat.beq (ysE P o) 0) ops.toList && ypR P ops with
   | true => ybS P ops ops.toList (fun f s => Q .normal f (dirty s)) f s
   | false => match yEW P ops (yBS P ops) with
    | true => ygM P ops (clo ops) (yBS P ops) [] [] (Q .normal) f (dirty s)
    | false => match yJg P ops (yBS P ops) with
     | none => yMf P an rp id ops Q f s
     | some (X,c,Z,a,Y) => match yHs P ops X c Z a Y with
      | true => ygM P ops (clo ops) (X ++ a :: c :: (Z ++ Y)) [] [] (Q .normal) f (dirty s) ∧ ygM P ops (clo ops) (X ++ c :: (Z ++ a :: Y)) [] [] (Q .normal) f (dirty s)
      | false => yMf P an rp id ops Q f s
 | rp,.seq a _,Q,f,s => yz5 P an G (0 :: rp) a (yMp an (1 :: rp) (G (1 :: rp)) Q) f s
 | rp,.cond c a b,Q,f,s => match evA f c with
  | .bool t => brB t (yz5 P an G (0 :: rp) a Q f s) (yz5 P an G (1 :: rp) b Q f s)
  | _ => False
 | rp,.block id c,Q,f,s => yz5 P an G (0 :: rp) c (yu7 id Q) f s
 | rp,.loop _,Q,f,s => match ysQ (0 :: rp) an with
  | some a => atA a (yF7 a (G (0 :: rp)) Q) f s
  | none => False
 | _,.exit id,Q,f,s => Q (.exit id) f s
 | _,.ret,Q,f,s => Q .ret f s
 | _,.label _,Q,f,s => Q .normal f s
 | rp,c,Q,f,s => yHD P an rp c Q f s
def yJo:Code → Nat → Code
 | .seq a _,0 => a
 | .seq _ b,_ => b
 | .cond _ a _,0 => a
 | .cond _ _ b,_ => b
 | .block _ c,_ => c
 | .loop c,_ => c
 | c,_ => c
def yiT (root:Code):List Nat → Code
 | [] => root
 | i :: rp => yJo (yiT root rp) i
def dnF (P:Program) (an:List LA) (root:Code) (k:Nat):Gx :=
 Nat.rec (motive:=fun _ => Gx) (fun _ _ _ _ => False) (fun _ G rp Q f s => yz5 P an G rp (yiT root rp) Q f s) k
abbrev Kh:=List Value → List TB → World → Prop
def yu8 (P:Program) (an:List LA) (root:Code):Nat → List Nat → Code → List Nat → List Kh → Kx3 → Kx3
 | _,_,_,[],_,Q => Q
 | k,rp,.seq a _,0 :: p,Ks,Q => yu8 P an root k (0 :: rp) a p Ks (yMp an (1 :: rp) (dnF P an root k (1 :: rp)) Q)
 | k,rp,.seq _ b,_ :: p,Ks,Q => yu8 P an root (Nat.pred k) (1 :: rp) b p Ks Q
 | k,rp,.cond _ a _,0 :: p,Ks,Q => yu8 P an root k (0 :: rp) a p Ks Q
 | k,rp,.cond _ _ b,_ :: p,Ks,Q => yu8 P an root k (1 :: rp) b p Ks Q
 | k,rp,.block i c,_ :: p,Ks,Q => yu8 P an root k (0 :: rp) c p Ks (yu7 i Q)
 | k,rp,.loop c,_ :: p,K :: Ks,Q => match ysQ (0 :: rp) an with
  | some a => yu8 P an root (Nat.pred k) (0 :: rp) c p Ks (ysP (atA a K) Q)
  | none => Q
 | _,_,_,_,_,Q => Q
def yaR (P:Program) (an:List LA) (c:Code) (p:List Nat) (Ks:List Kh) (Q:Kx3):Kx3:=yu8 P an c 399 [] c p Ks Q
def ysR (P:Program):List ResultVar → FA → St → (List Value → Prop) → Prop
 | [],_,_,F => F []
 | .tmp t :: r,f,s,F => ysR P r f s fun vs => F (f.get t :: vs)
 | .cell a t :: r,f,s,F => match f.tag a with
  | some (k,off) => match s.mem[k]? with
   | some tb => yJi P t (tb.cs.drop off) fun v => ysR P r f s fun vs => F (v :: vs)
   | none => False
  | none => match f.get a,(P.underlying t).isSome with
   | .pointer (some a),true => ldT P t s.w a fun v => ysR P r f s fun vs => F (v :: vs)
   | _,_ => False
def yxN:List ResultVar → List Operand
 | [] => []
 | .tmp t :: r => .tmp t :: yxN r
 | .cell _ _ :: r => yxN r
def ybE (P:Program) (fn:Func) (np:List Nat) (R:VWP):Kx3
 | .normal,f,s | .ret,f,s => ygB (ycI (np ++ yhK f (yxN fn.results.toList)) s) fun s => ysR P fn.results.toList f s fun vs => match vs with
  | [v] => R v s.w
  | vs => R (.tuple ⟨vs⟩) s.w
 | _,_,_ => False
def yEZ (n:Nat):List Oper → Bool
 | [] => true
 | o :: r => match o.dst with
  | none => yEZ n r
  | some d => match Nat.blt d n with
   | true => yEZ n r
   | false => false
def yeZ (n:Nat):Code → Bool
 | .region _ ops _ => yEZ n ops.toList
 | .seq a b => match yeZ n a with
  | true => yeZ n b
  | false => false
 | .cond _ a b => match yeZ n a with
  | true => yeZ n b
  | false => false
 | .block _ c => yeZ n c
 | .loop c => yeZ n c
 | _ => true
def ynY:Nat → List Value → List (Nat × Value × Tag)
 | _,[] => []
 | i,v :: r => (i,v,none) :: ynY (i + 1) r
end Go.Proofs.YteldhjiiocmicaaGreat
