/- 'den' with tracked variables: blocks made for a function's own variables are known by their contents, so that conditions do not speak of them. -/
import Derived.Test.YtohgihgddknmmaaLib
import Derived.Test.YtohgihgddknmmaaOrd2
namespace Go.Proofs.Ytohgihgddknmmaa
open Go Go.RowKit
set_option linter.unusedVariables false
set_option linter.unusedSimpArgs false

/-! ### states -/
/-- A tracked block: which, of what type, its cells, is its address known elsewhere? -/
structure TB where
  b : Nat
  T : TypeId
  cs : List Value
  ex : Bool
abbrev Tag := Option (Nat × Nat)
/-- A frame: what was put, the latest first; what stood there before. -/
structure FA where
  u : List (Nat × Value × Tag)
  js : Nat → Value
def lkV : List (Nat × Value × Tag) → (Nat → Value) → Nat → Value
  | [], js, i => js i
  | (j, v, _) :: r, js, i => match Nat.beq j i with
    | true => v
    | false => lkV r js i
def lkT : List (Nat × Value × Tag) → Nat → Tag
  | [], _ => none
  | (j, _, t) :: r, i => match Nat.beq j i with
    | true => t
    | false => lkT r i
def FA.get (f : FA) (i : Nat) : Value := match f with
  | ⟨u, js⟩ => lkV u js i
def FA.tag (f : FA) (i : Nat) : Tag := match f with
  | ⟨u, _⟩ => lkT u i
def evA (f : FA) : Operand → Value
  | .tmp t => f.get t
  | .const v => v
  | .global g => .pointer (some ⟨g, 0, none⟩)
  | .func g => .func (.func g) #[] #[]
def putA (f : FA) (d : Option Tmp) (v : Value) (t : Tag) : FA := match d with
  | none => f
  | some d => match f with
    | ⟨u, js⟩ => ⟨(d, v, t) :: u, js⟩
structure St where
  mem : List TB
  w : World
  S : List Nat
  N : List Nat
  cl : Bool
structure Adv (S N : List Nat) (w w' : World) : Prop where
  mod : Mod S w w'
  lt : ∀ b ∈ N, b < w'.heap.size
def idsB (mem : List TB) : List Nat → List Nat
  | [] => []
  | i :: r => match mem[i]? with
    | some tb => tb.b :: idsB mem r
    | none => idsB mem r
def factsD : List TB → World → Prop → Prop
  | [], _, F => F
  | tb :: r, w, F => match tb.ex with
    | true => w.heap[tb.b]? = some (.cells tb.cs.toArray tb.T) → factsD r w F
    | false => factsD r w F
def forceL {α : Type} : List α → (List α → Prop) → Prop
  | [], k => k []
  | x :: r, k => forceL r fun r' => k (x :: r')
def forceM : List TB → (List TB → Prop) → Prop
  | [], k => k []
  | ⟨b, T, cs, ex⟩ :: r, k => forceL cs fun cs => match ex with
    | true => forceM r fun r' => k (⟨b, T, cs, true⟩ :: r')
    | false => forceM r fun r' => k (⟨b, T, cs, false⟩ :: r')
def flushD (s : St) (K : St → Prop) : Prop := match s with
  | ⟨mem, w, S, N, cl⟩ => match cl with
    | true => K ⟨mem, w, S, N, true⟩
    | false => forceM mem fun mem => ∀ w', Adv (idsB mem S) (idsB mem N) w w' → factsD mem w' (K ⟨mem, w', [], [], true⟩)
def tagOf (f : FA) : Operand → Tag
  | .tmp t => f.tag t
  | _ => none
def opIds (f : FA) : List Operand → List Nat
  | [] => []
  | x :: r => match tagOf f x with
    | some (k, _) => k :: opIds f r
    | none => opIds f r
def hasN : List Nat → Nat → Bool
  | [], _ => false
  | x :: r, i => match Nat.beq x i with
    | true => true
    | false => hasN r i
def exM (ids : List Nat) : Nat → List TB → List TB
  | _, [] => []
  | i, tb :: r => (match hasN ids i with
    | true => ⟨tb.b, tb.T, tb.cs, true⟩
    | false => tb) :: exM ids (i + 1) r
def exNew (ids : List Nat) : Nat → List TB → Bool
  | _, [] => false
  | i, tb :: r => match hasN ids i, tb.ex with
    | true, false => true
    | _, _ => exNew ids (i + 1) r
/-- The addresses of these blocks are known elsewhere from now on. -/
def expose (ids : List Nat) (s : St) : St := match ids with
  | [] => s
  | ids => match exNew ids 0 s.mem with
    | true => ⟨exM ids 0 s.mem, s.w, s.S, s.N, false⟩
    | false => s
def leak : Op → List Operand
  | .box _ x => [x]
  | .build _ ps => ps.toList.map (·.2)
  | .buildSlice _ _ ps => ps.toList.map (·.2)
  | .insert _ _ k x => [k, x]
  | .mapUpdate _ _ k x => [k, x]
  | .store _ a x => [a, x]
  | .makeInterface _ x => [x]
  | .makeFunc _ f c => f.toList ++ c.toList
  | .call c => (match c.callee with
    | .value x => [x]
    | .invoke x _ => [x]
    | _ => []) ++ c.args.toList
  | .pick _ a b => [a, b]
  | .slice _ x _ _ _ => [x]
  | .indexAddr _ x _ => [x]
  | .fieldAddr _ x _ => [x]
  | .range _ x => [x]
  | _ => []

/-! ### operations -/
def okL : Leaf → Value → Bool
  | .int k, .int k' _ => k == k'
  | .bool, .bool _ => true
  | .string, .string _ => true
  | .ptr, .pointer _ => true
  | .map, .map _ => true
  | .slice, .slice _ _ _ => true
  | .any, _ => true
  | _, _ => false
def okLs : List Leaf → List Value → Bool
  | [], _ => true
  | l :: ls, v :: vs => match okL l v with
    | true => okLs ls vs
    | false => false
  | _, _ => false
def ldTr (P : Program) (t : TypeId) (cs : List Value) (K : Value → Prop) : Prop :=
  match (leaves P 20 t).length == P.cellsOf t with
  | false => False
  | true => match okLs (leaves P 20 t) cs with
    | false => False
    | true => match (P.underlying t).isSome with
      | false => False
      | true => match isAggB P t with
        | true => K (.agg ⟨cs.take (P.cellsOf t)⟩)
        | false => match cs, leaves P 20 t with
          | v :: _, [_] => K v
          | _, _ => False
def splice : List Value → Nat → List Value → List Value
  | [], _, _ => []
  | x :: r, 0, [] => x :: r
  | x :: r, 0, v :: vs => v :: splice r 0 vs
  | x :: r, n + 1, vs => x :: splice r n vs
def Keep (bs : List Nat) (w w' : World) : Prop := ∀ b ∈ bs, b < w.heap.size → w'.heap[b]? = w.heap[b]?
def keepA (mem : List TB) (w w' : World) (F : Prop) : Prop := match mem with
  | [] => F
  | mem => Keep (mem.map (·.b)) w w' ∧ F
def nxB : List TB → List Nat
  | [] => []
  | tb :: r => match tb.ex with
    | true => nxB r
    | false => tb.b :: nxB r
def reD (P : Program) (w' : World) : List TB → (List TB → Prop) → Prop
  | [], F => F []
  | tb :: r, F => match tb.ex with
    | false => reD P w' r fun m => F (tb :: m)
    | true => exLs (leaves P 20 tb.T) fun vs => w'.heap[tb.b]? = some (.cells vs.toArray tb.T) ∧ reD P w' r fun m => F (⟨tb.b, tb.T, vs, true⟩ :: m)
/-- Behind what may write exposed blocks. -/
def keepX (P : Program) (mem : List TB) (w w' : World) (F : List TB → Prop) : Prop := match nxB mem with
  | [] => reD P w' mem F
  | bs => Keep bs w w' ∧ reD P w' mem F

/-- What an operation may do to blocks: 0 nothing, 1 make one, 2 write none of the tracked, 3 write the exposed ones. -/
def effN (P : Program) (o : Oper) : Nat := match o.op with
  | .alloc _ | .box _ _ | .buildSlice _ _ _ | .makeMap _ _ => 1
  | .store .. => 3
  | .makeSlice .. | .mapUpdate .. | .insert .. | .range .. | .next .. | .entry _ => 2
  | .convert src dst _ => match P.underlying src, P.underlying dst with
    | some .string, some (.slice _) => 2
    | some (.slice _), some .string => 2
    | _, _ => 0
  | .call c => match c.callee with
    | .builtin .append | .builtin .copy | .builtin .delete | .builtin .clear => 2
    | .builtin _ => 0
    | _ => 3
  | _ => 0
abbrev KOp := Value → Tag → St → Prop
def rawD (P : Program) (rest : List Oper) (o : Oper) (f : FA) (s0 : St) (K : KOp) : Prop :=
  match effN P o, readB P o with
  | 0, false => quietOp P o (evA f) s0.w fun v => K v none (expose (opIds f (leak o.op)) s0)
  | e, _ => flushD (expose (opIds f (leak o.op)) s0) fun s => match e with
    | 0 => quietOp P o (evA f) s.w fun v => K v none s
    | 1 => newOp P o (evA f) s.w fun v w' => K v none ⟨s.mem, w', [], [], true⟩
    | 2 => denOp P rest o (evA f) s.w fun v w' => keepA s.mem s.w w' (K v none ⟨s.mem, w', [], [], true⟩)
    | _ => denOp P rest o (evA f) s.w fun v w' => keepX P s.mem s.w w' fun mem => K v none ⟨mem, w', [], [], true⟩
def newB (s : St) (T : TypeId) (cs : List Value) (K : KOp) : Prop :=
  match s with
  | ⟨mem, w, S, N, cl⟩ => ∀ b, w.heap.size ≤ b → forceM (mem ++ [⟨b, T, cs, false⟩]) fun mem' => K (.pointer (some ⟨b, 0, none⟩)) (some (mem.length, 0)) ⟨mem', w, S, mem.length :: N, false⟩
def addS (N S : List Nat) (k : Nat) : List Nat := match hasN N k, hasN S k with
  | false, false => k :: S
  | _, _ => S
def idxLit : Operand → Option Nat
  | .const (.int _ (.ofNat n)) => some n
  | _ => none
/-- A choice between two values. -/
def pkB (t : Bool) (A B : Prop) : Prop := match t with
  | true => A
  | false => B
def den3Op (P : Program) (rest : List Oper) (o : Oper) (f : FA) (s : St) (K : KOp) : Prop :=
  match o.op with
  | .load t a => match tagOf f a with
    | some (k, off) => match s.mem[k]? with
      | some tb => ldTr P t (tb.cs.drop off) fun v => K v none s
      | none => False
    | none => rawD P rest o f s K
  | .store t a x => match tagOf f a with
    | some (k, off) => match (expose (opIds f [x]) s).mem[k]?, (evA f x).cells.size == P.cellsOf t, (P.underlying t).isSome, (evA f x).cells.toList.all leafB with
      | some tb, true, true, true => match Nat.ble (off + (evA f x).cells.size) tb.cs.length with
        | true => forceM ((expose (opIds f [x]) s).mem.set k ⟨tb.b, tb.T, splice tb.cs off (evA f x).cells.toList, tb.ex⟩) fun mem => K undef none ⟨mem, s.w, addS s.N s.S k, s.N, false⟩
        | false => False
      | _, _, _, _ => False
    | none => rawD P rest o f s K
  | .alloc e => match pureRun P (zeroValue e) with
    | some z => newB s e z.cells.toList K
    | none => False
  | .box e x => newB (expose (opIds f [x]) s) e (evA f x).cells.toList K
  | .fieldAddr t x fi => match tagOf f x with
    | some (k, off) => match s.mem[k]?, P.underlying t with
      | some tb, some (.struct fs) => match fs[fi]? with
        | some fl => match (P.info? fl.type).isSome, P.cellsOf fl.type with
          | true, _ + 1 => K (.pointer (some ⟨tb.b, off + fl.offset, none⟩)) (some (k, off + fl.offset)) s
          | _, _ => False
        | none => False
      | _, _ => False
    | none => rawD P rest o f s K
  | .indexAddr t x ix => match P.underlying t with
    | some (.array len e) => match (P.info? e).isSome with
      | false => False
      | true => match idxLit ix, tagOf f x with
        | some n, some (k, off) => match s.mem[k]?, Nat.blt n len with
          | some tb, true => K (.pointer (some ⟨tb.b, off + n * P.cellsOf e, none⟩)) (some (k, off + n * P.cellsOf e)) s
          | _, _ => False
        | _, _ => match evA f x, evA f ix with
          | .pointer (some a), .int _ i => 0 ≤ i ∧ i < len ∧ K (.pointer (some (a.add (i.toNat * P.cellsOf e)))) none (expose (opIds f [x]) s)
          | _, _ => False
    | _ => rawD P rest o f s K
  | .nilCheck x => match tagOf f x with
    | some (k, off) => match s.mem[k]? with
      | some tb => K (.pointer (some ⟨tb.b, off, none⟩)) (some (k, off)) s
      | none => False
    | none => rawD P rest o f s K
  | .move x => K (evA f x) (tagOf f x) s
  | .assign x => K (evA f x) (tagOf f x) s
  | .pick c a b => match evA f c with
    | .bool t => pkB t (K (evA f a) none (expose (opIds f [a, b]) s)) (K (evA f b) none (expose (opIds f [a, b]) s))
    | _ => False
  | _ => rawD P rest o f s K


/-! ### lists of operations -/
def den3Ops (P : Program) (ops : Array Oper) : List Oper → (FA → St → Prop) → FA → St → Prop
  | [], K, f, s => K f s
  | o :: r, K, f, s => match o.guard with
    | none => den3Op P r o f s fun v t s => den3Ops P ops r K (putA f o.dst v t) s
    | some (j, b) => match (ops[j]?).bind (·.dst) with
      | none => den3Ops P ops r K (putA f o.dst undef none) s
      | some d => match f.get d with
        | .bool t => brB t
            (match b with
              | true => den3Op P r o (putA f (some d) (.bool true) none) s fun v t s => den3Ops P ops r K (putA (putA f (some d) (.bool true) none) o.dst v t) s
              | false => den3Ops P ops r K (putA (putA f (some d) (.bool true) none) o.dst undef none) s)
            (match b with
              | false => den3Op P r o (putA f (some d) (.bool false) none) s fun v t s => den3Ops P ops r K (putA (putA f (some d) (.bool false) none) o.dst v t) s
              | true => den3Ops P ops r K (putA (putA f (some d) (.bool false) none) o.dst undef none) s)
        | _ => den3Ops P ops r K (putA f o.dst undef none) s

/-! ### regions whose order is open -/
structure DRec2 where
  i : Nat
  o : Oper
  f : FA
  v : Value
  tag : Tag
/-- What was read reads the same. -/
def sameA (P : Program) (g : DRec2) (w : World) : Prop := match g.o.op with
  | .load t a => match evA g.f a, (P.underlying t).isSome with
    | .pointer (some a), true => ldT P t w a fun u => u = g.v
    | _, _ => False
  | .lookup t x i ok => ∀ w', Mod [] w w' → (Instr.lookup t (evA g.f x) (evA g.f i) ok).run P w' = .ok g.v w'
  | _ => ∀ w', Mod [] w w' → (execOp (evA g.f) g.o).run P w' = .ok (.value g.v) w'
def sameD2 (P : Program) (g : DRec2) (s : St) : Prop := match g.tag, g.o.op with
  | some (k, off), .load t _ => match s.mem[k]? with
    | some tb => ldTr P t (tb.cs.drop off) fun u => u = g.v
    | none => False
  | _, _ => sameA P g s.w
def obl2 (P : Program) (m : List Nat) (i : Nat) : List DRec2 → St → Prop → Prop
  | [], _, F => F
  | g :: r, s, F => match depB m i g.i with
    | true => obl2 P m i r s F
    | false => sameD2 P g s ∧ obl2 P m i r s F
def keep2 (m : List Nat) (i : Nat) : List DRec2 → List DRec2
  | [] => []
  | g :: r => match depB m i g.i with
    | true => keep2 m i r
    | false => g :: keep2 m i r
def needW : List DRec2 → Bool
  | [] => false
  | g :: r => match g.tag with
    | none => true
    | _ => needW r
def oblD2 (P : Program) (m : List Nat) (i : Nat) (Γ : List DRec2) (s : St) (K : St → Prop) : Prop := match needW (keep2 m i Γ) with
  | true => flushD s fun s => obl2 P m i Γ s (K s)
  | false => obl2 P m i Γ s (K s)
def gone2 (m : List Nat) (i : Nat) : List DRec2 → List Nat
  | [] => []
  | g :: r => match depB m i g.i with
    | true => g.i :: gone2 m i r
    | false => gone2 m i r
def trkOf (f : FA) : Op → Tag
  | .load _ a => tagOf f a
  | _ => none
def stepD3 (P : Program) (ops : Array Oper) (m : List Nat) (L : List Nat) (i : Nat) (o : Oper) (Γ : List DRec2) (X : List Nat) (f : FA) (s : St) (K : List DRec2 → List Nat → FA → St → Prop) : Prop :=
  match stillB P o with
  | true => match effN P o with
    | 0 => den3Op P [] o f s fun v t s' => match readB P o with
      | true => K (⟨i, o, f, v, trkOf f o.op⟩ :: Γ) X (putA f o.dst v t) s'
      | false => K Γ X (putA f o.dst v t) s'
    | _ => False
  | false => match isNewB o with
    | true => den3Op P [] o f s fun v t s' => K Γ X (putA f o.dst v t) s'
    | false => den3Op P (operOf ops L) o f s fun v t s' => oblD2 P m i Γ s' fun s' => K (keep2 m i Γ) X (putA f o.dst v t) s'
def den3E (P : Program) (ops : Array Oper) (m : List Nat) : List Nat → List DRec2 → List Nat → (FA → St → Prop) → FA → St → Prop
  | [], _, _, K, f, s => K f s
  | i :: L, Γ, X, K, f, s => match ops[i]? with
    | none => False
    | some o => match o.guard with
      | none => stepD3 P ops m L i o Γ X f s fun Γ X f s => den3E P ops m L Γ X K f s
      | some (j, b) => match (ops[j]?).bind (·.dst) with
        | none => den3E P ops m L Γ X K (putA f o.dst undef none) s
        | some d => match f.get d with
          | .bool t => brB t
              (match b with
                | true => stepD3 P ops m L i o Γ X (putA f (some d) (.bool true) none) s fun Γ X f s => den3E P ops m L Γ X K f s
                | false => den3E P ops m L Γ X K (putA (putA f (some d) (.bool true) none) o.dst undef none) s)
              (match b with
                | false => stepD3 P ops m L i o Γ X (putA f (some d) (.bool false) none) s fun Γ X f s => den3E P ops m L Γ X K f s
                | true => den3E P ops m L Γ X K (putA (putA f (some d) (.bool false) none) o.dst undef none) s)
          | _ => den3E P ops m L Γ X K (putA f o.dst undef none) s

/-! ### 'ordB', reckoned faster -/
def tB (m i : Nat) : Bool := Nat.beq (Nat.land (Nat.shiftRight m i) 1) 1
def permM (n : Nat) : Nat → List Nat → Bool
  | m, [] => Nat.beq m (Nat.sub (Nat.shiftLeft 1 n) 1)
  | m, x :: r => match Nat.blt x n, tB m x with
    | true, false => permM n (Nat.lor m (Nat.shiftLeft 1 x)) r
    | _, _ => false
def oneE (n x : Nat) : List Edge → Bool
  | [] => true
  | e :: r => match Region.binds .any e with
    | false => oneE n x r
    | true => match Nat.blt e.on n, Nat.beq e.on x with
      | true, false => oneE n x r
      | _, _ => false
def oneB2 (n : Nat) (ops : Array Oper) (x : Nat) : Bool := match ops[x]? with
  | some o => match o.op with
    | .select .. => false
    | _ => oneE n x o.after.toList
  | none => false
def allB {α : Type} (p : α → Bool) : List α → Bool
  | [] => true
  | x :: r => match p x with
    | true => allB p r
    | false => false
def maskL : List Nat → Nat
  | [] => 0
  | x :: r => Nat.lor (maskL r) (Nat.shiftLeft 1 x)
def edgeM : List Edge → Nat
  | [] => 0
  | e :: r => match Region.binds .any e with
    | true => Nat.lor (edgeM r) (Nat.shiftLeft 1 e.on)
    | false => edgeM r
/-- An operation, by bits: whom it must follow at once, whom at all; does it leave the world; what it reads, what it puts. -/
structure OR where
  i : Nat
  em : Nat
  cm : Nat
  st : Bool
  rm : Nat
  dm : Nat
def dstM : Option Tmp → Nat
  | none => 0
  | some d => Nat.shiftLeft 1 d
def pair3 (x y : OR) : Bool := match tB y.cm x.i with
  | true => true
  | false => match x.st, Nat.beq (Nat.land x.dm (Nat.lor y.rm y.dm)) 0, Nat.beq (Nat.land y.dm x.rm) 0 with
    | true, true, true => true
    | _, _, _ => false
def restM : List OR → Nat
  | [] => 0
  | x :: r => Nat.lor (restM r) (Nat.shiftLeft 1 x.i)
def pairs3 : List OR → Bool
  | [] => true
  | x :: r => match Nat.beq (Nat.land x.em (restM r)) 0, allB (pair3 x) r with
    | true, true => pairs3 r
    | _, _ => false
def rowsO (P : Program) (ops : Array Oper) (m : List Nat) : List Nat → (List OR → Bool) → Bool
  | [], k => k []
  | i :: r, k => match ops[i]? with
    | none => false
    | some o => match stillB P o with
      | true => rowsO P ops m r fun l => k (⟨i, edgeM o.after.toList, m.getD i 0, true, maskL (o.looksAt ops), dstM o.dst⟩ :: l)
      | false => rowsO P ops m r fun l => k (⟨i, edgeM o.after.toList, m.getD i 0, false, maskL (o.looksAt ops), dstM o.dst⟩ :: l)
def ordB2 (P : Program) (ops : Array Oper) (L : List Nat) : Bool := match Nat.beq L.length ops.size, permM ops.size 0 L with
  | true, true => match allB (oneB2 ops.size ops) L with
    | true => rowsO P ops (clo ops) L pairs3
    | false => false
  | _, _ => false

/-! ### bodies -/
abbrev Kx3 := Exit → FA → St → Prop
def kthen3 (K : FA → St → Prop) (Q : Kx3) : Kx3
  | .normal, f, s => K f s
  | e, f, s => Q e f s
def kblock3 (id : Nat) (Q : Kx3) : Kx3
  | .exit i, f, s => match i == id with
    | true => Q .normal f s
    | false => Q (.exit i) f s
  | e, f, s => Q e f s
/-- What is known at a place of a body (a loop's head, a cut): its path, backwards; which slots are read behind it, which of them hold tracked variables' addresses; how many variables are tracked. -/
structure LA where
  path : List Nat
  live : List Nat
  tg : List (Nat × Nat × Nat)
  n : Nat
  ex : List Nat
def pathB : List Nat → List Nat → Bool
  | [], [] => true
  | x :: r, y :: t => match Nat.beq x y with
    | true => pathB r t
    | false => false
  | _, _ => false
def findA (p : List Nat) : List LA → Option LA
  | [] => none
  | a :: r => match pathB a.path p with
    | true => some a
    | false => findA p r
def tgA : List (Nat × Nat × Nat) → Nat → Tag
  | [], _ => none
  | (j, k, o) :: r, i => match Nat.beq j i with
    | true => some (k, o)
    | false => tgA r i
def valsA (f : FA) : List Nat → List Value
  | [] => []
  | i :: r => f.get i :: valsA f r
def mkU (tg : List (Nat × Nat × Nat)) : List Nat → List Value → List (Nat × Value × Tag)
  | i :: r, v :: vs => (i, v, tgA tg i) :: mkU tg r vs
  | _, _ => []
/-- The tags stand in the frame, of the first n variables. -/
def chkT (f : FA) (n : Nat) : List (Nat × Nat × Nat) → Bool
  | [] => true
  | (i, k, o) :: r => match f.tag i with
    | some (k', o') => match Nat.beq k k', Nat.beq o o', Nat.blt k n with
      | true, true, true => chkT f n r
      | _, _, _ => false
    | none => false
/-- On at such a place. -/
def atA (a : LA) (K : List Value → List TB → World → Prop) (f : FA) (s : St) : Prop := match chkT f a.n a.tg with
  | true => flushD (expose a.ex s) fun s => K (valsA f a.live) (s.mem.take a.n) s.w
  | false => False
def headA (a : LA) (D : FA → St → Prop) (vals : List Value) (js : Nat → Value) (mem : List TB) (w : World) : Prop :=
  factsD mem w (D ⟨mkU a.tg a.live vals, js⟩ ⟨mem, w, [], [], true⟩)
def loopD3 (a : LA) (D : Kx3 → FA → St → Prop) (Q : Kx3) (vals : List Value) (mem : List TB) (w : World) : Prop :=
  ∃ (I : Nat → List Value → List TB → World → Prop) (m : Nat), I m vals mem w ∧
    ∀ m vals mem w, I m vals mem w → vals.length = a.live.length ∧ mem.length = a.n ∧ ∀ js, headA a (D (kthen3 (atA a fun vals' mem' w' => ∃ m', m' < m ∧ I m' vals' mem' w') Q)) vals js mem w
def cutD3 (a : LA) (D : FA → St → Prop) (vals : List Value) (mem : List TB) (w : World) : Prop :=
  ∃ J : List Value → List TB → World → Prop, J vals mem w ∧
    ∀ vals mem w, J vals mem w → vals.length = a.live.length ∧ mem.length = a.n ∧ ∀ js, headA a D vals js mem w
def seqK (an : List LA) (rp : List Nat) (B : Kx3 → FA → St → Prop) (Q : Kx3) : Kx3 := match findA rp an with
  | none => kthen3 (B Q) Q
  | some a => kthen3 (atA a (cutD3 a (B Q))) Q
def allIds : Nat → List TB → List Nat
  | _, [] => []
  | i, _ :: r => i :: allIds (i + 1) r
def valsT (a : Act) : List Nat → List Value
  | [] => []
  | i :: r => a.tmps.getD i undef :: valsT a r
/-- Code that is left to the model's own condition. -/
def wpV (P : Program) (c : Code) (l : LA) (Q : Kx3) (vals : List Value) (mem : List TB) (w : World) : Prop :=
  ∀ (n : Nat) (a : Act), a.tmps.size = n → a.defers = [] → valsT a l.live = vals → c.wp P (fun e a w' => a.defers = [] ∧ a.tmps.size = n ∧ Q e ⟨[], fun i => a.tmps.getD i undef⟩ ⟨[], w', [], [], true⟩) a w
def wpD3 (P : Program) (an : List LA) (rp : List Nat) (c : Code) (Q : Kx3) (f : FA) (s : St) : Prop := match findA rp an with
  | some l => atA l (wpV P c l Q) f s
  | none => False
def dirty (s : St) : St := match s with
  | ⟨mem, w, S, N, _⟩ => ⟨mem, w, S, N, false⟩
/-- G: what is behind a ';' and what a loop's round does, by its path (backwards). -/
abbrev Gx := List Nat → Kx3 → FA → St → Prop
def den3 (P : Program) (an : List LA) (G : Gx) : List Nat → Code → Kx3 → FA → St → Prop
  | _, .skip, Q, f, s => Q .normal f s
  | rp, .region id ops draw, Q, f, s => match draw with
    | false => den3Ops P ops ops.toList (Q .normal) f s
    | true => match allB (fun o => stillB P o && Nat.beq (effN P o) 0) ops.toList && quietsB P ops with
      | true => den3Ops P ops ops.toList (fun f s => Q .normal f (dirty s)) f s
      | false => match ordB2 P ops (ordOf P ops) with
        | true => den3E P ops (clo ops) (ordOf P ops) [] [] (Q .normal) f (dirty s)
        | false => match splitO P ops (ordOf P ops) with
          | none => wpD3 P an rp (.region id ops true) Q f s
          | some (X, c, a, Y) => match ord3B P ops X c a Y with
            | true => den3E P ops (clo ops) (X ++ a :: c :: Y) [] [] (Q .normal) f (dirty s) ∧ den3E P ops (clo ops) (X ++ c :: a :: Y) [] [] (Q .normal) f (dirty s)
            | false => wpD3 P an rp (.region id ops true) Q f s
  | rp, .seq a _, Q, f, s => den3 P an G (0 :: rp) a (seqK an (1 :: rp) (G (1 :: rp)) Q) f s
  | rp, .cond c a b, Q, f, s => match evA f c with
    | .bool t => brB t (den3 P an G (0 :: rp) a Q f s) (den3 P an G (1 :: rp) b Q f s)
    | _ => False
  | rp, .block id c, Q, f, s => den3 P an G (0 :: rp) c (kblock3 id Q) f s
  | rp, .loop _, Q, f, s => match findA (0 :: rp) an with
    | some a => atA a (loopD3 a (G (0 :: rp)) Q) f s
    | none => False
  | _, .exit id, Q, f, s => Q (.exit id) f s
  | _, .ret, Q, f, s => Q .ret f s
  | _, .label _, Q, f, s => Q .normal f s
  | rp, c, Q, f, s => wpD3 P an rp c Q f s
def childC : Code → Nat → Code
  | .seq a _, 0 => a
  | .seq _ b, _ => b
  | .cond _ a _, 0 => a
  | .cond _ _ b, _ => b
  | .block _ c, _ => c
  | .loop c, _ => c
  | c, _ => c
def subR (root : Code) : List Nat → Code
  | [] => root
  | i :: rp => childC (subR root rp) i
def dnF (P : Program) (an : List LA) (root : Code) (k : Nat) : Gx :=
  Nat.rec (motive := fun _ => Gx) (fun _ _ _ _ => False) (fun _ G rp Q f s => den3 P an G rp (subR root rp) Q f s) k

/-- What goes on behind a part of a body; Ks: how the rounds of the loops round it go on, the outermost first. -/
abbrev Kh := List Value → List TB → World → Prop
def kontF (P : Program) (an : List LA) (root : Code) : Nat → List Nat → Code → List Nat → List Kh → Kx3 → Kx3
  | _, _, _, [], _, Q => Q
  | k, rp, .seq a _, 0 :: p, Ks, Q => kontF P an root k (0 :: rp) a p Ks (seqK an (1 :: rp) (dnF P an root k (1 :: rp)) Q)
  | k, rp, .seq _ b, _ :: p, Ks, Q => kontF P an root (Nat.pred k) (1 :: rp) b p Ks Q
  | k, rp, .cond _ a _, 0 :: p, Ks, Q => kontF P an root k (0 :: rp) a p Ks Q
  | k, rp, .cond _ _ b, _ :: p, Ks, Q => kontF P an root k (1 :: rp) b p Ks Q
  | k, rp, .block i c, _ :: p, Ks, Q => kontF P an root k (0 :: rp) c p Ks (kblock3 i Q)
  | k, rp, .loop c, _ :: p, K :: Ks, Q => match findA (0 :: rp) an with
    | some a => kontF P an root (Nat.pred k) (0 :: rp) c p Ks (kthen3 (atA a K) Q)
    | none => Q
  | _, _, _, _, _, Q => Q
def kont3 (P : Program) (an : List LA) (c : Code) (p : List Nat) (Ks : List Kh) (Q : Kx3) : Kx3 := kontF P an c 399 [] c p Ks Q

def retD3 (P : Program) : List ResultVar → FA → St → (List Value → Prop) → Prop
  | [], _, _, F => F []
  | .tmp t :: r, f, s, F => retD3 P r f s fun vs => F (f.get t :: vs)
  | .cell a t :: r, f, s, F => match f.tag a with
    | some (k, off) => match s.mem[k]? with
      | some tb => ldTr P t (tb.cs.drop off) fun v => retD3 P r f s fun vs => F (v :: vs)
      | none => False
    | none => match f.get a, (P.underlying t).isSome with
      | .pointer (some a), true => ldT P t s.w a fun v => retD3 P r f s fun vs => F (v :: vs)
      | _, _ => False
def resOps : List ResultVar → List Operand
  | [] => []
  | .tmp t :: r => .tmp t :: resOps r
  | .cell _ _ :: r => resOps r
/-- What a body's ending must give; the blocks 'np' are the caller's. -/
def post3 (P : Program) (fn : Func) (np : List Nat) (R : Value → World → Prop) : Kx3
  | .normal, f, s | .ret, f, s => flushD (expose (np ++ opIds f (resOps fn.results.toList)) s) fun s => retD3 P fn.results.toList f s fun vs => match vs with
    | [v] => R v s.w
    | vs => R (.tuple ⟨vs⟩) s.w
  | _, _, _ => False
/-- No operation puts its result behind the frame. -/
def dstB (n : Nat) : List Oper → Bool
  | [] => true
  | o :: r => match o.dst with
    | none => dstB n r
    | some d => match Nat.blt d n with
      | true => dstB n r
      | false => false
def dstsB (n : Nat) : Code → Bool
  | .region _ ops _ => dstB n ops.toList
  | .seq a b => match dstsB n a with
    | true => dstsB n b
    | false => false
  | .cond _ a b => match dstsB n a with
    | true => dstsB n b
    | false => false
  | .block _ c => dstsB n c
  | .loop c => dstsB n c
  | _ => true
/-- A frame at a body's beginning. -/
def args0 : Nat → List Value → List (Nat × Value × Tag)
  | _, [] => []
  | i, v :: r => (i, v, none) :: args0 (i + 1) r
end Go.Proofs.Ytohgihgddknmmaa
