/- Commands, calls, messages as data. -/
import Derived.Test.YtohgihgddknmmaaC5
import Derived.Test.YtohgihgddknmmaaWd3
namespace Go.Proofs.Ytohgihgddknmmaa
open Go Go.RowKit
set_option linter.unusedVariables false
set_option linter.unusedSimpArgs false

structure PBatch where
  prod : Int
  epoch : Int
  seq : Int
  recs : List PRec
  deriving DecidableEq
structure POp where
  kind : Int
  part : PPart
  n : Int
  off : Int
  b : PBatch
  g : ByteArray
  m : ByteArray
  gen : Int
  robin : Bool
  topics : List ByteArray
  deriving DecidableEq
structure PCall where
  c : Int
  n : Int
  op : POp
  deriving DecidableEq
def encR (r : PRec) : List Value := [.bool r.hk, .string r.key, .bool r.tomb, .string r.val]
def encS (s : ByteArray) : List Value := [.string s]
theorem encR_len (r : PRec) : (encR r).length = 4 := rfl
theorem encS_len (s : ByteArray) : (encS s).length = 1 := rfl
theorem encR_one (x : PRec) : ∀ u ∈ encR x, u.oneCell' = true := by simp [encR, Value.oneCell']
theorem encS_one (x : ByteArray) : ∀ u ∈ encS x, u.oneCell' = true := by simp [encS, Value.oneCell']
def POp.cs (o : POp) (rs ts : Sl) : List Value := [.int .i64 o.kind, .string o.part.t, .int .i64 o.part.n, .int .i64 o.n, .int .i64 o.off, .int .i64 o.b.prod, .int .i64 o.b.epoch, .int .i64 o.b.seq, .slice rs.a rs.n rs.c, .string o.g, .string o.m, .int .i64 o.gen, .bool o.robin, .slice ts.a ts.n ts.c]
def POp.v (o : POp) (rs ts : Sl) : Value := .agg #[.int .i64 o.kind, .string o.part.t, .int .i64 o.part.n, .int .i64 o.n, .int .i64 o.off, .int .i64 o.b.prod, .int .i64 o.b.epoch, .int .i64 o.b.seq, .slice rs.a rs.n rs.c, .string o.g, .string o.m, .int .i64 o.gen, .bool o.robin, .slice ts.a ts.n ts.c]
theorem POp.cs_len (o : POp) (rs ts : Sl) : (o.cs rs ts).length = 14 := rfl
def batch0 : PBatch := ⟨0, 0, 0, []⟩
def op0 : POp := ⟨0, ⟨⟨#[]⟩, 0⟩, 0, 0, batch0, ⟨#[]⟩, ⟨#[]⟩, 0, false, []⟩
/-- What its slices read as. -/
structure OpAt (w : World) (o : POp) (rs ts : Sl) : Prop where
  recs : SlAt w 4 encR rs.a rs.n o.b.recs
  topics : SlAt w 1 encS ts.a ts.n o.topics
  lr : o.b.recs.length ≤ 1000000
  lt : o.topics.length ≤ 1000000
structure OpOwn (w : World) (base : Nat) (o : POp) (rs ts : Sl) : Prop where
  recs : Row w base 90 4 encR rs.a rs.n rs.c o.b.recs
  topics : Row w base 9 1 encS ts.a ts.n ts.c o.topics
  lr : o.b.recs.length ≤ 1000000
  lt : o.topics.length ≤ 1000000
theorem OpOwn.at {w : World} {base : Nat} {o : POp} {rs ts : Sl} (h : OpOwn w base o rs ts) : OpAt w o rs ts := ⟨h.recs.sl encR_len, h.topics.sl encS_len, h.lr, h.lt⟩
theorem OpAt.keep0 {w w' : World} {o : POp} {rs ts : Sl} (h : OpAt w o rs ts) (M : Mod [] w w') : OpAt w' o rs ts := ⟨h.recs.keep0 M, h.topics.keep0 M, h.lr, h.lt⟩
theorem OpOwn.keep0 {w w' : World} {base : Nat} {o : POp} {rs ts : Sl} (h : OpOwn w base o rs ts) (M : Mod [] w w') : OpOwn w' base o rs ts := ⟨h.recs.keep0 M, h.topics.keep0 M, h.lr, h.lt⟩
theorem OpOwn.rebase {w : World} {base base' : Nat} {o : POp} {rs ts : Sl} (h : OpOwn w base o rs ts) (hb : base' ≤ base) : OpOwn w base' o rs ts := ⟨h.recs.rebase hb, h.topics.rebase hb, h.lr, h.lt⟩
theorem op0_own (w : World) (base : Nat) : OpOwn w base op0 ⟨none, 0, 0⟩ ⟨none, 0, 0⟩ := ⟨Row.nil .., Row.nil .., by simp [op0, batch0], by simp [op0]⟩

/-! ### what may be -/
def batchE (b : PBatch) : Int :=
  if (num b.prod && num b.epoch && num b.seq) = false then 1 else if b.recs.length = 0 then 30 else if b.recs.length > 16 then 2 else
    match b.recs.find? fun r => recE r ≠ 0 with
    | none => 0
    | some r => recE r
/-- What a kind has, by letters' numbers. -/
def hasL (k : Int) : List Nat :=
  if k = 0 then [116, 110] else if k = 1 then [110] else if k = 2 then [112, 98] else if k = 3 then [112, 111, 110] else if k = 4 then [112, 111] else if k = 5 then [112]
  else if k = 6 then [103, 109, 110, 114, 108] else if k = 7 then [103, 109, 101] else if k = 8 then [103, 109, 101] else if k = 9 then [103, 109, 101] else if k = 10 then [103, 109, 101, 112, 111] else if k = 11 then [103, 112] else [110]
def ha (k : Int) (c : Nat) : Bool := (hasL k).contains c
def emptyB (s : ByteArray) : Bool := decide (s.size = 0)
/-- Does a text stand ahead of another one? -/
def lessB (s t : ByteArray) : Bool := Op.bytesLess s.toList t.toList
def riseB : List ByteArray → Bool
  | s :: t :: r => lessB s t && riseB (t :: r)
  | _ => true
def namesB (l : List ByteArray) : Bool := decide (1 ≤ l.length ∧ l.length ≤ 8) && l.all nameB && riseB l
def onlyB (o : POp) : Bool :=
  (ha o.kind 112 || ha o.kind 116 || emptyB o.part.t) && (ha o.kind 112 || decide (o.part.n = 0)) && (ha o.kind 110 || decide (o.n = 0)) && (ha o.kind 111 || decide (o.off = 0)) &&
  (ha o.kind 98 || decide (o.b = batch0)) && (ha o.kind 103 || emptyB o.g) && (ha o.kind 109 || emptyB o.m) && (ha o.kind 101 || decide (o.gen = 0)) && (ha o.kind 114 || (!o.robin && decide (o.topics = [])))
def formB (o : POp) : Bool :=
  onlyB o && (!(ha o.kind 112 || ha o.kind 116) || nameB o.part.t) && (!ha o.kind 103 || nameB o.g) && (!ha o.kind 109 || nameB o.m) && (!ha o.kind 108 || namesB o.topics)
def opE (o : POp) : Int :=
  if o.kind < 0 ∨ o.kind > 12 then 41 else if formB o = false then 40 else if (num o.part.n && num o.n && num o.off && num o.gen) = false then 1 else if o.kind = 2 then batchE o.b else 0
end Go.Proofs.Ytohgihgddknmmaa
