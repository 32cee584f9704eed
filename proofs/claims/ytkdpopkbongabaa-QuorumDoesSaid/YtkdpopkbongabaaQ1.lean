/- Layer 17's functions, by their contracts. -/
import Derived.Test.YtkdpopkbongabaaLib
import Derived.Test.YtkdpopkbongabaaGen17
namespace Go.Proofs.Ytkdpopkbongabaa
open Go Go.RowKit Go.Maps Go.MapKept
set_option linter.unusedVariables false
set_option linter.unusedSimpArgs false

theorem go_of {P : Program} {f : FuncId} {args : Array Value} {w : World} {X : Value} {S : World → Prop} (h : Calls P f args w fun e w' => ∃ v, e = .returned v ∧ (v = X ∧ S w')) : Calls P f args w fun e w' => e = .returned X ∧ S w' :=
  h.mono fun e w' ⟨v, h1, h2, h3⟩ => ⟨by rw [h1, h2], h3⟩

/-! ### numbers -/
def num (n : Int) : Bool := decide (0 ≤ n ∧ n ≤ 1099511627776)
def mayB (n : Int) : Bool := decide (1 ≤ n ∧ n ≤ 7)
def need (n : Int) : Int := if mayB n then n / 2 + 1 else 0
def prim (view n : Int) : Int := if mayB n ∧ 0 ≤ view then view % n else -1

theorem may_ok (n : Int) (w : World) : Calls Try.prog 29 #[.int .i64 n] w fun e w' => e = .returned (.bool (mayB n)) ∧ w' = w :=
  go_of (quorum_may_go (brB_dec (fun h => ⟨by simp [mayB]; omega, rfl⟩) (fun h => ⟨by simp [mayB]; omega, rfl⟩)))
theorem number_ok (n : Int) (w : World) : Calls Try.prog 30 #[.int .i64 n] w fun e w' => e = .returned (.bool (num n)) ∧ w' = w :=
  go_of (quorum_number_go (brB_dec (fun h => ⟨by simp [num]; omega, rfl⟩) (fun h => ⟨by simp [num]; omega, rfl⟩)))

theorem Need_ok (n : Int) (w : World) : Calls Try.prog 12 #[.int .i64 n] w fun e w' => e = .returned (.int .i64 (need n)) ∧ w' = w := by
  refine go_of (quorum_Need_go ?_)
  refine (may_ok n w).mono ?_
  rintro e w' ⟨rfl, rfl⟩
  refine ⟨_, rfl, ?_⟩
  refine brB_of (fun h => ⟨by simp at h; simp [need, h], rfl⟩) (fun h => ⟨by decide, ?_⟩)
  have h : mayB n = true := by simpa using h
  have h2 : 1 ≤ n ∧ n ≤ 7 := by simpa [mayB] using h
  refine ⟨?_, rfl⟩
  have e1 : n.tdiv 2 = n / 2 := Int.tdiv_eq_ediv_of_nonneg (by omega)
  rw [e1, wrap_id (x := n / 2) (by omega) (by omega), wrap_id (by omega) (by omega), need, if_pos h]

theorem Primary_ok (view n : Int) (w : World) : Calls Try.prog 15 #[.int .i64 view, .int .i64 n] w fun e w' => e = .returned (.int .i64 (prim view n)) ∧ w' = w := by
  refine go_of (quorum_Primary_go ?_)
  refine (may_ok n w).mono ?_
  rintro e w' ⟨rfl, rfl⟩
  refine ⟨_, rfl, ?_⟩
  refine brB_of (fun h => ⟨by simp at h; simp [prim, h], rfl⟩) (fun h => ?_)
  have h : mayB n = true := by simpa using h
  have h2 : 1 ≤ n ∧ n ≤ 7 := by simpa [mayB] using h
  refine brB_dec (fun hv => ⟨by simp [prim]; intro _ h3; omega, rfl⟩) (fun hv => ⟨by omega, ?_, rfl⟩)
  have e1 : view.tmod n = view % n := Int.tmod_eq_emod_of_nonneg (by omega)
  rw [e1, prim, if_pos ⟨h, by omega⟩]

/-! ### votes, boxes -/
structure Vt where
  f : Int
  n : Int
  l : Int
  c : Int
  deriving DecidableEq
def encV (x : Vt) : List Value := [.int .i64 x.f, .int .i64 x.n, .int .i64 x.l, .int .i64 x.c]
def Vt.v (x : Vt) : Value := .agg #[.int .i64 x.f, .int .i64 x.n, .int .i64 x.l, .int .i64 x.c]
abbrev Ky := Int × Int × Int
def Ky.v (k : Ky) : Value := .agg #[.int .i64 k.1, .int .i64 k.2.1, .int .i64 k.2.2]
def i64B (n : Int) : Prop := -9223372036854775808 ≤ n ∧ n ≤ 9223372036854775807

theorem Ky_inj : ∀ a b : Ky, Ky.v a = Ky.v b → a = b := by
  intro ⟨a, b, c⟩ ⟨a', b', c'⟩ h
  simp [Ky.v] at h
  simp [h]
theorem keyLaw : Keyed Try.prog 56 :=
  Keyed.of_law (deep_law_laid (by kernel_rfl) (m := 2) (by omega) (of_decide_eq_true (by kernel_rfl)) (by kernel_rfl) (by rw [Try.underlying56]))
theorem wf64 {n : Int} (h : i64B n) : (Lit.int .i64 n).wf = true := by
  simp [Lit.wf, IntKind.min, IntKind.max, IntKind.signed, IntKind.bits]; exact h
theorem keyOf_Ky {k : Ky} (h1 : i64B k.1) (h2 : i64B k.2.1) (h3 : i64B k.2.2) : ∃ l, keyOf Try.prog 56 k.v = some l := by
  obtain ⟨a, b, c⟩ := k
  have hk : Try.prog.keyType 56 = true := by kernel_rfl
  have hc : Try.prog.cellsOf 56 = 3 := by kernel_rfl
  have hc1 : Try.prog.cellsOf 3 = 1 := by kernel_rfl
  have hf : (Ky.v (a, b, c)).formed Try.prog 56 = true := by simp [Value.formed, Try.underlying56, hc, Ky.v]
  obtain ⟨s, hs⟩ : ∃ s, Try.prog.types.size = s + 1 := ⟨Try.prog.types.size - 1, (Nat.succ_pred_eq_of_pos (of_decide_eq_true (by kernel_rfl))).symm⟩
  have hl : ∃ l, Try.prog.keyLits (Try.prog.types.size + 1) 56 (Ky.v (a, b, c)).cells.toList = some l := by
    rw [hs]
    simp [Program.keyLits, Try.underlying56, Try.underlying3, hc, hc1, Ky.v, Value.cells, List.range, List.range.loop, wf64 h1, wf64 h2, wf64 h3]
  obtain ⟨l, hl⟩ := hl
  exact ⟨.string (keyBytes l), by unfold keyOf; simp only [Try.underlying56, hk, hf, Bool.and_self, if_true, hl, Option.map_some]⟩

/-- A box of layer 17: for so many replicas, with such votes. -/
structure BoxAt (w : World) (b : Nat) (n : Int) (m : Nat) (L : List (Ky × Vt)) : Prop where
  cells : w.heap[b]? = some (.cells #[.int .i64 n, .map (some m)] 54)
  map : MapAt Try.prog 56 Ky.v Vt.v w m L
theorem BoxAt.ne {w : World} {b m : Nat} {n : Int} {L : List (Ky × Vt)} (h : BoxAt w b n m L) : b ≠ m := by
  rintro rfl
  obtain ⟨es, cl, hb, _⟩ := h.map
  rw [h.cells] at hb; cases hb
theorem BoxAt.keep {S : List Nat} {w w' : World} {b m : Nat} {n : Int} {L : List (Ky × Vt)} (h : BoxAt w b n m L) (hm : Mod S w w') (h1 : b ∉ S) (h2 : m ∉ S) : BoxAt w' b n m L :=
  ⟨hm.keep h.cells h1, h.map.of_block (hm.block m h.map.lt h2)⟩
theorem BoxAt.keep0 {w w' : World} {b m : Nat} {n : Int} {L : List (Ky × Vt)} (h : BoxAt w b n m L) (hm : Mod [] w w') : BoxAt w' b n m L := h.keep hm (by simp) (by simp)

def badB (n view kind : Int) (x : Vt) : Bool := decide (view < 0) || decide (kind < 0) || decide (x.f < 0) || decide (x.f ≥ n) || !num x.n || !num x.l || !num x.c
def voteE (n : Int) (L : List (Ky × Vt)) (view kind : Int) (x : Vt) : Int :=
  if badB n view kind x then 1 else match lkp L (view, kind, x.f) with
    | some y => if y = x then 0 else 170
    | none => 0
def voteL (n : Int) (L : List (Ky × Vt)) (view kind : Int) (x : Vt) : List (Ky × Vt) :=
  if voteE n L view kind x = 0 then put L (view, kind, x.f) x else L

theorem zeroV (w : World) : (zeroValue 29).run Try.prog w = .ok (Vt.v ⟨0, 0, 0, 0⟩) w := by kernel_rfl
theorem setBlock_mod {w : World} {b : Nat} {o : Obj} : Mod [b] w (Go.ChangeMaps.setBlock w b o) :=
  ⟨rfl, rfl, rfl, by simp [Go.ChangeMaps.setBlock], fun k hk hS => setBlock_other (by simpa using hS)⟩

theorem neV (x y : Vt) (o1 o2 : Operand) (w : World) : Sem.run Try.prog (do eqGuard .neq 29 o1 o2 x.v y.v; Go.binOp .neq 29 x.v y.v) w = .ok (.bool (decide (x ≠ y))) w := by
  obtain ⟨a, b, c, d⟩ := x
  obtain ⟨a', b', c', d'⟩ := y
  simp [go_sem, Sem.run_bind, Vt.v]
  by_cases h1 : a = a' <;> by_cases h2 : b = b' <;> by_cases h3 : c = c' <;> by_cases h4 : d = d' <;> simp [h1, h2, h3, h4]
theorem eqV (x y : Vt) (o1 o2 : Operand) (w : World) : Sem.run Try.prog (do eqGuard .eql 29 o1 o2 x.v y.v; Go.binOp .eql 29 x.v y.v) w = .ok (.bool (decide (x = y))) w := by
  obtain ⟨a, b, c, d⟩ := x
  obtain ⟨a', b', c', d'⟩ := y
  simp [go_sem, Sem.run_bind, Vt.v]
  by_cases h1 : a = a' <;> by_cases h2 : b = b' <;> by_cases h3 : c = c' <;> by_cases h4 : d = d' <;> simp [h1, h2, h3, h4]

theorem New_ok (n : Int) (w : World) : Calls Try.prog 8 #[.int .i64 n] w fun e w' =>
    (mayB n = false ∧ e = .returned (.tuple #[.pointer none, .int .i64 1]) ∧ w' = w) ∨
    (mayB n = true ∧ ∃ b m, e = .returned (.tuple #[.pointer (some ⟨b, 0, none⟩), .int .i64 0]) ∧ BoxAt w' b n m [] ∧ Mod [] w w' ∧ w.heap.size ≤ b ∧ w.heap.size ≤ m) := by
  refine (quorum_New_go (R := fun v w' => (mayB n = false ∧ v = .tuple #[.pointer none, .int .i64 1] ∧ w' = w) ∨
    (mayB n = true ∧ ∃ b m, v = .tuple #[.pointer (some ⟨b, 0, none⟩), .int .i64 0] ∧ BoxAt w' b n m [] ∧ Mod [] w w' ∧ w.heap.size ≤ b ∧ w.heap.size ≤ m)) ?_).mono ?_
  · refine (may_ok n w).mono ?_
    rintro e w' ⟨rfl, rfl⟩
    refine ⟨_, rfl, ?_⟩
    refine brB_of (fun h => .inl ⟨by simpa using h, rfl, rfl⟩) (fun h => ?_)
    show al _ _ _
    refine al_of fun m w1 h1 M1 f1 => ?_
    refine al_of fun b w2 h2 M2 f2 => ?_
    refine .inr ⟨by simpa using h, b, m, rfl, ⟨h2, MapAt.of_new (M2.keep0 h1)⟩, by simpa using M1.trans M2, ?_, f1⟩
    have := M1.size; omega
  · rintro e w' ⟨v, rfl, h⟩
    rcases h with ⟨h1, rfl, h3⟩ | ⟨h1, b, m, rfl, h3⟩
    · exact .inl ⟨h1, rfl, h3⟩
    · exact .inr ⟨h1, b, m, rfl, h3⟩


theorem Vote_ok {b m : Nat} {n view kind : Int} {L : List (Ky × Vt)} {x : Vt} {w : World} (hB : BoxAt w b n m L) (h1 : i64B view) (h2 : i64B kind) (h3 : i64B x.f) :
    Calls Try.prog 9 #[.pointer (some ⟨b, 0, none⟩), .int .i64 view, .int .i64 kind, x.v] w fun e w' =>
      e = .returned (.int .i64 (voteE n L view kind x)) ∧ BoxAt w' b n m (voteL n L view kind x) ∧ Mod [m] w w' := by
  refine go_of (quorum_Box_Vote_go (a0_b := ⟨b, 0, none⟩) ?_)
  obtain ⟨l, hk⟩ := keyOf_Ky (k := (view, kind, x.f)) h1 h2 h3
  have bad : ∀ {w'}, badB n view kind x = true → Mod [] w w' → (.int .i64 1 : Value) = .int .i64 (voteE n L view kind x) ∧ BoxAt w' b n m (voteL n L view kind x) ∧ Mod [m] w w' := fun {w'} hb hm => by
    have e1 : voteE n L view kind x = 1 := by simp [voteE, hb]
    have e2 : voteL n L view kind x = L := by simp [voteL, e1]
    rw [e1, e2]
    exact ⟨rfl, hB.keep0 hm, hm.less (by simp)⟩
  refine al_of fun b1 w2 c1 M2 f1 => ?_
  intro w3 M3
  have M3' : Mod [] w w3 := M2.trans M3
  have c1 := M3.keep0 c1
  have B3 := hB.keep0 M3'
  refine brB_dec (fun h => bad (by simp [badB, h]) M3') fun g1 => ?_
  refine brB_dec (fun h => bad (by simp [badB, h]) M3') fun g2 => ?_
  refine ldInt_at c1 rfl ?_
  refine brB_dec (fun h => bad (by simp [badB, h]) M3') fun g3 => ?_
  refine ldInt_at c1 rfl ?_
  refine ldInt_at B3.cells rfl ?_
  refine brB_dec (fun h => bad (by simp [badB, h]) M3') fun g4 => ?_
  refine ldInt_at c1 rfl ?_
  refine (number_ok _ _).mono ?_
  rintro e w4 ⟨rfl, rfl⟩
  refine ⟨_, rfl, brB_of (fun h => bad (by simp at h; simp [badB, h]) M3') fun g5 => ?_⟩
  refine ldInt_at c1 rfl ?_
  refine (number_ok _ _).mono ?_
  rintro e w5 ⟨rfl, rfl⟩
  refine ⟨_, rfl, brB_of (fun h => bad (by simp at h; simp [badB, h]) M3') fun g6 => ?_⟩
  refine ldInt_at c1 rfl ?_
  refine (number_ok _ _).mono ?_
  rintro e w6 ⟨rfl, rfl⟩
  refine ⟨_, rfl, brB_of (fun h => bad (by simp at h; simp [badB, h]) M3') fun g7 => ?_⟩
  have good : badB n view kind x = false := by simp at g5 g6 g7; simp [badB, g1, g2, g3, g4, g5, g6, g7]
  refine ldInt_at c1 rfl ?_
  refine al_st rfl rfl fun b2 w7 c2 M7 f2 => ?_
  intro w8 M8
  have M78 : Mod [] w6 w8 := M7.trans M8
  have c2 := M8.keep0 c2
  have c1 := M78.keep0 c1
  have B8 := B3.keep0 M78
  refine ldMap_at B8.cells rfl ?_
  refine ldInt_at c2 rfl (ldInt_at c2 rfl (ldInt_at c2 rfl ?_))
  have look := fun w' (hm : Mod [] w8 w') => (B8.keep0 hm).map.look true keyLaw Ky_inj Try.underlying52 (zeroV w') hk
  have hwx : Mod [] w w8 := M3'.trans M78
  -- the vote goes in
  have fin : ∀ w9, Mod [] w8 w9 → voteE n L view kind x = 0 → effU Try.prog (Instr.mapUpdate 52 (.map (some m)) (Ky.v (view, kind, x.f)) x.v) w9 fun w' =>
      (.int .i64 0 : Value) = .int .i64 (voteE n L view kind x) ∧ BoxAt w' b n m (voteL n L view kind x) ∧ Mod [m] w w' := fun w9 M9 h0 => by
    have B9 := B8.keep0 M9
    obtain ⟨o, hr, hm⟩ := B9.map.update keyLaw Ky_inj Try.underlying52 x hk
    have hM := setBlock_mod (w := w9) (b := m) (o := o)
    refine ⟨_, hr, by rw [h0], ⟨hM.keep B9.cells (by simpa using hB.ne), by simpa [voteL, h0] using hm⟩, ((hwx.trans M9).trans hM).less (by simp)⟩
  cases hl : lkp L (view, kind, x.f) with
  | none =>
    have h0 : voteE n L view kind x = 0 := by simp [voteE, good, hl]
    refine ⟨0, 0, 0, 0, false, fun w' hm => by have := look w' hm; rw [hl] at this; exact this, ?_⟩
    refine al_st rfl rfl fun b3 w9 c3 M9 f3 => ?_
    show _
    intro w10 M10
    have M := M9.trans M10
    refine ldMap_at (B8.keep0 M).cells rfl ?_
    have c2 := M.keep0 c2
    have c1 := M.keep0 c1
    refine ldInt_at c2 rfl (ldInt_at c2 rfl (ldInt_at c2 rfl (ldInt_at c1 rfl (ldInt_at c1 rfl (ldInt_at c1 rfl (ldInt_at c1 rfl ?_))))))
    exact fin w10 M h0
  | some y =>
    refine ⟨y.f, y.n, y.l, y.c, true, fun w' hm => by have := look w' hm; rw [hl] at this; exact this, ?_⟩
    refine al_st rfl rfl fun b3 w9 c3 M9 f3 => ?_
    have c1' := M9.keep0 c1
    show _
    refine ldInt_at c3 rfl (ldInt_at c3 rfl (ldInt_at c3 rfl (ldInt_at c3 rfl (ldInt_at c1' rfl (ldInt_at c1' rfl (ldInt_at c1' rfl (ldInt_at c1' rfl ?_)))))))
    refine ⟨decide (y ≠ x), fun w' _ => neV y x _ _ w', brB_dec (fun h => ?_) fun h => ?_⟩
    · have e1 : voteE n L view kind x = 170 := by simp [voteE, good, hl, h]
      have e2 : voteL n L view kind x = L := by simp [voteL, e1]
      rw [e1, e2]
      exact ⟨rfl, B8.keep0 M9, (hwx.trans M9).less (by simp)⟩
    · have h0 : voteE n L view kind x = 0 := by simp at h; simp [voteE, good, hl, h]
      intro w10 M10
      have M := M9.trans M10
      refine ldMap_at (B8.keep0 M).cells rfl ?_
      have c2 := M.keep0 c2
      have c1 := M.keep0 c1
      refine ldInt_at c2 rfl (ldInt_at c2 rfl (ldInt_at c2 rfl (ldInt_at c1 rfl (ldInt_at c1 rfl (ldInt_at c1 rfl (ldInt_at c1 rfl ?_))))))
      exact fin w10 M h0

end Go.Proofs.Ytkdpopkbongabaa
