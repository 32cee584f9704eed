/- What a table answers, by cases; rows that are read. -/
import Derived.Test.YtdgiemnadpkcfaaC11
import Derived.Test.YtdgiemnadpkcfaaRead
namespace Go.Proofs.Ytdgiemnadpkcfaa
open Go Go.RowKit Go.Maps Go.MapKept
set_option linter.unusedVariables false
set_option linter.unusedSimpArgs false

theorem bAnd_range {x m : Int} (h0 : 0 ≤ m) (h1 : m ≤ 9223372036854775807) : 0 ≤ bAnd .i64 x m ∧ bAnd .i64 x m ≤ m := by
  unfold bAnd
  have e : (BitVec.ofInt IntKind.i64.bits m).toNat = m.toNat := by
    show (BitVec.ofInt 64 m).toNat = _
    rw [BitVec.toNat_ofInt]
    have : m % ((2 ^ 64 : Nat) : Int) = m := Int.emod_eq_of_lt h0 (by omega)
    rw [this]
  have h : (BitVec.ofInt IntKind.i64.bits x &&& BitVec.ofInt IntKind.i64.bits m).toNat ≤ m.toNat := by
    rw [BitVec.toNat_and, ← e]; exact Nat.and_le_right
  rw [wrap_id (by omega) (by omega)]
  omega
theorem num1_of {n : Int} (h1 : 1 ≤ n) (h2 : n ≤ 1099511627776) : num1 n = true := by simp [num1]; omega
theorem askS_bad {T : Tb} {c n : Int} (h : (num1 c && num1 n) = false) : askS T c n = (0, rep0, 1) := by rw [askS, if_pos h]
theorem askS_ok {T : Tb} {c n : Int} (h1 : num1 c = true) (h2 : num1 n = true) : askS T c n = match lkp T c with
    | none => (0, rep0, 0)
    | some x => if n > x.n then (0, rep0, 0) else if n < x.n then (0, rep0, 150) else if x.done then (1, x.r, 0) else (2, rep0, 0) := by
  rw [askS, if_neg (by rw [h1, h2]; decide)]
  rfl
theorem askS_none {T : Tb} {c n : Int} (h1 : num1 c = true) (h2 : num1 n = true) (h : lkp T c = none) : askS T c n = (0, rep0, 0) := by rw [askS_ok h1 h2, h]
theorem askS_gt {T : Tb} {c n : Int} {x : PLast} (h1 : num1 c = true) (h2 : num1 n = true) (h : lkp T c = some x) (hn : x.n < n) : askS T c n = (0, rep0, 0) := by
  rw [askS_ok h1 h2, h]; simp only; rw [if_pos hn]
theorem askS_lt {T : Tb} {c n : Int} {x : PLast} (h1 : num1 c = true) (h2 : num1 n = true) (h : lkp T c = some x) (hn : n < x.n) : askS T c n = (0, rep0, 150) := by
  rw [askS_ok h1 h2, h]; simp only; rw [if_neg (by omega), if_pos hn]
theorem askS_again {T : Tb} {c n : Int} {x : PLast} (h1 : num1 c = true) (h2 : num1 n = true) (h : lkp T c = some x) (hn : x.n = n) (hd : x.done = true) : askS T c n = (1, x.r, 0) := by
  rw [askS_ok h1 h2, h]; simp only; rw [if_neg (by omega), if_neg (by omega), if_pos hd]
theorem askS_still {T : Tb} {c n : Int} {x : PLast} (h1 : num1 c = true) (h2 : num1 n = true) (h : lkp T c = some x) (hn : x.n = n) (hd : x.done = false) : askS T c n = (2, rep0, 0) := by
  rw [askS_ok h1 h2, h]; simp only; rw [if_neg (by omega), if_neg (by omega), if_neg (by rw [hd]; decide)]
theorem begin_put {T : Tb} {c n : Int} (h : askS T c n = (0, rep0, 0)) (hl : lkp T c = none → T.length < 16) : beginE T c n = 0 ∧ beginT T c n = put T c ⟨c, n, false, rep0⟩ := by
  unfold beginE beginT
  rw [h]
  simp only
  rw [if_neg (by decide), if_neg (by decide), if_neg (by rintro ⟨h1, h2⟩; have := hl h1; omega), if_neg (by decide), if_neg (by decide), if_neg (by rintro ⟨h1, h2⟩; have := hl h1; omega)]
  exact ⟨rfl, rfl⟩
theorem begin_full {T : Tb} {c n : Int} (h : askS T c n = (0, rep0, 0)) (hl : lkp T c = none) (h2 : 16 ≤ T.length) : beginE T c n = 2 ∧ beginT T c n = T := by
  unfold beginE beginT
  rw [h]
  simp only
  rw [if_neg (by decide), if_neg (by decide), if_pos ⟨hl, h2⟩, if_neg (by decide), if_neg (by decide), if_pos ⟨hl, h2⟩]
  exact ⟨rfl, rfl⟩
theorem begin_not {T : Tb} {c n : Int} (h : (askS T c n).2.2 ≠ 0 ∨ (askS T c n).1 ≠ 0) : beginE T c n = (askS T c n).2.2 ∧ beginT T c n = T := by
  unfold beginE beginT
  by_cases h1 : (askS T c n).2.2 ≠ 0
  · rw [if_pos h1, if_pos h1]; exact ⟨rfl, rfl⟩
  · have h2 : (askS T c n).1 ≠ 0 := by rcases h with h | h; exact absurd h h1; exact h
    rw [if_neg h1, if_neg h1, if_pos h2, if_pos h2]
    exact ⟨by omega, rfl⟩
theorem done_put {T : Tb} {c n : Int} {r : PRep} {x : PLast} (h1 : num1 c = true) (h2 : num1 n = true) (h : lkp T c = some x) (hn : x.n = n) : doneE T c n = 0 ∧ doneT T c n r = put T c ⟨c, n, true, r⟩ := by
  have e : doneE T c n = 0 := by rw [doneE, if_neg (by rw [h1, h2]; decide), h]; simp only; rw [if_neg (by omega)]
  exact ⟨e, by rw [doneT, if_neg (by rw [e]; decide)]⟩
/-- What is begun, or done, is put: or all is as it was. -/
theorem begin_cases (T : Tb) (c n : Int) : beginT T c n = T ∨ (beginT T c n = put T c ⟨c, n, false, rep0⟩ ∧ num1 c = true ∧ num1 n = true ∧ (lkp T c = none → T.length < 16)) := by
  unfold beginT
  split
  · exact .inl rfl
  split
  · exact .inl rfl
  split
  · exact .inl rfl
  rename_i h1 h2 h3
  obtain ⟨g1, g2⟩ := ask_num (T := T) (c := c) (n := n) (by omega)
  exact .inr ⟨rfl, g1, g2, fun h => by apply Nat.lt_of_not_le; intro h4; exact h3 ⟨h, h4⟩⟩
theorem done_cases (T : Tb) (c n : Int) (r : PRep) : doneT T c n r = T ∨ (doneT T c n r = put T c ⟨c, n, true, r⟩ ∧ num1 c = true ∧ num1 n = true ∧ lkp T c ≠ none) := by
  unfold doneT
  split
  · exact .inl rfl
  · rename_i h
    have h : doneE T c n = 0 := by omega
    unfold doneE at h
    split at h
    · omega
    rename_i hn
    have hn : num1 c = true ∧ num1 n = true := by simpa using hn
    split at h
    · omega
    · rename_i hx; exact .inr ⟨rfl, hn.1, hn.2, by rw [hx]; simp⟩

theorem RowsAt.len {w : World} {s : Sl} {xs : List PLast} (h : RowsAt w s xs) : s.n = xs.length := by
  obtain ⟨ll, h1, _, rfl⟩ := h; simpa using h1.1
theorem RowsAt.ix {w : World} {s : Sl} {xs : List PLast} {j : Nat} {x : PLast} {F : Addr → Prop} (h : RowsAt w s xs) (hx : xs[j]? = some x)
    (hF : ∀ f p q, (∀ i v, (LV.cs ⟨x, f, p⟩)[i]? = some v → w.cell? (q.add i) = some v) → RepAt w x.r f p → F q) : ixA s.a s.n (j : Int) 9 F := by
  obtain ⟨ll, h1, h2, rfl⟩ := h
  rw [List.getElem?_map, Option.map_eq_some_iff] at hx
  obtain ⟨q, hq, rfl⟩ := hx
  exact h1.ix hq fun a ha => hF q.f q.p a ha (h2 q (List.mem_of_getElem? hq))
theorem TabAt.mk {w w' : World} {b m : Nat} {T : Tb} (h : TabAt w' w.heap.size b m T) : TabAt w' w.heap.size b m T := h
/-- The table of a statement, made by it. -/
structure Tx (w : World) (b m : Nat) (T : Tb) (w' : World) : Prop where
  tab : TabAt w' w.heap.size b m T
  mod : Mod [] w w'
  lt : m < w'.heap.size
  le : w.heap.size ≤ m
theorem Tx.m0 {w w1 w2 : World} {b m : Nat} {T : Tb} (h : Tx w b m T w1) (M : Mod [] w1 w2) : Tx w b m T w2 :=
  ⟨h.tab.keep0 M, h.mod.go0 M (by simp), Nat.lt_of_lt_of_le h.lt M.size, h.le⟩
theorem Tx.mm {w w1 w2 : World} {b m : Nat} {T T' : Tb} (h : Tx w b m T w1) (hT : TabAt w2 w.heap.size b m T') (M : Mod [m] w1 w2) : Tx w b m T' w2 :=
  ⟨hT, h.mod.go0 M (by simpa using h.le), Nat.lt_of_lt_of_le h.lt M.size, h.le⟩
theorem Tx.new (w w1 : World) {b m : Nat} (hT : TabL w1 w.heap.size b m []) (M : Mod [] w w1) (hm : w.heap.size ≤ m) : Tx w b m [] w1 :=
  ⟨⟨[], hT, rfl⟩, M, hT.map.lt, hm⟩
abbrev eI : Int → List Value := fun x => [.int .i64 x]
theorem inv_int (w : World) (row : List Value) (h : OkT Try.prog w 3 row) (_ : row.length = Try.prog.cellsOf 3) : ∃ x, row = eI x ∧ i64B x := by
  obtain ⟨x, rfl, hw⟩ := h.int_inv Try.underlying3
  exact ⟨x, rfl, wf_i64 hw⟩
end Go.Proofs.Ytdgiemnadpkcfaa
