/- ClientsFull, walked. -/
import Derived.Test.YtdgiemnadpkcfaaC12
import Derived.Test.YtdgiemnadpkcfaaGenC6
namespace Go.Proofs.Ytdgiemnadpkcfaa
open Go Go.RowKit Go.Maps Go.MapKept
set_option linter.unusedVariables false
set_option linter.unusedSimpArgs false

def rowF (c k : Int) (j : Nat) : PLast := ⟨c + j, k + j, false, rep0⟩
def rowsF (c k : Int) (i : Nat) : List PLast := (List.range i).map (rowF c k)
theorem rowsF_rise (c k : Int) (i : Nat) : Rise (rowsF c k i) := by
  unfold Rise rowsF
  rw [List.pairwise_map]
  exact List.Pairwise.imp (fun h => by simp only [rowF]; omega) List.pairwise_lt_range
theorem rowsF_len (c k : Int) (i : Nat) : (rowsF c k i).length = i := by simp [rowsF]
theorem rowsF_none (c k : Int) (i : Nat) : lkp (loadT (rowsF c k i)) (c + i) = none := by
  rw [lkp_none]
  intro p hp
  simp only [loadT, rowsF, List.mem_map, List.mem_range] at hp
  obtain ⟨x, ⟨j, hj, rfl⟩, rfl⟩ := hp
  simp only [rowF]
  omega
theorem rowsF_some (c k : Int) {i j : Nat} (h : j < i) : lkp (loadT (rowsF c k i)) (c + j) = some (rowF c k j) :=
  (rowsF_rise c k i).lkp (x := rowF c k j) (List.mem_map.2 ⟨j, List.mem_range.2 h, rfl⟩)
theorem rowsF_succ (c k : Int) (i : Nat) : loadT (rowsF c k (i + 1)) = put (loadT (rowsF c k i)) (c + i) ⟨c + i, k + i, false, rep0⟩ := by
  rw [put_of_none (rowsF_none c k i), rowsF, List.range_succ, List.map_append, loadT, List.map_append]
  rfl
def rowsG (c k : Int) : List PLast := ⟨c, k + 1, false, rep0⟩ :: (List.range 15).map fun j => rowF c k (j + 1)
theorem rowsG_put (c k : Int) : put (loadT (rowsF c k 16)) c ⟨c, k + 1, false, rep0⟩ = loadT (rowsG c k) := by
  have e : rowsF c k 16 = rowF c k 0 :: (List.range 15).map fun j => rowF c k (j + 1) := by
    rw [rowsF, List.range_succ_eq_map, List.map_cons, List.map_map]; rfl
  rw [e]
  simp only [loadT, List.map_cons, put, rowsG]
  rw [if_pos (by simp [rowF])]
theorem rowsG_rise (c k : Int) : Rise (rowsG c k) := by
  unfold Rise rowsG
  rw [List.pairwise_cons, List.pairwise_map]
  refine ⟨fun x hx => ?_, List.Pairwise.imp (fun h => by simp only [rowF]; omega) List.pairwise_lt_range⟩
  obtain ⟨j, _, rfl⟩ := List.mem_map.1 hx
  simp only [rowF]; omega
theorem rowsG_at (c k : Int) {j : Nat} (hj : j < 16) : (rowsG c k)[j]? = some (if j = 0 then ⟨c, k + 1, false, rep0⟩ else rowF c k j) := by
  cases j with
  | zero => rfl
  | succ j => simp [rowsG, List.getElem?_range, show j < 15 by omega]

theorem Full_ok (first n : Int) (w : World) : Calls Try.prog 5 #[.int .i64 first, .int .i64 n] w fun e w' => e = .returned (.bool true) ∧ Mod [] w w' := by
  refine go_of (law15_ClientsFull_go ?_)
  have r1 := bAnd_range (x := first) (m := 65535) (by omega) (by omega)
  have r2 := bAnd_range (x := n) (m := 65535) (by omega) (by omega)
  refine (New_ok w).mono ?_
  rintro e w1 ⟨_, rfl, b, m, rfl, hT, M1, hb, hm⟩
  refine ⟨_, rfl, brF rfl ?_⟩
  rw [wrap_id (by omega) (by omega), wrap_id (by omega) (by omega)]
  have T1 := Tx.new w w1 hT M1 hm
  obtain ⟨c, hc⟩ : ∃ c, c = 1 + bAnd .i64 first 65535 := ⟨_, rfl⟩
  obtain ⟨k, hk⟩ : ∃ k, k = 1 + bAnd .i64 n 65535 := ⟨_, rfl⟩
  rw [← hc, ← hk]
  refine law15_ClientsFull_rule1 (fun mm x w' => ∃ i : Nat, x = i ∧ i ≤ 16 ∧ Tx w b m (loadT (rowsF c k i)) w' ∧ mm = 16 - i) 16 ⟨0, rfl, by omega, T1, rfl⟩ ?_
  rintro mm x w2 ⟨i, rfl, hi, T2, rfl⟩
  refine brB_dec (fun hlt => ?_) fun hge => ?_
  · rw [wrap_id (by omega) (by omega), wrap_id (by omega) (by omega)]
    obtain ⟨e1, e2⟩ := begin_put (askS_none (num1_of (by omega) (by omega)) (num1_of (n := k + i) (by omega) (by omega)) (rowsF_none c k i)) (fun _ => by simp [loadT, rowsF_len]; omega)
    refine (Begin_ok (c := c + i) (n := k + i) T2.tab T2.mod.size).mono ?_
    rintro e w3 ⟨rfl, hT3, M3⟩
    rw [e1]
    rw [e2, ← rowsF_succ] at hT3
    refine ⟨_, rfl, brF rfl ?_⟩
    exact law15_ClientsFull_leaf1 (16 - (i + 1)) (by omega) ⟨i + 1, by rw [wrap_id (by omega) (by omega)]; omega, by omega, T2.mm hT3 M3, rfl⟩
  · have : i = 16 := by omega
    subst this
    rw [wrap_id (by omega) (by omega)]
    have hlen : (loadT (rowsF c k 16)).length = 16 := by simp [loadT, rowsF_len]
    obtain ⟨e1, e2⟩ := begin_full (askS_none (num1_of (by omega) (by omega)) (num1_of (n := k) (by omega) (by omega)) (rowsF_none c k 16)) (rowsF_none c k 16) (by omega)
    refine (Begin_ok (c := c + (16 : Nat)) (n := k) T2.tab T2.mod.size).mono ?_
    rintro e w3 ⟨rfl, hT3, M3⟩
    rw [e1]
    rw [e2] at hT3
    refine ⟨_, rfl, brF rfl ?_⟩
    have T3 := T2.mm hT3 M3
    rw [wrap_id (by omega) (by omega)]
    have hs0 : lkp (loadT (rowsF c k 16)) c = some (rowF c k 0) := by simpa using rowsF_some c k (i := 16) (j := 0) (by omega)
    obtain ⟨e3, e4⟩ := begin_put (askS_gt (num1_of (by omega) (by omega)) (num1_of (n := k + 1) (by omega) (by omega)) hs0 (by simp only [rowF]; omega)) (fun h => by rw [h] at hs0; cases hs0)
    refine (Begin_ok (c := c) (n := k + 1) T3.tab T3.mod.size).mono ?_
    rintro e w4 ⟨rfl, hT4, M4⟩
    rw [e3]
    rw [e4, rowsG_put] at hT4
    refine ⟨_, rfl, brF rfl ?_⟩
    have T4 := T3.mm hT4 M4
    refine (List_ok T4.tab (by simp [loadT, rowsG])).mono ?_
    rintro e w5 ⟨_, rfl, s, rfl, hL, M5⟩
    rw [listS_loadT (rowsG_rise c k)] at hL
    have hL := hL.at
    have T5 := T4.m0 M5
    have hsn : s.n = 16 := by rw [hL.len]; simp [rowsG]
    refine ⟨_, _, _, rfl, brF (by rw [hsn]; rfl) ?_⟩
    refine law15_ClientsFull_rule2 (fun mm x w' => ∃ i : Nat, x = i ∧ i ≤ 16 ∧ Mod [] w5 w' ∧ mm = 16 - i) 16 ⟨0, rfl, by omega, Mod.refl _, rfl⟩ ?_
    rintro mm x w6 ⟨i, rfl, hi, M6, rfl⟩
    have hL6 := hL.keep0 M6
    refine brB_dec (fun hlt => ?_) fun hge => ?_
    · have hx := rowsG_at c k (j := i) (by omega)
      refine brB_of (fun g => ?_) fun g => ?_
      · have g : i = 0 := by simpa using g
        subst g
        rw [if_pos rfl] at hx
        refine hL6.ix hx fun f p q hq _ => ldInt_of (x := c) (by simpa [add_zero] using hq 0 _ rfl) ?_
        refine brF (by rw [wrap_id (by omega) (by omega)]; simp) ?_
        refine hL6.ix hx fun f p q hq _ => ldInt_of (x := k + 1) (hq 1 _ rfl) ?_
        refine brF (by rw [wrap_id (by omega) (by omega)]; simp) ?_
        refine hL6.ix hx fun f p q hq _ => ldBool_of (x := false) (hq 2 _ rfl) ?_
        refine brF rfl ?_
        exact law15_ClientsFull_leaf2 (16 - (0 + 1)) (by omega) ⟨0 + 1, by rw [wrap_id (by omega) (by omega)]; omega, by omega, M6, rfl⟩
      · have g : ¬ i = 0 := by simpa using g
        rw [if_neg g] at hx
        refine hL6.ix hx fun f p q hq _ => ldInt_of (x := c + i) (by simpa [add_zero, rowF] using hq 0 _ rfl) ?_
        refine brF (by rw [wrap_id (by omega) (by omega)]; simp) ?_
        refine hL6.ix hx fun f p q hq _ => ldInt_of (x := k + i) (hq 1 _ rfl) ?_
        refine brF (by rw [wrap_id (by omega) (by omega)]; simp) ?_
        refine hL6.ix hx fun f p q hq _ => ldBool_of (x := false) (hq 2 _ rfl) ?_
        refine brF rfl ?_
        exact law15_ClientsFull_leaf2 (16 - (i + 1)) (by omega) ⟨i + 1, by rw [wrap_id (by omega) (by omega)]; omega, by omega, M6, rfl⟩
    · refine (fixed15_ok w6).mono ?_
      rintro e w7 ⟨rfl, M7⟩
      exact ⟨_, rfl, rfl, (T5.m0 M6).mod.go0 M7 (by simp)⟩
end Go.Proofs.Ytdgiemnadpkcfaa
