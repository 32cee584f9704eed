/- Layer 17's laws: the calls whose answers the document fixes; who is whose primary. -/
import Derived.Test.YtkdpopkbongabaaQ3
import Derived.Test.YtkdpopkbongabaaGenL17
import Derived.Test.YtkdpopkbongabaaGenR17
namespace Go.Proofs.Ytkdpopkbongabaa
open Go Go.RowKit Go.Maps Go.MapKept
set_option linter.unusedVariables false
set_option linter.unusedSimpArgs false

theorem brT {A B : Prop} {t : Bool} (h : t = true) (hA : A) : brB t A B := by subst h; exact hA
theorem brF {A B : Prop} {t : Bool} (h : t = false) (hB : B) : brB t A B := by subst h; exact hB

theorem bAnd_range {x m : Int} (h0 : 0 ≤ m) (h1 : m ≤ 9223372036854775807) : 0 ≤ bAnd .i64 x m ∧ bAnd .i64 x m ≤ m := by
  unfold bAnd
  have e : (BitVec.ofInt IntKind.i64.bits m).toNat = m.toNat := by
    show (BitVec.ofInt 64 m).toNat = _
    rw [BitVec.toNat_ofInt]
    have : m % ((2 ^ 64 : Nat) : Int) = m := Int.emod_eq_of_lt h0 (by omega)
    rw [this]
  have h : (BitVec.ofInt IntKind.i64.bits x &&& BitVec.ofInt IntKind.i64.bits m).toNat ≤ m.toNat := by
    rw [BitVec.toNat_and, ← e]; exact Nat.and_le_right
  rw [wrap_id (by omega) (by omega)]
  omega

theorem bestOf_at {L : List (Ky × Vt)} {v k : Int} {n : Nat} {l : List Vt} (h : votesTo L v k n = l) : bestOf (votesTo L v k n) = bestOf l := by rw [h]

theorem fixed_ok (w : World) : Calls Try.prog 13 #[] w fun e w' => e = .returned (.bool true) ∧ Mod [] w w' := by
  refine go_of (law17_fixed_go ?_)
  have i64 : ∀ n : Int, 0 ≤ n → n ≤ 1000 → i64B n := fun n _ _ => by unfold i64B; omega
  refine (New_ok 3 w).mono ?_
  rintro e w1 (⟨h, _⟩ | ⟨_, b, m, rfl, B1, M1, fb, fm⟩)
  · exact absurd h (by decide)
  refine ⟨_, _, rfl, brF rfl (brF (by decide) ?_)⟩
  refine (Vote_ok (x := ⟨2, 1, 5, 4⟩) B1 (i64 _ (by omega) (by omega)) (i64 _ (by omega) (by omega)) (i64 _ (by decide) (by decide))).mono ?_
  rintro e w2 ⟨rfl, B2, M2⟩
  rw [show voteL 3 [] 1 0 ⟨2, 1, 5, 4⟩ = [((1, 0, 2), ⟨2, 1, 5, 4⟩)] by decide] at B2
  refine ⟨0, by rw [show voteE 3 [] 1 0 ⟨2, 1, 5, 4⟩ = 0 by decide], ?_⟩
  refine (Vote_ok (x := ⟨2, 0, 0, 0⟩) B2 (i64 _ (by omega) (by omega)) (i64 _ (by omega) (by omega)) (i64 _ (by decide) (by decide))).mono ?_
  rintro e w3 ⟨rfl, B3, M3⟩
  rw [show voteL 3 [((1, 0, 2), ⟨2, 1, 5, 4⟩)] 1 0 ⟨2, 0, 0, 0⟩ = [((1, 0, 2), ⟨2, 1, 5, 4⟩)] by decide] at B3
  refine ⟨170, by rw [show voteE 3 [((1, 0, 2), ⟨2, 1, 5, 4⟩)] 1 0 ⟨2, 0, 0, 0⟩ = 170 by decide], ?_⟩
  refine (Full_ok B3 (i64 _ (by omega) (by omega)) (i64 _ (by omega) (by omega)) (by omega)).mono ?_
  rintro e w4 ⟨rfl, M4⟩
  refine ⟨false, by congr 2, ?_⟩
  have B4 := B3.keep0 M4
  refine (Vote_ok (x := ⟨0, 1, 5, 2⟩) B4 (i64 _ (by omega) (by omega)) (i64 _ (by omega) (by omega)) (i64 _ (by decide) (by decide))).mono ?_
  rintro e w5 ⟨rfl, B5, M5⟩
  rw [show voteL 3 [((1, 0, 2), ⟨2, 1, 5, 4⟩)] 1 0 ⟨0, 1, 5, 2⟩ = [((1, 0, 2), ⟨2, 1, 5, 4⟩), ((1, 0, 0), ⟨0, 1, 5, 2⟩)] by decide] at B5
  refine ⟨0, by rw [show voteE 3 [((1, 0, 2), ⟨2, 1, 5, 4⟩)] 1 0 ⟨0, 1, 5, 2⟩ = 0 by decide], ?_⟩
  refine (Best_ok B5 (i64 _ (by omega) (by omega)) (i64 _ (by omega) (by omega)) (by omega)).mono ?_
  rintro e w6 ⟨rfl, M6⟩
  refine ⟨0, 1, 5, 2, true, by rfl, ?_⟩
  refine al_st rfl rfl fun b7 w7 c7 M7 f7 => ?_
  have B7 := (B5.keep0 M6).keep0 M7
  refine (Best_ok B7 (i64 _ (by omega) (by omega)) (i64 _ (by omega) (by omega)) (by omega)).mono ?_
  rintro e w8 ⟨rfl, M8⟩
  refine ⟨0, 0, 0, 0, false, by rfl, ?_⟩
  refine al_st rfl rfl fun b9 w9 c9 M9 f9 => ?_
  have B9 := (B7.keep0 M8).keep0 M9
  have c7 := (M8.trans M9).keep0 c7
  refine (Commit_ok B9 (i64 _ (by omega) (by omega)) (i64 _ (by omega) (by omega)) (by omega)).mono ?_
  rintro e w10 ⟨rfl, M10⟩
  refine ⟨4, by rfl, ?_⟩
  have B10 := B9.keep0 M10
  refine (Vote_ok (x := ⟨3, 0, 0, 0⟩) B10 (i64 _ (by omega) (by omega)) (i64 _ (by omega) (by omega)) (i64 _ (by decide) (by decide))).mono ?_
  rintro e w11 ⟨rfl, B11, M11⟩
  rw [show voteL 3 [((1, 0, 2), ⟨2, 1, 5, 4⟩), ((1, 0, 0), ⟨0, 1, 5, 2⟩)] 1 0 ⟨3, 0, 0, 0⟩ = [((1, 0, 2), ⟨2, 1, 5, 4⟩), ((1, 0, 0), ⟨0, 1, 5, 2⟩)] by decide] at B11
  refine ⟨1, by rw [show voteE 3 [((1, 0, 2), ⟨2, 1, 5, 4⟩), ((1, 0, 0), ⟨0, 1, 5, 2⟩)] 1 0 ⟨3, 0, 0, 0⟩ = 1 by decide], ?_⟩
  refine (Full_ok B11 (i64 _ (by omega) (by omega)) (i64 _ (by omega) (by omega)) (by omega)).mono ?_
  rintro e w12 ⟨rfl, M12⟩
  refine ⟨true, by congr 2, ?_⟩
  have B12 := B11.keep0 M12
  refine (Drop_ok (below := 2) B12 (by decide)).mono ?_
  rintro e w13 ⟨rfl, B13, M13⟩
  rw [show dropL 2 [((1, 0, 2), ⟨2, 1, 5, 4⟩), ((1, 0, 0), ⟨0, 1, 5, 2⟩)] = [] by decide] at B13
  refine ⟨2, by congr 2, ?_⟩
  refine (New_ok 8 _).mono ?_
  rintro e w14 (⟨_, rfl, rfl⟩ | ⟨h, _⟩)
  rotate_left
  · exact absurd h (by decide)
  refine ⟨_, _, rfl, ?_⟩
  refine brT rfl (brT rfl (brT rfl (brT rfl ?_)))
  have hm7 : b7 ≠ m := by
    have h1 := (B5.keep0 M6).map.lt
    omega
  have c7 := M13.keep (M12.keep0 (M11.keep (M10.keep0 c7) (by simpa using hm7))) (by simpa using hm7)
  refine ldInt_at c7 rfl ?_
  refine brT rfl (brT rfl (brT rfl (brT rfl (brT rfl (brT rfl (brT rfl (brT rfl ?_)))))))
  refine (Need_ok 5 _).mono ?_
  rintro e w15 ⟨rfl, rfl⟩
  refine ⟨3, by rfl, brT rfl ?_⟩
  refine (Primary_ok 7 5 _).mono ?_
  rintro e w16 ⟨rfl, rfl⟩
  refine ⟨2, by rfl, brT rfl ?_⟩
  refine (Need_ok 0 _).mono ?_
  rintro e w17 ⟨rfl, rfl⟩
  refine ⟨0, by rfl, brT rfl ?_⟩
  refine (Primary_ok (-1) 5 _).mono ?_
  rintro e w18 ⟨rfl, rfl⟩
  refine ⟨-1, by rfl, brT rfl ?_⟩
  refine (Votes_ok B13 (i64 _ (by omega) (by omega)) (i64 _ (by omega) (by omega)) (by omega)).mono ?_
  rintro e w19 ⟨a, c, rfl, _, M19⟩
  refine ⟨_, _, _, rfl, rfl, ?_⟩
  have M := (((((((((((((M1.trans M2).trans M3).trans M4).trans M5).trans M6).trans M7).trans M8).trans M9).trans M10).trans M11).trans M12).trans M13).trans M19)
  exact M.less (fun j hj hlt => by simp at hj; omega)

/-! ### the reference's -/
theorem RPrimary_ok (view n : Int) (w : World) : Calls Try.prog 18 #[.int .i64 view, .int .i64 n] w fun e w' => e = .returned (.int .i64 (prim view n)) ∧ w' = w := by
  refine go_of (ref17_Primary_go ?_)
  refine brB_dec (fun h => ⟨by simp [prim, mayB]; intro h1; omega, rfl⟩) fun h1 => ?_
  refine brB_dec (fun h => ⟨by simp [prim, mayB]; intro h1 h2; omega, rfl⟩) fun h2 => ?_
  refine brB_dec (fun h => ⟨by simp [prim, mayB]; intro h1 h2; omega, rfl⟩) fun h3 => ⟨by omega, ?_, rfl⟩
  have e1 : view.tmod n = view % n := Int.tmod_eq_emod_of_nonneg (by omega)
  rw [e1, prim, if_pos ⟨by simp [mayB]; omega, by omega⟩]

/-! ### who is whose primary -/
def seen (V N k p : Nat) : Bool := (List.range k).any fun i => (V + i) % N == p
theorem seen_succ (V N k p : Nat) : seen V N (k + 1) p = (seen V N k p || (V + k) % N == p) := by
  simp [seen, List.range_succ]
theorem seen_new {V N k : Nat} (hk : k < N) : seen V N k ((V + k) % N) = false := by
  simp only [seen, List.any_eq_false, List.mem_range, beq_iff_eq]
  intro i hi h
  have h2 : (V + k - (V + i)) % N = 0 := Nat.sub_mod_eq_zero_of_mod_eq h.symm
  rw [show V + k - (V + i) = k - i by omega, Nat.mod_eq_of_lt (by omega)] at h2
  omega
def hadCells (V N k : Nat) : Array Value := ((List.range N).map fun p => Value.bool (seen V N k p)).toArray

theorem Turns_ok (replicas view : Int) (w : World) : Calls Try.prog 6 #[.int .i64 replicas, .int .i64 view] w fun e w' => e = .returned (.bool true) ∧ Mod [] w w' := by
  refine go_of (law17_QuorumTurns_go ⟨by decide, ?_⟩)
  have hv := bAnd_range (x := view) (m := 65535) (by omega) (by omega)
  have hr := bAnd_range (x := replicas) (m := 65535) (by omega) (by omega)
  generalize bAnd .i64 view 65535 = v at *
  generalize bAnd .i64 replicas 65535 = r at *
  have en : IntKind.wrap .i64 (1 + r.tmod 7) = 1 + r % 7 := by
    rw [Int.tmod_eq_emod_of_nonneg (by omega), wrap_id (by omega) (by omega)]
  rw [en]
  obtain ⟨N, hN⟩ := Int.eq_ofNat_of_zero_le (show 0 ≤ 1 + r % 7 by omega)
  have hN7 : 1 ≤ N ∧ N ≤ 7 := by omega
  rw [hN]
  obtain ⟨V, rfl⟩ := Int.eq_ofNat_of_zero_le hv.1
  obtain ⟨i0, hi, hz0, hz1, hz2⟩ := info_parts (show (Try.prog.info? 4).map (fun i => (i.zero, i.size, i.bytes)) = some (some (.bool false), 1, 1) by kernel_rfl)
  have hmk := run_make (P := Try.prog) (w := w) 44 4 i0 (.bool false) Try.underlying44 hi hz0 .i64 .i64 (N : Int) (N : Int) (by omega) (Int.le_refl _) (by rw [hz2]; omega) (by omega)
  refine ⟨_, _, _, _, hmk, ?_⟩
  simp only [Int.toNat_natCast]
  have hc0 : (w.alloc (.cells (madeCells (Value.bool false).cells (N * i0.size)) 4)).heap[w.heap.size]? = some (.cells (hadCells V N 0) 4) := by
    rw [(MapKept.heap_alloc w _).1, hz1]
    congr 2
    apply Array.ext
    · simp [madeCells, hadCells]
    · intro i h1 h2
      simp [madeCells, hadCells, seen, Value.cells, Nat.mod_one]
  have M0 : Mod [] w (w.alloc (.cells (madeCells (Value.bool false).cells (N * i0.size)) 4)) := Mod.of_below ((Below.refl _ _).alloc (Nat.le_refl _) _)
  refine law17_QuorumTurns_rule1 (fun mm x w' => ∃ k : Nat, x = k ∧ k ≤ N ∧ w'.heap[w.heap.size]? = some (.cells (hadCells V N k) 4) ∧ Mod [] w w' ∧ mm = N - k) N ⟨0, rfl, Nat.zero_le _, hc0, M0, rfl⟩ ?_
  rintro mm x js w1 ⟨k, rfl, hk, hc, M1, rfl⟩
  refine brB_dec (fun hlt => ?_) fun hge => ?_
  · have hlt : k < N := by omega
    have ew : IntKind.wrap .i64 ((V : Int) + (k : Int)) = ((V + k : Nat) : Int) := by rw [wrap_id (by omega) (by omega)]; omega
    rw [ew]
    have ep : prim ((V + k : Nat) : Int) (N : Int) = (((V + k) % N : Nat) : Int) := by
      rw [prim, if_pos ⟨by simp [mayB]; omega, by omega⟩]; omega
    refine (Primary_ok _ _ _).mono ?_
    rintro e w2 ⟨rfl, rfl⟩
    rw [ep]
    have hpN : (V + k) % N < N := Nat.mod_lt _ (by omega)
    generalize hp : (V + k) % N = p at *
    refine ⟨_, rfl, brB_dec (fun h => by omega) fun _ => brB_dec (fun h => by omega) fun _ => ?_⟩
    have ad : (⟨w.heap.size, 0, none⟩ : Addr).add (p * 1) = ⟨w.heap.size, p, none⟩ := by
      unfold Addr.add; split
      · rename_i h; simp at h; subst h; rfl
      · simp
    refine ⟨_, rfl, by omega, by omega, ?_⟩
    simp only [Int.toNat_natCast]
    rw [ad]
    have hget : (hadCells V N k)[p]? = some (.bool false) := by
      have := seen_new (V := V) hlt
      rw [hp] at this
      simp [hadCells, hpN, this]
    refine ldBool_at hc hget (brF rfl ?_)
    refine (RPrimary_ok _ _ _).mono ?_
    rintro e w3 ⟨rfl, rfl⟩
    rw [ep]
    refine ⟨_, rfl, brF (by simp) ?_⟩
    refine ⟨_, rfl, by omega, by omega, ?_⟩
    simp only [Int.toNat_natCast]
    rw [ad]
    refine st_of hc rfl (by simp [hadCells]; omega) fun w4 hc4 M4 => ?_
    refine law17_QuorumTurns_leaf1 (N - (k + 1)) (by omega) ⟨k + 1, by rw [wrap_id (by omega) (by omega)]; omega, by omega, ?_, (M1.trans M4).less (fun j hj hlt => by simp at hj; omega), rfl⟩
    rw [hc4]
    congr 2
    simp only [setFrom]
    apply Array.ext
    · simp [hadCells]
    · intro i h1 h2
      simp only [hadCells] at h1 h2 ⊢
      rw [Array.getElem_setIfInBounds (by simpa using h1)]
      simp only [List.getElem_toArray, List.getElem_map, List.getElem_range]
      rw [seen_succ, hp]
      by_cases hip : p = i
      · simp [hip]
      · have : (p == i) = false := by simpa using hip
        rw [if_neg hip, this, Bool.or_false]
  · refine (fixed_ok _).mono ?_
    rintro e w2 ⟨rfl, M2⟩
    exact ⟨_, rfl, rfl, by simpa using M1.trans M2⟩

end Go.Proofs.Ytkdpopkbongabaa
