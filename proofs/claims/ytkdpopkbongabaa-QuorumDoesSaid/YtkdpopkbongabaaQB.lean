/- The best vote, the committed number, the turns: for every input. -/
import Derived.Test.YtkdpopkbongabaaQM
namespace Go.Proofs.Ytkdpopkbongabaa
open Go Go.RowKit Go.Maps Go.MapKept
set_option linter.unusedVariables false
set_option linter.unusedSimpArgs false

theorem inv_vote (w : World) (row : List Value) (h : OkT Try.prog w 29 row) (hl : row.length = Try.prog.cellsOf 29) : ∃ x, row = encV x ∧ i64B x.f := by
  have hc : Try.prog.cellsOf 29 = 4 := by kernel_rfl
  have hc1 : Try.prog.cellsOf 3 = 1 := by kernel_rfl
  rw [hc] at hl
  match row, hl with
  | [a, b, c, d], _ =>
    obtain ⟨_, hf⟩ := h.struct_inv Try.underlying29
    simp [hc1] at hf
    obtain ⟨ha, hb, hc, hd⟩ := hf
    obtain ⟨x1, e1, g1⟩ := ha.int_inv Try.underlying3
    obtain ⟨x2, e2, g2⟩ := hb.int_inv Try.underlying3
    obtain ⟨x3, e3, g3⟩ := hc.int_inv Try.underlying3
    obtain ⟨x4, e4, g4⟩ := hd.int_inv Try.underlying3
    simp at e1 e2 e3 e4
    subst e1 e2 e3 e4
    exact ⟨⟨x1, x2, x3, x4⟩, rfl, wf_i64 g1⟩

def leV (x v : Vt) : Prop := ¬ x.n > v.n ∧ (x.n = v.n → ¬ x.l > v.l) ∧ (x.n = v.n → x.l = v.l → ¬ x.f < v.f)
theorem leV_of {x v : Vt} : ¬ ordV x v > 0 → leV x v := by
  unfold ordV leV cmpI
  intro h
  refine ⟨fun h1 => h ?_, fun h1 h2 => h ?_, fun h1 h2 h3 => h ?_⟩
  · rw [if_neg (by omega), if_pos h1]; simp [firstOf]
  · rw [if_neg (by omega), if_neg (by omega), if_neg (by omega), if_pos h2]; simp [firstOf]
  · rw [if_neg (by omega), if_neg (by omega), if_neg (by omega), if_neg (by omega), if_neg (by omega), if_pos h3]; simp [firstOf]
theorem leV_gt {x v : Vt} (h : ordV x v > 0) : leV v x := by
  unfold ordV cmpI at h
  unfold leV
  by_cases h1 : x.n < v.n
  · rw [if_pos h1] at h; simp [firstOf] at h
  · by_cases h2 : x.n > v.n
    · exact ⟨by omega, by omega, by omega⟩
    · rw [if_neg h1, if_neg h2] at h
      by_cases h3 : x.l < v.l
      · rw [if_pos h3] at h; simp [firstOf] at h
      · by_cases h4 : x.l > v.l
        · exact ⟨by omega, by omega, by omega⟩
        · rw [if_neg h3, if_neg h4] at h
          by_cases h5 : v.f < x.f
          · rw [if_pos h5] at h; simp [firstOf] at h
          · exact ⟨by omega, by omega, by omega⟩
theorem leV_refl (x : Vt) : leV x x := ⟨by omega, fun _ => by omega, fun _ _ => by omega⟩
theorem leV_trans {x y z : Vt} (h1 : leV x y) (h2 : leV y z) : leV x z := by
  unfold leV at *
  refine ⟨by omega, fun h => by omega, fun h h' => by omega⟩
theorem maxV_spec : ∀ (l : List Vt) (m : Vt), (maxV m l = m ∨ maxV m l ∈ l) ∧ leV m (maxV m l) ∧ ∀ x ∈ l, leV x (maxV m l)
  | [], m => ⟨.inl rfl, leV_refl m, by simp⟩
  | y :: r, m => by
    rw [maxV]
    by_cases h : ordV y m > 0
    · rw [if_pos h]
      obtain ⟨h1, h2, h3⟩ := maxV_spec r y
      refine ⟨.inr ?_, leV_trans (leV_gt h) h2, fun x hx => ?_⟩
      · rcases h1 with h1 | h1
        · rw [h1]; exact List.mem_cons_self ..
        · exact List.mem_cons_of_mem _ h1
      · rcases List.mem_cons.1 hx with rfl | hx
        · exact h2
        · exact h3 x hx
    · rw [if_neg h]
      obtain ⟨h1, h2, h3⟩ := maxV_spec r m
      refine ⟨h1.imp_right fun h => List.mem_cons_of_mem _ h, h2, fun x hx => ?_⟩
      rcases List.mem_cons.1 hx with rfl | hx
      · exact leV_trans (leV_of h) h2
      · exact h3 x hx
theorem bestOf_le {l : List Vt} : ∀ x ∈ l, leV x (bestOf l).1 := by
  cases l with
  | nil => simp
  | cons y r =>
    intro x hx
    obtain ⟨_, h2, h3⟩ := maxV_spec r y
    rcases List.mem_cons.1 hx with rfl | hx
    · exact h2
    · exact h3 x hx
theorem bestOf_in {l : List Vt} : (l.any fun x => decide (x = (bestOf l).1)) = (bestOf l).2 := by
  cases l with
  | nil => rfl
  | cons y r =>
    obtain ⟨h1, _, _⟩ := maxV_spec r y
    show _ = true
    simp only [List.any_eq_true, decide_eq_true_eq]
    refine ⟨_, ?_, rfl⟩
    show maxV y r ∈ y :: r
    rcases h1 with h1 | h1
    · rw [h1]; exact List.mem_cons_self ..
    · exact List.mem_cons_of_mem _ h1
theorem bestOf_is {l : List Vt} : (bestOf l).2 = decide ((l.length : Int) > 0) := by
  cases l with
  | nil => rfl
  | cons y r => symm; simp [bestOf]

/-- The loop over the votes that were cast. -/
def Best_I2 (w0 : World) (l : List Vt) (v : Vt) (b bm bv : Nat) (L : List (Ky × Vt)) (a : Option Addr) (mm : Nat) (t : Bool) (x y : Int) (w : World) : Prop :=
  ∃ k : Nat, y = k ∧ k ≤ l.length ∧ t = ((l.take k).any fun x => decide (x = v)) ∧ x = commitOf 0 (l.take k) ∧ SlAt w 4 encV a l.length l ∧ w.heap[bv]? = some (.cells (encV v).toArray 29) ∧ BoxAt w b 7 bm L ∧ Mod [] w0 w ∧ mm = l.length - k

theorem Best_b2 {w0 w : World} {l : List Vt} {b bm bv : Nat} {L : List (Ky × Vt)} {a : Option Addr} {c mm : Nat} {t : Bool} {x y W : Int} {js : Nat → Value} (hl : l = votesTo L W 3 7) (hW : 0 ≤ W ∧ W ≤ 65535)
    (h : Best_I2 w0 l (bestOf l).1 b bm bv L a mm t x y w) :
    law17_QuorumBest_L2 (some ⟨b, 0, none⟩) W a l.length c bv (bestOf l).2 t x y (law17_QuorumBest_K2 (some ⟨b, 0, none⟩) W a l.length c bv (bestOf l).2 (Best_I2 w0 l (bestOf l).1 b bm bv L a) mm) js (RT w0) w := by
  obtain ⟨k, rfl, hk, rfl, rfl, s, cv, hB, hM, rfl⟩ := h
  have l1 : l.length ≤ 7 := by have := votesTo_len L W 3 7; rw [hl]; omega
  refine brB_dec (fun hlt => ?_) fun hge => ?_
  · have hlt : k < l.length := by omega
    obtain ⟨x, hx⟩ : ∃ x, l[k]? = some x := ⟨l[k], by simp [hlt]⟩
    obtain ⟨le1, le2, le3⟩ := bestOf_le x (List.mem_of_getElem? hx)
    generalize hv : (bestOf l).1 = v at *
    have e1 : IntKind.wrap .i64 ((k : Int) + 1) = ((k + 1 : Nat) : Int) := by rw [wrap_id (by omega) (by omega)]; omega
    refine s.ix hx fun q hq => ?_
    have q0 := hq 0 _ rfl
    rw [add_zero] at q0
    refine ldInt_of q0 (ldInt_of (hq 1 _ rfl) (ldInt_of (hq 2 _ rfl) (ldInt_of (hq 3 _ rfl) ?_)))
    refine al_st rfl rfl fun bx w1 cx M1 f1 => ?_
    have cv := M1.keep0 cv
    have hI : ∀ t, t = ((l.take (k + 1)).any fun x => decide (x = v)) → Best_I2 w0 l v b bm bv L a (l.length - (k + 1)) t (if x.c > commitOf 0 (l.take k) then x.c else commitOf 0 (l.take k)) (IntKind.wrap .i64 ((k : Int) + 1)) w1 := fun t ht =>
      ⟨k + 1, e1, by omega, ht, (commitOf_take hx).symm, s.keep0 M1, cv, hB.keep0 M1, by simpa using hM.trans M1, rfl⟩
    refine brB_of (fun ht => ?_) fun ht => ?_
    · have hI := hI true (by rw [take_any hx, ht]; rfl)
      repeat' first
        | exact law17_QuorumBest_leaf2 (l.length - (k + 1)) (by omega) hI
        | refine ldInt_at cx rfl ?_
        | refine ldInt_at cv rfl ?_
        | refine brF (decide_eq_false le1) ?_
        | refine brF (decide_eq_false (le2 (eq_of_beq ‹(x.n == v.n) = true›))) ?_
        | refine brF (decide_eq_false (le3 (eq_of_beq ‹(x.n == v.n) = true›) (eq_of_beq ‹(x.l == v.l) = true›))) ?_
        | refine brB_of (t := x.n == v.n) (fun _ => ?_) (fun _ => ?_)
        | refine brB_of (t := x.l == v.l) (fun _ => ?_) (fun _ => ?_)
    · have hI := hI (decide (x = v)) (by rw [take_any hx, ht]; rfl)
      refine ldInt_at cx rfl (ldInt_at cx rfl (ldInt_at cx rfl (ldInt_at cx rfl (ldInt_at cv rfl (ldInt_at cv rfl (ldInt_at cv rfl (ldInt_at cv rfl ?_)))))))
      refine ⟨_, fun w' _ => eqV x v _ _ w', ?_⟩
      repeat' first
        | exact law17_QuorumBest_leaf2 (l.length - (k + 1)) (by omega) hI
        | refine ldInt_at cx rfl ?_
        | refine ldInt_at cv rfl ?_
        | refine brF (decide_eq_false le1) ?_
        | refine brF (decide_eq_false (le2 (eq_of_beq ‹(x.n == v.n) = true›))) ?_
        | refine brF (decide_eq_false (le3 (eq_of_beq ‹(x.n == v.n) = true›) (eq_of_beq ‹(x.l == v.l) = true›))) ?_
        | refine brB_of (t := x.n == v.n) (fun _ => ?_) (fun _ => ?_)
        | refine brB_of (t := x.l == v.l) (fun _ => ?_) (fun _ => ?_)
  · have hk : k = l.length := by omega
    subst hk
    rw [List.take_length]
    have pr : ∀ V : Int, 0 ≤ V → prim V 7 = V % 7 := fun V hV => by rw [prim, if_pos ⟨by simp [mayB], hV⟩]
    refine (Primary_ok W 7 _).mono ?_
    rintro e w1 ⟨rfl, rfl⟩
    rw [pr W hW.1]
    refine ⟨_, rfl, brT (by rw [bestOf_is]; simp) (brT (by rw [bestOf_in]; simp) ?_)⟩
    refine (Commit_ok hB (i64s (by omega) (by omega)) (i64s (by omega) (by omega)) (by omega)).mono ?_
    rintro e w2 ⟨rfl, M2⟩
    refine ⟨_, rfl, brT (by rw [hl]; simp) (brT (by simp; omega) (brT (by simp; omega) ?_))⟩
    rw [wrap_id (x := W + 7) (by omega) (by omega), wrap_id (x := W + 1) (by omega) (by omega), wrap_id (x := W % 7 + 1) (by omega) (by omega)]
    refine (Primary_ok (W + 7) 7 _).mono ?_
    rintro e w3 ⟨rfl, rfl⟩
    rw [pr _ (by omega)]
    refine ⟨_, rfl, brT (by simp) ?_⟩
    refine (Primary_ok (W + 1) 7 _).mono ?_
    rintro e w4 ⟨rfl, rfl⟩
    rw [pr _ (by omega)]
    refine ⟨_, rfl, by decide, brT ?_ ?_⟩
    · rw [Int.tmod_eq_emod_of_nonneg (by omega)]; simp
    · refine (fixed_ok _).mono ?_
      rintro e w5 ⟨rfl, M5⟩
      exact ⟨_, rfl, rfl, by simpa using (hM.trans M2).trans M5⟩

theorem Best_law {view : Int} {a1 : Option Addr} {n1 c1 : Nat} {la : List Vt} {w : World} (sa : SlAt w 4 encV a1 n1 la) (ga : ∀ x ∈ la, i64B x.f) :
    Calls Try.prog 4 #[.slice a1 n1 c1, .int .i64 view] w fun e w' => e = .returned (.bool true) ∧ Mod [] w w' := by
  refine go_of (law17_QuorumBest_go ?_)
  have hr := bAnd_range (x := view) (m := 65535) (by omega) (by omega)
  refine (New_ok 7 w).mono ?_
  rintro e w1 (⟨h, _⟩ | ⟨_, b, bm, rfl, B1, M1, fb, fm⟩)
  · exact absurd h (by decide)
  refine ⟨_, _, rfl, brF rfl (brF (by decide) ?_)⟩
  generalize bAnd .i64 view 65535 = W at *
  have en1 := sa.1
  subst en1
  have fm : w.heap.size ≤ bm := fm
  refine law17_QuorumBest_rule1 (fun mm x w1 => ∃ (k : Nat) (L : List (Ky × Vt)), x = k ∧ k ≤ la.length ∧ BoxAt w1 b 7 bm L ∧ Mod [] w w1 ∧ mm = la.length - k) la.length ⟨0, [], rfl, by omega, B1, M1, by simp⟩ ?_
  rintro mm x js w1 ⟨k, L, rfl, hk, hB, hM, rfl⟩
  refine brB_dec (fun hlt => brB_dec (fun h20 => ?_) fun _ => ?_) fun _ => ?_
  · obtain ⟨y, hy⟩ : ∃ y, la[k]? = some y := ⟨la[k]'(by omega), by simp⟩
    refine (sa.keep0 hM).ix hy fun q hq => ?_
    have q0 := hq 0 _ rfl
    rw [add_zero] at q0
    refine ldInt_of q0 (ldInt_of (hq 1 _ rfl) (ldInt_of (hq 2 _ rfl) (ldInt_of (hq 3 _ rfl) ?_)))
    refine (Vote_ok (x := y) hB (i64s (by omega) (by omega)) (i64s (by omega) (by omega)) (ga y (List.mem_of_getElem? hy))).mono ?_
    rintro e w2 ⟨rfl, B2, M2⟩
    exact ⟨_, rfl, law17_QuorumBest_leaf1 (la.length - (k + 1)) (by omega) ⟨k + 1, _, by rw [wrap_id (by omega) (by omega)]; omega, by omega, B2, (hM.trans M2).less (fun j hj hlt => by simp at hj; omega), rfl⟩⟩
  all_goals
    refine (Votes_ok hB (i64s (by omega) (by omega)) (i64s (by omega) (by omega)) (by omega)).mono ?_
    rintro e w2 ⟨a3, c3, rfl, R3, M3⟩
    refine ⟨_, _, _, rfl, ?_⟩
    refine (Best_ok (hB.keep0 M3) (i64s (by omega) (by omega)) (i64s (by omega) (by omega)) (by omega)).mono ?_
    rintro e w3 ⟨rfl, M4⟩
    refine ⟨_, _, _, _, _, rfl, ?_⟩
    refine al_st rfl rfl fun bv w4 cv M5 f5 => ?_
    refine law17_QuorumBest_rule2 (Best_I2 w (votesTo L W 3 7) (bestOf (votesTo L W 3 7)).1 b bm bv L a3) _ ⟨0, rfl, by omega, rfl, rfl, ((R3.keep0 M4).keep0 M5).sl encV_len, cv, ((hB.keep0 M3).keep0 M4).keep0 M5, by simpa using ((hM.trans M3).trans M4).trans M5, rfl⟩ ?_
    exact fun mm t x y js w h => Best_b2 rfl hr h

end Go.Proofs.Ytkdpopkbongabaa
