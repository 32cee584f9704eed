/- Two sets of more than half meet, for every input. -/
import Derived.Test.YtkdpopkbongabaaQL1
import Derived.Test.YtkdpopkbongabaaRead
namespace Go.Proofs.Ytkdpopkbongabaa
open Go Go.RowKit Go.Maps Go.MapKept
set_option linter.unusedVariables false
set_option linter.unusedSimpArgs false

theorem lkp_put {κ β : Type} [DecidableEq κ] {L : List (κ × β)} {k k' : κ} {v : β} : lkp (put L k v) k' = if k = k' then some v else lkp L k' := by
  induction L with
  | nil => simp [put, lkp]
  | cons p r ih =>
    by_cases hp : p.1 = k
    · by_cases hk : k = k'
      · simp [put, lkp, hp, hk]
      · have : ¬ p.1 = k' := by rw [hp]; exact hk
        simp [put, lkp, hp, hk]
    · by_cases hk : p.1 = k'
      · have : ¬ k = k' := fun e => hp (by rw [hk, e])
        rw [put, if_neg hp, lkp, if_pos hk, lkp, if_pos hk, if_neg this]
      · simp [put, lkp, hp, hk, ih]
/-- Each vote stands under its own sender. -/
def OwnF (L : List (Ky × Vt)) : Prop := ∀ k v, lkp L k = some v → v.f = k.2.2
theorem OwnF.nil : OwnF [] := by intro k v h; simp [lkp] at h
theorem OwnF.vote {n view kind : Int} {L : List (Ky × Vt)} {x : Vt} (h : OwnF L) : OwnF (voteL n L view kind x) := by
  unfold voteL
  split
  · intro k v hk
    rw [lkp_put] at hk
    split at hk
    · rename_i e; subst e; cases hk; rfl
    · exact h k v hk
  · exact h
theorem mem_votesTo {L : List (Ky × Vt)} {view kind : Int} {k : Nat} {x : Vt} : x ∈ votesTo L view kind k ↔ ∃ i, i < k ∧ lkp L (view, kind, ((i : Nat) : Int)) = some x := by
  simp [votesTo]
theorem votes_meet {L : List (Ky × Vt)} {v1 v2 kind : Int} : ∀ {k : Nat}, (∀ i, i < k → lkp L (v1, kind, ((i : Nat) : Int)) = none ∨ lkp L (v2, kind, ((i : Nat) : Int)) = none) → (votesTo L v1 kind k).length + (votesTo L v2 kind k).length ≤ k
  | 0, _ => by simp [votesTo]
  | k + 1, h => by
    have ih := votes_meet (k := k) fun i hi => h i (by omega)
    rw [votesTo_succ, votesTo_succ, List.length_append, List.length_append]
    rcases h k (by omega) with h | h <;> rw [h]
    · have : (lkp L (v2, kind, (k : Int))).toList.length ≤ 1 := by cases lkp L (v2, kind, (k : Int)) <;> simp
      simp; omega
    · have : (lkp L (v1, kind, (k : Int))).toList.length ≤ 1 := by cases lkp L (v1, kind, (k : Int)) <;> simp
      simp; omega
theorem take_any {α : Type} {l : List α} {p : α → Bool} {k : Nat} {x : α} (h : l[k]? = some x) : (l.take (k + 1)).any p = ((l.take k).any p || p x) := by
  rw [List.take_add_one, h]; simp

def meetB (l m : List Vt) : Bool := l.any fun x => m.any fun y => x.f == y.f
theorem meets {L : List (Ky × Vt)} {N : Int} (h : OwnF L) (hN : 1 ≤ N ∧ N ≤ 7) (h1 : ((votesTo L 1 0 N.toNat).length : Int) ≥ need N) (h2 : ((votesTo L 2 0 N.toNat).length : Int) ≥ need N) :
    meetB (votesTo L 1 0 N.toNat) (votesTo L 2 0 N.toNat) = true := by
  have hn : need N = N / 2 + 1 := by rw [need, if_pos]; simp [mayB]; omega
  rw [hn] at h1 h2
  by_cases hx : ∀ i, i < N.toNat → lkp L (1, 0, ((i : Nat) : Int)) = none ∨ lkp L (2, 0, ((i : Nat) : Int)) = none
  · have := votes_meet hx; omega
  · simp only [Classical.not_forall, not_or] at hx
    obtain ⟨i, hi, ha, hb⟩ := hx
    obtain ⟨x, hx⟩ := Option.ne_none_iff_exists'.1 ha
    obtain ⟨y, hy⟩ := Option.ne_none_iff_exists'.1 hb
    simp only [meetB, List.any_eq_true, beq_iff_eq]
    exact ⟨x, mem_votesTo.2 ⟨i, hi, hx⟩, y, mem_votesTo.2 ⟨i, hi, hy⟩, by rw [h _ _ hx, h _ _ hy]⟩

abbrev eI : Int → List Value := fun x => [.int .i64 x]
theorem inv_int (w : World) (row : List Value) (h : OkT Try.prog w 3 row) (_ : row.length = Try.prog.cellsOf 3) : ∃ x, row = eI x ∧ i64B x := by
  obtain ⟨x, rfl, hw⟩ := h.int_inv Try.underlying3
  exact ⟨x, rfl, wf_i64 hw⟩
theorem i64s {n : Int} (h1 : -1000000 ≤ n) (h2 : n ≤ 1000000) : i64B n := by unfold i64B; omega

abbrev RT (w0 : World) : Value → World → Prop := fun v w' => v = .bool true ∧ Mod [] w0 w'

theorem Meets_tail {w0 w : World} {b m : Nat} {N : Int} {L : List (Ky × Vt)} (hN : 1 ≤ N ∧ N ≤ 7) (hB : BoxAt w b N m L) (hM : Mod [] w0 w) :
    Calls Try.prog 11 #[(.pointer (some ⟨b, 0, none⟩)), (.int .i64 1), (.int .i64 0)] w fun e w30 => ∃ t31 : Bool, e = .returned (.bool t31) ∧
      Calls Try.prog 12 #[(.int .i64 N)] w30 fun e w32 => ∃ x33 : Int, e = .returned (.int .i64 x33) ∧
      brB (!(t31 == (decide (((votesTo L 1 0 N.toNat).length : Int) ≥ x33)))) (RT w0 (.bool false) w32)
      (
        Calls Try.prog 12 #[(.int .i64 N)] w32 fun e w34 => ∃ x35 : Int, e = .returned (.int .i64 x35) ∧
        brB (decide ((IntKind.wrap .i64 (2 * x35)) > N)) (
          Calls Try.prog 12 #[(.int .i64 N)] w34 fun e w36 => ∃ x37 : Int, e = .returned (.int .i64 x37) ∧
          brB (decide ((IntKind.wrap .i64 (2 * (IntKind.wrap .i64 (x37 - 1)))) ≤ N)) (
            Calls Try.prog 13 #[] w36 fun e w38 => ∃ t39 : Bool, e = .returned (.bool t39) ∧ RT w0 (.bool t39) w38)
          (RT w0 (.bool false) w36))
        (RT w0 (.bool false) w34)) := by
  have hn : need N = N / 2 + 1 := by rw [need, if_pos]; simp [mayB]; omega
  refine (Full_ok hB (i64s (by omega) (by omega)) (i64s (by omega) (by omega)) (by omega)).mono ?_
  rintro e w1 ⟨rfl, M1⟩
  refine ⟨_, rfl, (Need_ok N _).mono ?_⟩
  rintro e w2 ⟨rfl, rfl⟩
  refine ⟨_, rfl, brF (by simp) ((Need_ok N _).mono ?_)⟩
  rintro e w3 ⟨rfl, rfl⟩
  refine ⟨_, rfl, brT (by rw [hn, wrap_id (by omega) (by omega)]; simp; omega) ((Need_ok N _).mono ?_)⟩
  rintro e w4 ⟨rfl, rfl⟩
  refine ⟨_, rfl, brT ?_ ((fixed_ok _).mono ?_)⟩
  · rw [hn, wrap_id (x := N / 2 + 1 - 1) (by omega) (by omega), wrap_id (by omega) (by omega)]; simp; omega
  · rintro e w5 ⟨rfl, M5⟩
    exact ⟨_, rfl, rfl, by simpa using (hM.trans M1).trans M5⟩

/-- The tests behind the third loop. -/
theorem Meets_end {w0 w : World} {b m : Nat} {N : Int} {L : List (Ky × Vt)} {t : Bool} (hN : 1 ≤ N ∧ N ≤ 7) (hB : BoxAt w b N m L) (hM : Mod [] w0 w) (ho : OwnF L) (ht : t = meetB (votesTo L 1 0 N.toNat) (votesTo L 2 0 N.toNat)) {C : World → Prop} (hC : ∀ w', BoxAt w' b N m L → Mod [] w0 w' → C w') :
    Calls Try.prog 11 #[(.pointer (some ⟨b, 0, none⟩)), (.int .i64 1), (.int .i64 0)] w fun e w26 => ∃ t27 : Bool, e = .returned (.bool t27) ∧
    brB t27 (
      Calls Try.prog 11 #[(.pointer (some ⟨b, 0, none⟩)), (.int .i64 2), (.int .i64 0)] w26 fun e w28 => ∃ t29 : Bool, e = .returned (.bool t29) ∧
      brB t29 (
        brB (!t) (RT w0 (.bool false) w28) (C w28)) (C w28)) (C w26) := by
  refine (Full_ok hB (i64s (by omega) (by omega)) (i64s (by omega) (by omega)) (by omega)).mono ?_
  rintro e w1 ⟨rfl, M1⟩
  have B1 := hB.keep0 M1
  refine ⟨_, rfl, brB_dec (fun h1 => ?_) fun _ => hC _ B1 (by simpa using hM.trans M1)⟩
  refine (Full_ok B1 (i64s (by omega) (by omega)) (i64s (by omega) (by omega)) (by omega)).mono ?_
  rintro e w2 ⟨rfl, M2⟩
  have hC2 := hC _ (B1.keep0 M2) (by simpa using (hM.trans M1).trans M2)
  refine ⟨_, rfl, brB_dec (fun h2 => ?_) fun _ => hC2⟩
  exact brF (by rw [ht, meets ho hN h1 h2]; rfl) hC2

/-- The third and fourth loop. -/
def Meets_I3 (w0 : World) (l m : List Vt) (b bm : Nat) (N : Int) (L : List (Ky × Vt)) (a1 : Option Addr) (a2 : Option Addr) (mm : Nat) (t : Bool) (x : Int) (w : World) : Prop :=
  ∃ k : Nat, x = k ∧ k ≤ l.length ∧ t = meetB (l.take k) m ∧ SlAt w 4 encV a1 l.length l ∧ SlAt w 4 encV a2 m.length m ∧ BoxAt w b N bm L ∧ Mod [] w0 w ∧ mm = l.length - k
def Meets_I4 (w0 : World) (l m : List Vt) (b bm : Nat) (N : Int) (L : List (Ky × Vt)) (a1 : Option Addr) (a2 : Option Addr) (k : Nat) (x : Vt) (mm : Nat) (t : Bool) (y : Int) (w : World) : Prop :=
  ∃ j : Nat, y = j ∧ j ≤ m.length ∧ t = (meetB (l.take k) m || (m.take j).any fun y => x.f == y.f) ∧ SlAt w 4 encV a1 l.length l ∧ SlAt w 4 encV a2 m.length m ∧ BoxAt w b N bm L ∧ Mod [] w0 w ∧ mm = m.length - j

theorem Meets_b3 {w0 w : World} {l m : List Vt} {b bm : Nat} {N : Int} {L : List (Ky × Vt)} {a1 a2 : Option Addr} {n1 c1 c2 mm : Nat} {t : Bool} {x : Int} {js : Nat → Value} (hl : l = votesTo L 1 0 N.toNat) (hm : m = votesTo L 2 0 N.toNat) (hN : 1 ≤ N ∧ N ≤ 7) (ho : OwnF L)
    (h : Meets_I3 w0 l m b bm N L a1 a2 mm t x w) :
    law17_QuorumMeets_L3 N (some ⟨b, 0, none⟩) a1 l.length c1 a2 m.length c2 t x (law17_QuorumMeets_K3 N (some ⟨b, 0, none⟩) a1 l.length c1 a2 m.length c2 (Meets_I3 w0 l m b bm N L a1 a2) mm) js (RT w0) w := by
  obtain ⟨k, rfl, hk, rfl, s1, s2, hB, hM, rfl⟩ := h
  have l1 : l.length ≤ 7 := by have := votesTo_len L 1 0 N.toNat; rw [hl]; omega
  have l2 : m.length ≤ 7 := by have := votesTo_len L 2 0 N.toNat; rw [hm]; omega
  refine brB_dec (fun hlt => ?_) fun hge => ?_
  · have hlt : k < l.length := by omega
    obtain ⟨x, hx⟩ : ∃ x, l[k]? = some x := ⟨l[k], by simp [hlt]⟩
    refine law17_QuorumMeets_rule4 (Meets_I4 w0 l m b bm N L a1 a2 k x) m.length ⟨0, rfl, by omega, by simp, s1, s2, hB, hM, rfl⟩ ?_
    rintro mm t y js w1 ⟨j, rfl, hj, rfl, s1, s2, hB, hM, rfl⟩
    refine brB_dec (fun hlt2 => ?_) fun hge2 => ?_
    · have hlt2 : j < m.length := by omega
      obtain ⟨y, hy⟩ : ∃ y, m[j]? = some y := ⟨m[j], by simp [hlt2]⟩
      have e1 : IntKind.wrap .i64 ((j : Int) + 1) = ((j + 1 : Nat) : Int) := by rw [wrap_id (by omega) (by omega)]; omega
      refine brB_of (fun ht => ?_) fun ht => ?_
      · intro w2 M2
        refine law17_QuorumMeets_leaf4 (m.length - (j + 1)) (by omega) ⟨j + 1, e1, by omega, ?_, s1.keep0 M2, s2.keep0 M2, hB.keep0 M2, by simpa using hM.trans M2, rfl⟩
        rw [take_any hy, ← Bool.or_assoc, ht]; rfl
      · refine s1.ix hx fun q hq => ldInt_of (x := x.f) (by simpa [add_zero] using hq 0 _ rfl) ?_
        refine s2.ix hy fun q2 hq2 => ldInt_of (x := y.f) (by simpa [add_zero] using hq2 0 _ rfl) ?_
        intro w2 M2
        refine law17_QuorumMeets_leaf4 (m.length - (j + 1)) (by omega) ⟨j + 1, e1, by omega, ?_, s1.keep0 M2, s2.keep0 M2, hB.keep0 M2, by simpa using hM.trans M2, rfl⟩
        rw [take_any hy, ← Bool.or_assoc, ht]; rfl
    · have hj : j = m.length := by omega
      subst hj
      refine law17_QuorumMeets_leaf3 (l.length - (k + 1)) (by omega) ⟨k + 1, by rw [wrap_id (by omega) (by omega)]; omega, by omega, ?_, s1, s2, hB, hM, rfl⟩
      rw [meetB, meetB, take_any hx, List.take_length]
  · have hk : k = l.length := by omega
    subst hk
    rw [List.take_length]
    subst hl hm
    exact Meets_end hN hB hM ho rfl fun w' hB' hM' => Meets_tail hN hB' hM'

/-- What both loops of votes keep. -/
def Meets_I1 (w0 : World) (la : List Int) (b bm : Nat) (N : Int) (mm : Nat) (x : Int) (w : World) : Prop :=
  ∃ (k : Nat) (L : List (Ky × Vt)), x = k ∧ k ≤ la.length ∧ OwnF L ∧ BoxAt w b N bm L ∧ Mod [] w0 w ∧ mm = la.length - k

theorem Meets_v {w0 w : World} {b bm : Nat} {N : Int} {L : List (Ky × Vt)} (hN : 1 ≤ N ∧ N ≤ 7) (ho : OwnF L) (hB : BoxAt w b N bm L) (hM : Mod [] w0 w) (hbm : w0.heap.size ≤ bm) {view x : Int} (hv : i64B view) {C : Int → World → Prop}
    (hC : ∀ e w' L', OwnF L' → BoxAt w' b N bm L' → Mod [] w0 w' → C e w') :
    Calls Try.prog 9 #[(.pointer (some ⟨b, 0, none⟩)), (.int .i64 view), (.int .i64 0), (.agg #[(.int .i64 (bAnd .i64 x 7)), (.int .i64 0), (.int .i64 0), (.int .i64 0)])] w fun e w6 => ∃ x7 : Int, e = .returned (.int .i64 x7) ∧ C x7 w6 := by
  have hr := bAnd_range (x := x) (m := 7) (by omega) (by omega)
  refine (Vote_ok (x := ⟨bAnd .i64 x 7, 0, 0, 0⟩) hB hv (i64s (by omega) (by omega)) (i64s (by show -1000000 ≤ bAnd .i64 x 7; omega) (by show bAnd .i64 x 7 ≤ 1000000; omega))).mono ?_
  rintro e w1 ⟨rfl, B1, M1⟩
  exact ⟨_, rfl, hC _ _ _ ho.vote B1 ((hM.trans M1).less (fun j hj hlt => by simp at hj; omega))⟩

theorem Meets_ok {replicas : Int} {a1 a2 : Option Addr} {n1 c1 n2 c2 : Nat} {la lb : List Int} {w : World} (sa : SlAt w 1 eI a1 n1 la) (sb : SlAt w 1 eI a2 n2 lb) :
    Calls Try.prog 3 #[.int .i64 replicas, .slice a1 n1 c1, .slice a2 n2 c2] w fun e w' => e = .returned (.bool true) ∧ Mod [] w w' := by
  refine go_of (law17_QuorumMeets_go ⟨by decide, ?_⟩)
  have hr := bAnd_range (x := replicas) (m := 65535) (by omega) (by omega)
  generalize bAnd .i64 replicas 65535 = r at *
  have en : IntKind.wrap .i64 (1 + r.tmod 7) = 1 + r % 7 := by
    rw [Int.tmod_eq_emod_of_nonneg (by omega), wrap_id (by omega) (by omega)]
  rw [en]
  have hN : 1 ≤ 1 + r % 7 ∧ 1 + r % 7 ≤ 7 := by omega
  generalize 1 + r % 7 = N at *
  refine (New_ok N w).mono ?_
  rintro e w1 (⟨h, _⟩ | ⟨_, b, bm, rfl, B1, M1, fb, fm⟩)
  · simp [mayB] at h; omega
  refine ⟨_, _, rfl, brF rfl (brF (by decide) ?_)⟩
  have en1 := sa.1
  have en2 := sb.1
  subst en1 en2
  refine law17_QuorumMeets_rule1 (Meets_I1 w la b bm N) la.length ⟨0, [], rfl, by omega, OwnF.nil, B1, M1, by simp⟩ ?_
  have h3 : ∀ (mm : Nat) (x : Int) (js : Nat → Value) (w1 : World), Meets_I1 w lb b bm N mm x w1 → law17_QuorumMeets_L2 a2 lb.length c2 N (some ⟨b, 0, none⟩) x (law17_QuorumMeets_K2 a2 lb.length c2 N (some ⟨b, 0, none⟩) (Meets_I1 w lb b bm N) mm) js (RT w) w1 := by
    rintro mm x js w1 ⟨k, L, rfl, hk, ho, hB, hM, rfl⟩
    refine brB_dec (fun hlt => brB_dec (fun h20 => ?_) fun _ => ?_) fun _ => ?_
    · obtain ⟨y, hy⟩ : ∃ y, lb[k]? = some y := ⟨lb[k]'(by omega), by simp⟩
      refine (sb.keep0 hM).ix hy fun q hq => ldInt_of (x := y) (by simpa [add_zero] using hq 0 _ rfl) ?_
      refine Meets_v hN ho hB hM fm (i64s (by omega) (by omega)) fun e w2 L' ho' hB' hM' => ?_
      exact law17_QuorumMeets_leaf2 (lb.length - (k + 1)) (by omega) ⟨k + 1, L', by rw [wrap_id (by omega) (by omega)]; omega, by omega, ho', hB', hM', rfl⟩
    all_goals
      refine (Votes_ok hB (i64s (by omega) (by omega)) (i64s (by omega) (by omega)) (by omega)).mono ?_
      rintro e w2 ⟨a3, c3, rfl, R3, M3⟩
      refine ⟨_, _, _, rfl, ?_⟩
      refine (Votes_ok (hB.keep0 M3) (i64s (by omega) (by omega)) (i64s (by omega) (by omega)) (by omega)).mono ?_
      rintro e w3 ⟨a4, c4, rfl, R4, M4⟩
      refine ⟨_, _, _, rfl, ?_⟩
      refine law17_QuorumMeets_rule3 (Meets_I3 w (votesTo L 1 0 N.toNat) (votesTo L 2 0 N.toNat) b bm N L a3 a4) _ ⟨0, rfl, by omega, by simp [meetB], (R3.keep0 M4).sl encV_len, R4.sl encV_len, (hB.keep0 M3).keep0 M4, by simpa using (hM.trans M3).trans M4, rfl⟩ ?_
      exact fun mm t x js w h => Meets_b3 (n1 := 0) rfl rfl hN ho h
  rintro mm x js w1 ⟨k, L, rfl, hk, ho, hB, hM, rfl⟩
  refine brB_dec (fun hlt => brB_dec (fun h20 => ?_) fun _ => ?_) fun _ => ?_
  · obtain ⟨y, hy⟩ : ∃ y, la[k]? = some y := ⟨la[k]'(by omega), by simp⟩
    refine (sa.keep0 hM).ix hy fun q hq => ldInt_of (x := y) (by simpa [add_zero] using hq 0 _ rfl) ?_
    refine Meets_v hN ho hB hM fm (i64s (by omega) (by omega)) fun e w2 L' ho' hB' hM' => ?_
    exact law17_QuorumMeets_leaf1 (la.length - (k + 1)) (by omega) ⟨k + 1, L', by rw [wrap_id (by omega) (by omega)]; omega, by omega, ho', hB', hM', rfl⟩
  all_goals
    exact law17_QuorumMeets_rule2 (Meets_I1 w lb b bm N) lb.length ⟨0, L, rfl, by omega, ho, hB, hM, rfl⟩ h3

end Go.Proofs.Ytkdpopkbongabaa
