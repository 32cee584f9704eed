/- Layer 17: the votes of a view and a kind, whether they are enough, the best one, the greatest committed number; what goes. -/
import Derived.Test.YtkdpopkbongabaaQ1
namespace Go.Proofs.Ytkdpopkbongabaa
open Go Go.RowKit Go.Maps Go.MapKept
set_option linter.unusedVariables false
set_option linter.unusedSimpArgs false

def votesTo (L : List (Ky × Vt)) (view kind : Int) (k : Nat) : List Vt := (List.range k).filterMap fun (i : Nat) => lkp L (view, kind, (i : Int))
theorem votesTo_succ (L : List (Ky × Vt)) (view kind : Int) (k : Nat) : votesTo L view kind (k + 1) = votesTo L view kind k ++ (lkp L (view, kind, (k : Int))).toList := by
  simp only [votesTo, List.range_succ, List.filterMap_append, List.filterMap_cons, List.filterMap_nil]
  cases h : lkp L (view, kind, (k : Int)) <;> rfl
theorem votesTo_len (L : List (Ky × Vt)) (view kind : Int) (k : Nat) : (votesTo L view kind k).length ≤ k := by
  simpa [votesTo] using List.length_filterMap_le (fun i : Nat => lkp L (view, kind, (i : Int))) (List.range k)
theorem infoV : (Try.prog.info? 29).map (fun i => (i.zero, i.size, i.bytes)) = some (some (Vt.v ⟨0, 0, 0, 0⟩), 4, 32) := by kernel_rfl
theorem encV_len (x : Vt) : (encV x).length = 4 := rfl
theorem encV_one (x : Vt) : ∀ u ∈ encV x, u.oneCell' = true := by
  intro u hu; simp [encV] at hu; rcases hu with rfl | rfl | rfl | rfl <;> rfl

theorem Votes_ok {b m : Nat} {n view kind : Int} {L : List (Ky × Vt)} {w : World} (hB : BoxAt w b n m L) (h1 : i64B view) (h2 : i64B kind) (hn : 0 ≤ n ∧ n ≤ 7) :
    Calls Try.prog 10 #[.pointer (some ⟨b, 0, none⟩), .int .i64 view, .int .i64 kind] w fun e w' =>
      ∃ a c, e = .returned (.slice a (votesTo L view kind n.toNat).length c) ∧ Row w' w.heap.size 29 4 encV a (votesTo L view kind n.toNat).length c (votesTo L view kind n.toNat) ∧ Mod [] w w' := by
  refine (quorum_Box_Votes_go (a0_b := ⟨b, 0, none⟩) (R := fun v w' => ∃ a c, v = .slice a (votesTo L view kind n.toNat).length c ∧ Row w' w.heap.size 29 4 encV a (votesTo L view kind n.toNat).length c (votesTo L view kind n.toNat) ∧ Mod [] w w') ?_).mono
    (fun e w' ⟨v, he, a, c, hv, h⟩ => ⟨a, c, by rw [he, hv], h⟩)
  refine ldInt_at hB.cells rfl ?_
  obtain ⟨N, rfl⟩ := Int.eq_ofNat_of_zero_le hn.1
  simp only [Int.toNat_natCast]
  refine quorum_Box_Votes_rule1 (fun mm a q c x w' => ∃ k : Nat, x = k ∧ k ≤ N ∧ q = (votesTo L view kind k).length ∧ Row w' w.heap.size 29 4 encV a q c (votesTo L view kind k) ∧ Mod [] w w' ∧ mm = N - k) N ⟨0, rfl, Nat.zero_le _, rfl, Row.nil _ _ _ _ _, Mod.refl w, rfl⟩ ?_
  rintro mm a q c x js w1 ⟨k, rfl, hk, rfl, hR, M1, rfl⟩
  have B1 := hB.keep0 M1
  obtain ⟨l, hkey⟩ := keyOf_Ky (k := (view, kind, (k : Int))) h1 h2 (by unfold i64B; simp only; omega)
  have wk : IntKind.wrap .i64 ((k : Int) + 1) = ((k + 1 : Nat) : Int) := by rw [wrap_id (by omega) (by omega)]; omega
  refine brB_dec (fun hlt => ?_) fun hge => ?_
  · have hlt : k < N := by omega
    refine ldMap_at B1.cells rfl ?_
    have look := fun w' (hm : Mod [] w1 w') => (B1.keep0 hm).map.look true keyLaw Ky_inj Try.underlying52 (zeroV w') hkey
    have hs := votesTo_succ L view kind k
    cases hl : lkp L (view, kind, (k : Int)) with
    | none =>
      refine ⟨0, 0, 0, 0, false, fun w' hm => by have := look w' hm; rw [hl] at this; exact this, ?_⟩
      refine al_st rfl rfl fun b3 w9 c3 M9 f3 => ?_
      rw [brB_false]
      refine quorum_Box_Votes_leaf1 (N - (k + 1)) (by omega) ⟨k + 1, wk, by omega, ?_⟩
      rw [hs, hl]
      simp only [Option.toList_none, List.append_nil]
      exact ⟨trivial, hR.keep0 M9, by simpa using M1.trans M9, trivial⟩
    | some y =>
      refine ⟨y.f, y.n, y.l, y.c, true, fun w' hm => by have := look w' hm; rw [hl] at this; exact this, ?_⟩
      refine al_st rfl rfl fun b3 w9 c3 M9 f3 => ?_
      show _
      refine ldInt_at c3 rfl (ldInt_at c3 rfl (ldInt_at c3 rfl (ldInt_at c3 rfl ?_)))
      refine al_of fun b4 w10 c4 M10 f4 => ?_
      obtain ⟨i0, hi, hz0, hz1, hz2⟩ := info_parts infoV
      have M := M9.trans M10
      have hlen := votesTo_len L view kind k
      refine append_of (x := y) (hR.keep0 M) Try.underlying30 hi hz0 hz1 hz2 rfl (by decide) c4 rfl (encV_one y) (by omega) (by unfold maxLen; omega) ?_ fun a' c' w11 hR' hM' => ?_
      · have := (M1.trans M).size; omega
      · refine quorum_Box_Votes_leaf1 (N - (k + 1)) (by omega) ⟨k + 1, wk, by omega, ?_⟩
        rw [hs, hl]
        simp only [Option.toList_some, List.length_append, List.length_singleton]
        refine ⟨trivial, by simpa using hR', ?_, trivial⟩
        cases a with
        | none => simpa using (M1.trans M).trans (hM' [] (by simp))
        | some ad => exact ((M1.trans M).trans (hM' [ad.block] (by simp))).less (fun j hj hlt => by have := (hR.base ad rfl); simp at hj; omega)
  · have : k = N := by omega
    subst this
    exact ⟨a, c, rfl, hR, M1⟩

theorem Full_ok {b m : Nat} {n view kind : Int} {L : List (Ky × Vt)} {w : World} (hB : BoxAt w b n m L) (h1 : i64B view) (h2 : i64B kind) (hn : 0 ≤ n ∧ n ≤ 7) :
    Calls Try.prog 11 #[.pointer (some ⟨b, 0, none⟩), .int .i64 view, .int .i64 kind] w fun e w' =>
      e = .returned (.bool (decide (((votesTo L view kind n.toNat).length : Int) ≥ need n))) ∧ Mod [] w w' := by
  refine go_of (quorum_Box_Full_go (a0_b := ⟨b, 0, none⟩) ?_)
  intro w1 M1
  have B1 := hB.keep0 M1
  refine ldInt_at B1.cells rfl ?_
  refine (Votes_ok B1 h1 h2 hn).mono ?_
  rintro e w2 ⟨a, c, rfl, hR, M2⟩
  refine ⟨_, _, _, rfl, ?_⟩
  refine ⟨ldInt_at (B1.keep0 M2).cells rfl rfl, ?_⟩
  refine (Need_ok _ _).mono ?_
  rintro e w3 ⟨rfl, rfl⟩
  exact ⟨_, rfl, rfl, by simpa using M1.trans M2⟩

/-! ### the best one -/
theorem isNaN_ok (x : Int) (w : World) : Calls Try.prog 38 #[.int .i64 x] w fun e w' => e = .returned (.bool false) ∧ w' = w :=
  go_of (cmp_isNaN_int_go ⟨by simp, rfl⟩)
def cmpI (x y : Int) : Int := if x < y then -1 else if x > y then 1 else 0
theorem Compare_ok (x y : Int) (w : World) : Calls Try.prog 36 #[.int .i64 x, .int .i64 y] w fun e w' => e = .returned (.int .i64 (cmpI x y)) ∧ w' = w := by
  refine go_of (cmp_Compare_int_go ?_)
  refine (isNaN_ok _ _).mono ?_
  rintro e w1 ⟨rfl, rfl⟩
  refine ⟨_, rfl, ?_⟩
  refine (isNaN_ok _ _).mono ?_
  rintro e w2 ⟨rfl, rfl⟩
  refine ⟨_, rfl, ?_⟩
  refine brB_dec (fun h => ⟨by simp [cmpI, h], rfl⟩) fun h => brB_dec (fun h' => ⟨by simp [cmpI, h, h'], rfl⟩) fun h' => ⟨by simp [cmpI, h, h'], rfl⟩

/-- The first that is not nought. -/
def firstOf : List Int → Int
  | [] => 0
  | x :: r => if x = 0 then firstOf r else x
theorem firstOf_zeros {l : List Int} {k : Nat} (h : ∀ i x, i < k → l[i]? = some x → x = 0) : firstOf l = firstOf (l.drop k) := by
  induction l generalizing k with
  | nil => simp
  | cons y r ih =>
    cases k with
    | zero => simp
    | succ k =>
      have : y = 0 := h 0 y (by omega) (by simp)
      rw [firstOf, if_pos this, List.drop_succ_cons]
      exact ih fun i x hi hx => h (i + 1) x (by omega) (by simpa using hx)

theorem Or_ok {a : Option Addr} {n c : Nat} {l : List Int} {w : World} (h : SlAt w 1 (fun x : Int => [.int .i64 x]) a n l) (hl : l.length ≤ 1000000) :
    Calls Try.prog 35 #[.slice a n c] w fun e w' => e = .returned (.int .i64 (firstOf l)) ∧ w' = w := by
  refine go_of (cmp_Or_int_go ?_)
  have hn := h.1
  refine cmp_Or_int_rule1 (fun mm x w' => ∃ k : Nat, x = k ∧ k ≤ n ∧ w' = w ∧ (∀ i y, i < k → l[i]? = some y → y = 0) ∧ mm = n - k) n ⟨0, rfl, Nat.zero_le _, rfl, by omega, rfl⟩ ?_
  rintro mm x js w1 ⟨k, rfl, hk, rfl, hz, rfl⟩
  refine brB_dec (fun hlt => ?_) fun hge => ?_
  · have hlt : k < l.length := by omega
    refine h.ix (x := l[k]) (by simp [hlt]) fun q hq => ?_
    refine ldInt_of (x := l[k]) (by have := hq 0 _ rfl; rwa [add_zero] at this) ?_
    refine brB_of (fun hne => ?_) fun he => ?_
    · have hne : l[k] ≠ 0 := by simpa using hne
      refine ⟨?_, rfl⟩
      rw [firstOf_zeros hz, List.drop_eq_getElem_cons hlt, firstOf, if_neg hne]
    · have he : l[k] = 0 := by simpa using he
      refine cmp_Or_int_leaf1 (n - (k + 1)) (by omega) ⟨k + 1, by rw [wrap_id (by omega) (by omega)]; omega, by omega, rfl, fun i y hi hy => ?_, rfl⟩
      by_cases hik : i < k
      · exact hz i y hik hy
      · have : i = k := by omega
        subst this
        rw [List.getElem?_eq_getElem hlt] at hy
        cases hy; exact he
  · refine ⟨?_, rfl⟩
    rw [firstOf_zeros hz, List.drop_of_length_le (by omega)]
    rfl

def ordV (x y : Vt) : Int := firstOf [cmpI x.n y.n, cmpI x.l y.l, cmpI y.f x.f]
theorem order_ok (x y : Vt) (w : World) : Calls Try.prog 32 #[x.v, y.v] w fun e w' => e = .returned (.int .i64 (ordV x y)) ∧ Mod [] w w' := by
  refine go_of (quorum_order_go ?_)
  refine al_of fun b1 w1 c1 M1 f1 => ?_
  refine al_of fun b2 w2 c2 M2 f2 => ?_
  intro w3 M3
  have M := (M1.trans M2).trans M3
  have c1 := (M2.trans M3).keep0 c1
  have c2 := M3.keep0 c2
  refine ldInt_at c1 rfl (ldInt_at c2 rfl (ldInt_at c1 rfl (ldInt_at c2 rfl (ldInt_at c2 rfl (ldInt_at c1 rfl ?_)))))
  refine (Compare_ok _ _ _).mono ?_
  rintro e w4 ⟨rfl, rfl⟩
  refine ⟨_, rfl, ?_⟩
  refine ⟨ldInt_at c1 rfl rfl, ldInt_at c2 rfl rfl, ldInt_at c2 rfl rfl, ldInt_at c1 rfl rfl, ?_⟩
  refine (Compare_ok _ _ _).mono ?_
  rintro e w5 ⟨rfl, rfl⟩
  refine ⟨_, rfl, ?_⟩
  refine ⟨ldInt_at c1 rfl rfl, ldInt_at c2 rfl rfl, ?_⟩
  refine (Compare_ok _ _ _).mono ?_
  rintro e w6 ⟨rfl, rfl⟩
  refine ⟨_, rfl, ?_⟩
  refine al_of fun b3 w7 c3 M7 f3 => ?_
  refine (Or_ok (l := [cmpI x.n y.n, cmpI x.l y.l, cmpI y.f x.f]) ⟨rfl, fun i z hz => ⟨_, rfl, fun j v hv => ?_⟩⟩ (by simp)).mono ?_
  · have hj : j = 0 := by
      cases j with
      | zero => rfl
      | succ j => simp at hv
    subst hj
    simp at hv; subst hv
    rw [add_zero]
    match i, hz with
    | 0, hz => simp at hz; subst hz; exact (cell_at c3).trans rfl
    | 1, hz => simp at hz; subst hz; exact (cell_at c3).trans rfl
    | 2, hz => simp at hz; subst hz; exact (cell_at c3).trans rfl
  · rintro e w8 ⟨rfl, rfl⟩
    exact ⟨_, rfl, rfl, by simpa using M.trans M7⟩

def maxV : Vt → List Vt → Vt
  | m, [] => m
  | m, x :: r => maxV (if ordV x m > 0 then x else m) r
theorem maxV_take {l : List Vt} {m x : Vt} {k : Nat} (hx : l[k]? = some x) : maxV m (l.take (k + 1)) = (if ordV x (maxV m (l.take k)) > 0 then x else maxV m (l.take k)) := by
  induction l generalizing m k with
  | nil => simp at hx
  | cons y r ih =>
    cases k with
    | zero => simp at hx; subst hx; simp [maxV]
    | succ k => simp only [List.take_succ_cons, maxV]; exact ih (by simpa using hx)

theorem MaxFunc_ok {a : Option Addr} {n c : Nat} {x0 : Vt} {l : List Vt} {w : World} (h : SlAt w 4 encV a n (x0 :: l)) (hl : l.length ≤ 1000000) :
    Calls Try.prog 31 #[.slice a n c, .func (.func 32) #[] #[]] w fun e w' => e = .returned (maxV x0 l).v ∧ Mod [] w w' := by
  refine go_of (slices_MaxFunc_api_Vote_api_Vote_go ?_)
  have hn : n = l.length + 1 := by simpa using h.1
  refine al_of fun b1 w1 c1 M1 f1 => ?_
  refine brB_dec (fun h => by omega) fun _ => ?_
  refine (h.keep0 M1).ix (i := 0) (x := x0) rfl fun q hq => ?_
  have q0 := hq 0 _ rfl
  rw [add_zero] at q0
  refine ldInt_of q0 (ldInt_of (hq 1 _ rfl) (ldInt_of (hq 2 _ rfl) (ldInt_of (hq 3 _ rfl) ?_)))
  refine al_st rfl rfl fun b2 w2 c2 M2 f2 => ?_
  have hb : b1 < b2 := Nat.lt_of_lt_of_le (lt_of_block c1) f2
  refine slices_MaxFunc_api_Vote_api_Vote_rule1 (fun mm x w' => ∃ k : Nat, x = (k + 1 : Nat) ∧ k ≤ l.length ∧ Mod [] w w' ∧ w'.heap[b1]? = some (.cells (encV ⟨0, 0, 0, 0⟩).toArray 29) ∧
    w'.heap[b2]? = some (.cells (encV (maxV x0 (l.take k))).toArray 29) ∧ mm = l.length - k) l.length ⟨0, rfl, Nat.zero_le _, by simpa using M1.trans M2, M2.keep0 c1, c2, rfl⟩ ?_
  rintro mm x js w3 ⟨k, rfl, hk, M3, d1, d2, rfl⟩
  refine brB_dec (fun hlt => ?_) fun hge => ?_
  · have hlt : k < l.length := by omega
    have hx : (x0 :: l)[k + 1]? = some l[k] := by simp [hlt]
    intro w4 M4
    have d1 := M4.keep0 d1
    have d2 := M4.keep0 d2
    have M34 := M3.trans M4
    simp only [List.append_nil] at M34
    refine (h.keep0 M34).ix hx fun q hq => ?_
    have q0 := hq 0 _ rfl
    rw [add_zero] at q0
    refine ldInt_of q0 (ldInt_of (hq 1 _ rfl) (ldInt_of (hq 2 _ rfl) (ldInt_of (hq 3 _ rfl) ?_)))
    refine ldInt_at d2 rfl (ldInt_at d2 rfl (ldInt_at d2 rfl (ldInt_at d2 rfl ?_)))
    refine (order_ok l[k] (maxV x0 (l.take k)) w4).mono ?_
    rintro e w5 ⟨rfl, M5⟩
    have M35 : Mod [] w w5 := by simpa using M34.trans M5
    have d1 := M5.keep0 d1
    have d2 := M5.keep0 d2
    have hx' : l[k]? = some l[k] := by simp [hlt]
    have hm := maxV_take (m := x0) hx'
    refine ⟨_, rfl, brB_dec (fun hgt => ?_) fun hle => ?_⟩
    · refine (h.keep0 M35).ix hx fun q hq => ?_
      have q0 := hq 0 _ rfl
      rw [add_zero] at q0
      refine ldInt_of q0 (ldInt_of (hq 1 _ rfl) (ldInt_of (hq 2 _ rfl) (ldInt_of (hq 3 _ rfl) ?_)))
      refine st_all d2 rfl rfl fun w6 d2 M6 => ?_
      refine slices_MaxFunc_api_Vote_api_Vote_leaf1 (l.length - (k + 1)) (by omega) ⟨k + 1, by rw [wrap_id (by omega) (by omega)]; omega, by omega, (M35.trans M6).less (fun j hj hlt => ?_), M6.keep d1 (by simp; omega), ?_, rfl⟩
      · have := M1.size; simp at hj; omega
      · rw [hm, if_pos hgt]; exact d2
    · refine slices_MaxFunc_api_Vote_api_Vote_leaf1 (l.length - (k + 1)) (by omega) ⟨k + 1, by rw [wrap_id (by omega) (by omega)]; omega, by omega, M35, d1, ?_, rfl⟩
      rw [hm, if_neg hle]; exact d2
  · have : k = l.length := by omega
    subst this
    rw [List.take_length] at d2
    refine ldInt_at d2 rfl (ldInt_at d2 rfl (ldInt_at d2 rfl (ldInt_at d2 rfl ?_)))
    refine st_all d1 rfl rfl fun w4 e1 M4 => ?_
    refine ldInt_at e1 rfl (ldInt_at e1 rfl (ldInt_at e1 rfl (ldInt_at e1 rfl ?_)))
    exact ⟨rfl, (M3.trans M4).less (fun j hj hlt => by simp at hj; omega)⟩


def bestOf (l : List Vt) : Vt × Bool := match l with
  | [] => (⟨0, 0, 0, 0⟩, false)
  | x :: r => (maxV x r, true)
theorem Best_ok {b m : Nat} {n view kind : Int} {L : List (Ky × Vt)} {w : World} (hB : BoxAt w b n m L) (h1 : i64B view) (h2 : i64B kind) (hn : 0 ≤ n ∧ n ≤ 7) :
    Calls Try.prog 14 #[.pointer (some ⟨b, 0, none⟩), .int .i64 view, .int .i64 kind] w fun e w' =>
      e = .returned (.tuple #[(bestOf (votesTo L view kind n.toNat)).1.v, .bool (bestOf (votesTo L view kind n.toNat)).2]) ∧ Mod [] w w' := by
  refine go_of (quorum_Box_Best_go (a0_b := ⟨b, 0, none⟩) ?_)
  refine al_of fun b1 w1 c1 M1 f1 => ?_
  refine (Votes_ok (hB.keep0 M1) h1 h2 hn).mono ?_
  rintro e w2 ⟨a, c, rfl, hR, M2⟩
  refine ⟨_, _, _, rfl, ?_⟩
  have c1 := M2.keep0 c1
  have M12 : Mod [] w w2 := by simpa using M1.trans M2
  have hlen := votesTo_len L view kind n.toNat
  generalize hl : votesTo L view kind n.toNat = l at *
  cases l with
  | nil =>
    refine st_all c1 rfl rfl fun w3 c3 M3 => ?_
    refine ldInt_at c3 rfl (ldInt_at c3 rfl (ldInt_at c3 rfl (ldInt_at c3 rfl ?_)))
    exact ⟨rfl, (M12.trans M3).less (fun j hj hlt => by simp at hj; omega)⟩
  | cons x r =>
    refine brB_of (fun h => ?_) fun _ => ?_
    · simp at h; omega
    simp only [List.length_cons] at hlen
    refine (MaxFunc_ok (hR.sl encV_len) (by omega)).mono ?_
    rintro e w3 ⟨rfl, M3⟩
    refine ⟨_, _, _, _, rfl, ?_⟩
    refine st_all (M3.keep0 c1) rfl rfl fun w4 c4 M4 => ?_
    refine ldInt_at c4 rfl (ldInt_at c4 rfl (ldInt_at c4 rfl (ldInt_at c4 rfl ?_)))
    exact ⟨rfl, ((M12.trans M3).trans M4).less (fun j hj hlt => by simp at hj; omega)⟩

def commitOf : Int → List Vt → Int
  | n, [] => n
  | n, x :: r => commitOf (if x.c > n then x.c else n) r
theorem commitOf_take {l : List Vt} {n : Int} {x : Vt} {k : Nat} (hx : l[k]? = some x) : commitOf n (l.take (k + 1)) = (if x.c > commitOf n (l.take k) then x.c else commitOf n (l.take k)) := by
  induction l generalizing n k with
  | nil => simp at hx
  | cons y r ih =>
    cases k with
    | zero => simp at hx; subst hx; simp [commitOf]
    | succ k => simp only [List.take_succ_cons, commitOf]; exact ih (by simpa using hx)

theorem Commit_ok {b m : Nat} {n view kind : Int} {L : List (Ky × Vt)} {w : World} (hB : BoxAt w b n m L) (h1 : i64B view) (h2 : i64B kind) (hn : 0 ≤ n ∧ n ≤ 7) :
    Calls Try.prog 16 #[.pointer (some ⟨b, 0, none⟩), .int .i64 view, .int .i64 kind] w fun e w' =>
      e = .returned (.int .i64 (commitOf 0 (votesTo L view kind n.toNat))) ∧ Mod [] w w' := by
  refine go_of (quorum_Box_Commit_go (a0_b := ⟨b, 0, none⟩) ?_)
  refine (Votes_ok hB h1 h2 hn).mono ?_
  rintro e w1 ⟨a, c, rfl, hR, M1⟩
  refine ⟨_, _, _, rfl, ?_⟩
  have hlen := votesTo_len L view kind n.toNat
  generalize hl : votesTo L view kind n.toNat = l at *
  have hS := hR.sl encV_len
  refine quorum_Box_Commit_rule1 (fun mm y x w' => ∃ k : Nat, x = k ∧ k ≤ l.length ∧ y = commitOf 0 (l.take k) ∧ Mod [] w w' ∧ Mod [] w1 w' ∧ mm = l.length - k) l.length ⟨0, rfl, Nat.zero_le _, rfl, M1, Mod.refl _, rfl⟩ ?_
  rintro mm y x js w2 ⟨k, rfl, hk, rfl, M2, M12, rfl⟩
  refine brB_dec (fun hlt => ?_) fun hge => ?_
  · have hlt : k < l.length := by omega
    have hx' : l[k]? = some l[k] := by simp [hlt]
    refine (hS.keep0 M12).ix hx' fun q hq => ?_
    have q0 := hq 0 _ rfl
    rw [add_zero] at q0
    refine ldInt_of q0 (ldInt_of (hq 1 _ rfl) (ldInt_of (hq 2 _ rfl) (ldInt_of (hq 3 _ rfl) ?_)))
    refine al_st rfl rfl fun b3 w3 c3 M3 f3 => ?_
    refine ldInt_at c3 rfl ?_
    refine quorum_Box_Commit_leaf1 (l.length - (k + 1)) (by omega) ⟨k + 1, by rw [wrap_id (by omega) (by omega)]; omega, by omega, by rw [commitOf_take hx'], by simpa using M2.trans M3, by simpa using M12.trans M3, rfl⟩
  · have : k = l.length := by omega
    subst this
    exact ⟨by rw [List.take_length], M2⟩

end Go.Proofs.Ytkdpopkbongabaa
