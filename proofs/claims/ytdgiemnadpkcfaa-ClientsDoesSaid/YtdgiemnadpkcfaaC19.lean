/- ClientsLoads, walked. -/
import Derived.Test.YtdgiemnadpkcfaaC18
namespace Go.Proofs.Ytdgiemnadpkcfaa
open Go Go.RowKit Go.Maps Go.MapKept
set_option linter.unusedVariables false
set_option linter.unusedSimpArgs false

theorem loads_len {xs : List PLast} (h : loadE xs = 0) : xs.length ≤ 16 := by
  unfold loadE at h
  split at h
  · simp at h
  · omega
theorem loads_rise {xs : List PLast} (h : loadE xs = 0) : Rise xs := by
  have h0 : okRows none xs = true := by
    unfold loadE at h
    split at h
    · simp at h
    · split at h
      · assumption
      · simp at h
  refine List.pairwise_iff_getElem.2 fun i j hi hj hij => ?_
  have hok : ∀ j', j' ≤ j → okAt xs j' := fun j' _ x hx => okRows_at.1 h0 j' x hx
  exact okAt_rise (List.getElem?_eq_getElem hj) hok i _ hij (List.getElem?_eq_getElem hi)
set_option maxHeartbeats 1000000 in
theorem Loads_ok {a : Option Addr} {ln cp : Nat} {l : List LV} {w : World} (hS : SlAt w 9 LV.cs a ln l) (hB : ∀ x ∈ l, RepRd w x.x.r x.f x.p) :
    Calls Try.prog 3 #[.slice a ln cp] w fun e w' => e = .returned (.bool true) ∧ Mod [] w w' := by
  refine go_of (law15_ClientsLoads_go ?_)
  have hn := hS.1
  refine al_of fun b1 w1 c1 M1 f1 => ?_
  refine law15_ClientsLoads_rule1 (fun mm a3 n3 c3 x w' => ∃ (k : Nat) (ll : List LV), x = k ∧ k ≤ 20 ∧ ll.length = k ∧ Row w' w.heap.size 29 9 LV.cs a3 n3 c3 ll ∧ (∀ q ∈ ll, RepOwn w' w.heap.size q.x.r q.f q.p) ∧ Mod [] w w' ∧ mm = 20 - k) 20
    ⟨0, [], rfl, by omega, rfl, Row.fresh c1 f1, by simp, M1, rfl⟩ ?_
  rintro mm a3 n3 c3 x w2 ⟨k, ll, rfl, hk, hl, hR, hO, M2, rfl⟩
  refine brB_dec (fun hlt => ?_) fun hge => ?_
  · refine brB_dec (fun hlt4 => ?_) fun hge => ?_
    · obtain ⟨y, hy⟩ : ∃ y, l[k]? = some y := ⟨_, List.getElem?_eq_getElem (by omega)⟩
      have hyB := hB y (List.mem_of_getElem? hy)
      refine (hS.keep0 M2).ix hy fun q hq => ldInt_of (x := y.x.c) (by simpa [add_zero] using hq 0 _ rfl) (ldInt_of (hq 1 _ rfl) (ldBool_of (hq 2 _ rfl) (ldInt_of (hq 3 _ rfl) (ldInt_of (hq 4 _ rfl) (ldInt_of (hq 5 _ rfl) (ldInt_of (hq 6 _ rfl) (ldSlice_of (hq 7 _ rfl) (ldSlice_of (hq 8 _ rfl) ?_))))))))
      intro b3 f3 w3 A3
      have s2 := M2.size
      have s3 := A3.mod.size
      have l3 := A3.lt b3 (by simp)
      refine (CutReply_ok (hyB.keep0 (M2.go0 A3.mod (by simp)))).mono ?_
      rintro e w4 ⟨_, rfl, r', f', p', rfl, hR4, M4⟩
      refine ⟨_, _, _, _, _, _, _, _, _, _, rfl, Keep.of0 M4, ?_⟩
      intro w5 A5
      have s4 := M4.size
      have s5 := A5.mod.size
      refine al_of fun b6 w6 c6 M6 f6 => ?_
      have s6 := M6.size
      have N5 : Mod [] w2 w5 := (A3.mod.go0 M4 (by simp)).go0 A5.mod (by simpa using f3)
      have N6 := N5.go0 M6 (by simp)
      have hR5 : RepOwn w6 w.heap.size r' f' p' := by
        refine RepOwn.keep0 ⟨(hR4.found.keep A5.mod fun ad ha hk => ?_).rebase (by omega), (hR4.parts.keep A5.mod fun ad ha hk => ?_).rebase (by omega), hR4.lf, hR4.lp⟩ M6
        · have := hR4.found.base ad ha; simp at hk; omega
        · have := hR4.parts.base ad ha; simp at hk; omega
      obtain ⟨i0, hi, hz0, hz1, hz2⟩ := info_parts infoL
      refine append_of (x := ⟨⟨y.x.c, y.x.n, y.x.done, r'⟩, f', p'⟩) (hR.keep0 N6) Try.underlying22 hi hz0 hz1 hz2 rfl (by decide) c6 rfl (LV.cs_one _) (by omega) (by unfold maxLen; omega) (by omega) fun a' c' w7 hR7 hM7 => ?_
      have M7 := hM7 _ (rowS_ok a3)
      have hrow : ∀ k ∈ rowS a3, w.heap.size ≤ k ∧ k < w2.heap.size ∧ ∃ cur, w2.heap[k]? = some (.cells cur 29) := by
        cases a3 with
        | none => simp [rowS]
        | some ad => intro k hk; simp [rowS] at hk; subst hk; obtain ⟨h1, cur, h2⟩ := hR.block ad rfl; exact ⟨h1, lt_of_block h2, cur, h2⟩
      have kp : ∀ {r f p}, RepOwn w6 w.heap.size r f p → RepOwn w7 w.heap.size r f p := fun hh => hh.keep M7 fun k hk cs T hc => by
        obtain ⟨_, _, cur, hcur⟩ := hrow k hk
        rw [N6.keep0 hcur] at hc; cases hc; decide
      refine ⟨Keep.of M7 fun b hb _ hb' => ?_, ?_⟩
      · have := hrow b hb'; simp at hb; omega
      refine law15_ClientsLoads_leaf1 (20 - (k + 1)) (by omega) ⟨k + 1, _, by rw [wrap_id (by omega) (by omega)]; omega, by omega, by simp [hl], hR7, fun q hq => ?_, (M2.go0 N6 (by simp)).go0 M7 fun i hi => (hrow i hi).1, rfl⟩
      rcases List.mem_append.1 hq with hq | hq
      · exact kp ((hO q hq).keep0 N6)
      · simp at hq; subst hq; exact kp hR5
    · have hRows : RowsAt w2 ⟨a3, n3, c3⟩ (ll.map (·.x)) := ⟨ll, hR.sl LV.cs_len, fun q hq => (hO q hq).at, rfl⟩
      refine (Load_ok (s := ⟨a3, n3, c3⟩) hRows).mono ?_
      rintro e w3 ⟨v3, rfl, h3⟩
      rcases h3 with ⟨hE, rfl, M3⟩ | ⟨hE, b', m', rfl, hT3, M3, _, _⟩
      · refine ⟨_, _, rfl, ?_⟩
        refine (rLoad_ok (s := ⟨a3, n3, c3⟩) (hRows.keep0 M3)).mono ?_
        rintro e w4 ⟨v4, rfl, h4, M4⟩
        rcases h4 with ⟨_, rfl⟩ | ⟨hE', _⟩
        · refine ⟨_, _, rfl, brF (by simp) (brF rfl (brT rfl ?_))⟩
          refine (fixed15_ok w4).mono ?_
          rintro e w5 ⟨rfl, M5⟩
          exact ⟨_, rfl, rfl, ((M2.go0 M3 (by simp)).go0 M4 (by simp)).go0 M5 (by simp)⟩
        · exact absurd hE' hE
      · refine ⟨_, _, rfl, ?_⟩
        refine (rLoad_ok (s := ⟨a3, n3, c3⟩) (hRows.keep0 M3)).mono ?_
        rintro e w4 ⟨v4, rfl, h4, M4⟩
        rcases h4 with ⟨hE', _⟩ | ⟨_, rb, rfl⟩
        · exact absurd hE hE'
        · refine ⟨_, _, rfl, brF (by simp) (brF rfl (brF rfl ?_))⟩
          have hRise := loads_rise hE
          have hlen := loads_len hE
          refine (List_ok (hT3.keep0 M4) (by simp [loadT]; simp at hlen; omega)).mono ?_
          rintro e w5 ⟨_, rfl, s5, rfl, L5, M5⟩
          rw [listS_loadT hRise] at L5
          refine ⟨_, _, _, rfl, ?_⟩
          refine (Same_ok (t := ⟨a3, n3, c3⟩) L5.at (((hRows.keep0 M3).keep0 M4).keep0 M5) (by omega)).mono ?_
          rintro e w6 ⟨rfl, M6⟩
          refine ⟨_, rfl, brT (decide_eq_true rfl) ?_⟩
          refine (fixed15_ok w6).mono ?_
          rintro e w7 ⟨rfl, M7⟩
          exact ⟨_, rfl, rfl, ((((M2.go0 M3 (by simp)).go0 M4 (by simp)).go0 M5 (by simp)).go0 M6 (by simp)).go0 M7 (by simp)⟩
  · have hRows : RowsAt w2 ⟨a3, n3, c3⟩ (ll.map (·.x)) := ⟨ll, hR.sl LV.cs_len, fun q hq => (hO q hq).at, rfl⟩
    refine (Load_ok (s := ⟨a3, n3, c3⟩) hRows).mono ?_
    rintro e w3 ⟨v3, rfl, h3⟩
    rcases h3 with ⟨hE, rfl, M3⟩ | ⟨hE, b', m', rfl, hT3, M3, _, _⟩
    · refine ⟨_, _, rfl, ?_⟩
      refine (rLoad_ok (s := ⟨a3, n3, c3⟩) (hRows.keep0 M3)).mono ?_
      rintro e w4 ⟨v4, rfl, h4, M4⟩
      rcases h4 with ⟨_, rfl⟩ | ⟨hE', _⟩
      · refine ⟨_, _, rfl, brF (by simp) (brF rfl (brT rfl ?_))⟩
        refine (fixed15_ok w4).mono ?_
        rintro e w5 ⟨rfl, M5⟩
        exact ⟨_, rfl, rfl, ((M2.go0 M3 (by simp)).go0 M4 (by simp)).go0 M5 (by simp)⟩
      · exact absurd hE' hE
    · refine ⟨_, _, rfl, ?_⟩
      refine (rLoad_ok (s := ⟨a3, n3, c3⟩) (hRows.keep0 M3)).mono ?_
      rintro e w4 ⟨v4, rfl, h4, M4⟩
      rcases h4 with ⟨hE', _⟩ | ⟨_, rb, rfl⟩
      · exact absurd hE hE'
      · refine ⟨_, _, rfl, brF (by simp) (brF rfl (brF rfl ?_))⟩
        have hRise := loads_rise hE
        have hlen := loads_len hE
        refine (List_ok (hT3.keep0 M4) (by simp [loadT]; simp at hlen; omega)).mono ?_
        rintro e w5 ⟨_, rfl, s5, rfl, L5, M5⟩
        rw [listS_loadT hRise] at L5
        refine ⟨_, _, _, rfl, ?_⟩
        refine (Same_ok (t := ⟨a3, n3, c3⟩) L5.at (((hRows.keep0 M3).keep0 M4).keep0 M5) (by omega)).mono ?_
        rintro e w6 ⟨rfl, M6⟩
        refine ⟨_, rfl, brT (decide_eq_true rfl) ?_⟩
        refine (fixed15_ok w6).mono ?_
        rintro e w7 ⟨rfl, M7⟩
        exact ⟨_, rfl, rfl, ((((M2.go0 M3 (by simp)).go0 M4 (by simp)).go0 M5 (by simp)).go0 M6 (by simp)).go0 M7 (by simp)⟩
end Go.Proofs.Ytdgiemnadpkcfaa
