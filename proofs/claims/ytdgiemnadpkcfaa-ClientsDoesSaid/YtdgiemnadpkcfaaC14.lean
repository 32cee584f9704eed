/- ClientsOnce, ClientsApart, ClientsTold, walked. -/
import Derived.Test.YtdgiemnadpkcfaaC12
import Derived.Test.YtdgiemnadpkcfaaGenC6
namespace Go.Proofs.Ytdgiemnadpkcfaa
open Go Go.RowKit Go.Maps Go.MapKept
set_option linter.unusedVariables false
set_option linter.unusedSimpArgs false

def repI (e off n gen : Int) : PRep := ⟨e, off, n, gen, [], []⟩
theorem repI_at (w : World) (e off n gen : Int) : RepAt w (repI e off n gen) sl0 sl0 :=
  ⟨(Row.nil w 0 62 5 encF).sl encF_len, (Row.nil w 0 58 2 encP).sl encP_len, by simp [repI], by simp [repI]⟩
theorem lkp_one {c : Int} {x : PLast} : lkp [(c, x)] c = some x := by simp [lkp]
theorem put_one {c : Int} {x y : PLast} : put [(c, y)] c x = [(c, x)] := by simp [put]
theorem Once_ok {a : Option Addr} {ln cp : Nat} {l : List Int} {client : Int} {w : World} (hS : SlAt w 1 eI a ln l) :
    Calls Try.prog 4 #[.slice a ln cp, .int .i64 client] w fun e w' => e = .returned (.bool true) ∧ Mod [] w w' := by
  refine go_of (law15_ClientsOnce_go ?_)
  have r1 := bAnd_range (x := client) (m := 65535) (by omega) (by omega)
  have hn := hS.1
  refine (New_ok w).mono ?_
  rintro e w1 ⟨_, rfl, b, m, rfl, hT, M1, hb, hm⟩
  refine ⟨_, rfl, brF rfl ?_⟩
  rw [wrap_id (by omega) (by omega)]
  have T1 := Tx.new w w1 hT M1 hm
  obtain ⟨c, hc⟩ : ∃ c, c = 1 + bAnd .i64 client 65535 := ⟨_, rfl⟩
  rw [← hc]
  have hc1 : num1 c = true := num1_of (by omega) (by omega)
  refine law15_ClientsOnce_rule1 (fun mm n x w' => ∃ (i : Nat) (T : Tb), x = i ∧ i ≤ 40 ∧ 0 ≤ n ∧ n ≤ 8 * i ∧ ((n = 0 ∧ T = []) ∨ (1 ≤ n ∧ T = [(c, ⟨c, n, true, repI 0 n 0 0⟩)])) ∧ Tx w b m T w' ∧ mm = 40 - i) 40 ⟨0, [], rfl, by omega, by omega, by omega, .inl ⟨rfl, rfl⟩, T1, rfl⟩ ?_
  rintro mm n x w2 ⟨i, T, rfl, hi, hn0, hn8, hTT, T2, rfl⟩
  have hlT : T.length ≤ 1 := by rcases hTT with ⟨_, rfl⟩ | ⟨_, rfl⟩ <;> simp
  have tail : ∀ {w3 : World} {s : Sl}, Tx w b m T w3 → RowsOwn w3 w2.heap.size s (listS T) → brB (decide ((s.n : Int) ≤ 1))
      (Calls Try.prog 14 #[] w3 fun e w4 => ∃ t : Bool, e = .returned (.bool t) ∧ (Value.bool t = .bool true ∧ Mod [] w w4)) (Value.bool false = .bool true ∧ Mod [] w w3) := fun {w3} {s} T3 hL => by
    have := hL.at.len
    rw [listS_len] at this
    refine brT (decide_eq_true (by omega)) ?_
    refine (fixed15_ok w3).mono ?_
    rintro e w4 ⟨rfl, M4⟩
    exact ⟨_, rfl, rfl, T3.mod.go0 M4 (by simp)⟩
  refine brB_dec (fun hlt => ?_) fun hge => ?_
  · refine brB_dec (fun hlt4 => ?_) fun hge => ?_
    · obtain ⟨y, hy⟩ : ∃ y, l[i]? = some y := ⟨_, List.getElem?_eq_getElem (by omega)⟩
      refine (hS.keep0 T2.mod).ix hy fun q hq => ldInt_of (x := y) (by simpa [add_zero] using hq 0 _ rfl) ?_
      have r2 := bAnd_range (x := y) (m := 7) (by omega) (by omega)
      rw [wrap_id (x := 1 + bAnd .i64 y 7) (by omega) (by omega), wrap_id (x := n + (1 + bAnd .i64 y 7)) (by omega) (by omega)]
      obtain ⟨k, hk⟩ : ∃ k, k = n + (1 + bAnd .i64 y 7) := ⟨_, rfl⟩
      rw [← hk]
      have hk1 : num1 k = true := num1_of (by omega) (by omega)
      have e1 : askS T c k = (0, rep0, 0) := by
        rcases hTT with ⟨_, rfl⟩ | ⟨_, rfl⟩
        · exact askS_none hc1 hk1 rfl
        · exact askS_gt hc1 hk1 lkp_one (by simp only; omega)
      have e2 := begin_put e1 (fun _ => by omega)
      have e3 : put T c ⟨c, k, false, rep0⟩ = [(c, ⟨c, k, false, rep0⟩)] := by
        rcases hTT with ⟨_, rfl⟩ | ⟨_, rfl⟩
        · rfl
        · exact put_one
      rw [e3] at e2
      have e4 : askS [(c, ⟨c, k, false, rep0⟩)] c k = (2, rep0, 0) := askS_still hc1 hk1 lkp_one rfl rfl
      have e5 : doneE [(c, ⟨c, k, false, rep0⟩)] c k = 0 ∧ doneT [(c, ⟨c, k, false, rep0⟩)] c k (repI 0 k 0 0) = [(c, ⟨c, k, true, repI 0 k 0 0⟩)] := by
        have := done_put (r := repI 0 k 0 0) hc1 hk1 (lkp_one (c := c) (x := ⟨c, k, false, rep0⟩)) rfl
        rw [put_one] at this; exact this
      have e6 : askS [(c, ⟨c, k, true, repI 0 k 0 0⟩)] c k = (1, repI 0 k 0 0, 0) := askS_again hc1 hk1 lkp_one rfl rfl
      have e7 := begin_not (T := [(c, ⟨c, k, true, repI 0 k 0 0⟩)]) (c := c) (n := k) (.inr (by rw [e6]; exact (by decide : (1 : Int) ≠ 0)))
      rw [e6] at e7
      obtain ⟨z, hz⟩ : ∃ z, z = (if n > 1 then n else 1) := ⟨_, rfl⟩
      rw [← hz]
      have hz1 : 1 ≤ z ∧ z ≤ k ∧ (1 < k → z < k) := by rw [hz]; split <;> omega
      refine (Ask_ok (c := c) (n := k) T2.tab).mono ?_
      rintro e w3 ⟨_, rfl, f3, p3, rfl, R3, M3⟩
      rw [e1]
      have T3 := T2.m0 M3
      refine ⟨_, _, _, _, _, _, _, _, _, _, _, _, rfl, ?_⟩
      intro b4 f4 w4 A4
      have T4 := T3.m0 A4.mod
      have l3 := T3.lt
      have s4 := A4.mod.size
      refine (Begin_ok (c := c) (n := k) T4.tab T4.mod.size).mono ?_
      rintro e w5 ⟨rfl, hT5, M5⟩
      rw [e2.1]
      rw [e2.2] at hT5
      have T5 := T4.mm hT5 M5
      have s5 := M5.size
      refine ⟨_, rfl, Keep.ofm M5 (by simp; omega), ?_⟩
      refine (Ask_ok (c := c) (n := k) T5.tab).mono ?_
      rintro e w6 ⟨_, rfl, f6, p6, rfl, R6, M6⟩
      rw [e4]
      have T6 := T5.m0 M6
      have s6 := M6.size
      refine ⟨_, _, _, _, _, _, _, _, _, _, _, _, rfl, Keep.of0 M6, ?_⟩
      intro b7 f7 w7 A7
      have T7 := T6.m0 A7.mod
      have s7 := A7.mod.size
      refine (Done_ok (c := c) (n := k) (r := repI 0 k 0 0) (f := sl0) (p := sl0) T7.tab T7.mod.size (num1_i64 hc1) (repI_at ..)).mono ?_
      rintro e w8 ⟨rfl, hT8, M8⟩
      rw [e5.1]
      rw [e5.2] at hT8
      have T8 := T7.mm hT8 M8
      have s8 := M8.size
      refine ⟨_, rfl, Keep.ofm M8 (by simp; omega), ?_⟩
      refine (Ask_ok (c := c) (n := k) T8.tab).mono ?_
      rintro e w9 ⟨_, rfl, f9, p9, rfl, R9, M9⟩
      rw [e6]
      have T9 := T8.m0 M9
      have s9 := M9.size
      refine ⟨_, _, _, _, _, _, _, _, _, _, _, _, rfl, Keep.of0 M9, ?_⟩
      intro b10 f10 w10 A10
      have T10 := T9.m0 A10.mod
      have s10 := A10.mod.size
      refine (Begin_ok (c := c) (n := k) T10.tab T10.mod.size).mono ?_
      rintro e w11 ⟨rfl, hT11, M11⟩
      rw [e7.1]
      rw [e7.2] at hT11
      have T11 := T10.mm hT11 M11
      have s11 := M11.size
      refine ⟨_, rfl, Keep.ofm M11 (by simp; omega), ?_⟩
      refine (Ask_ok (c := c) (n := z) T11.tab).mono ?_
      rintro e w12 ⟨_, rfl, f12, p12, rfl, R12, M12⟩
      have T12 := T11.m0 M12
      refine ⟨_, _, _, _, _, _, _, _, _, _, _, _, rfl, Keep.of0 M12, ?_⟩
      intro b13 f13
      refine brF rfl (brF rfl (brF rfl (brF rfl (brF rfl (brF rfl (brF rfl (brF rfl (brF (by simp [repI]) (brF rfl ?_)))))))))
      have go : ∀ w13, Adv [] [b13] w12 w13 → law15_ClientsOnce_K1 a ln cp (some ⟨b, 0, none⟩) c (fun mm n x w' => ∃ (i : Nat) (T : Tb), x = i ∧ i ≤ 40 ∧ 0 ≤ n ∧ n ≤ 8 * i ∧ ((n = 0 ∧ T = []) ∨ (1 ≤ n ∧ T = [(c, ⟨c, n, true, repI 0 n 0 0⟩)])) ∧ Tx w b m T w' ∧ mm = 40 - i) (40 - i) (law15_ClientsOnce_v1 a ln cp (some ⟨b, 0, none⟩) c k (IntKind.wrap .i64 ((i : Int) + 1))) law15_ClientsOnce_m1 w13 := fun w13 A13 =>
        law15_ClientsOnce_leaf1 (40 - (i + 1)) (by omega) ⟨i + 1, _, by rw [wrap_id (by omega) (by omega)]; omega, by omega, by omega, by omega, .inr ⟨by omega, rfl⟩, T12.m0 A13.mod, rfl⟩
      refine brB_dec (fun g1 => ?_) fun g1 => go
      refine brB_of (fun g2 => ?_) fun g2 => go
      refine brF ?_ go
      rw [askS_lt hc1 (num1_of hz1.1 (by omega)) lkp_one (by simp only; omega)]
      simp
      omega
    · refine (List_ok T2.tab (by omega)).mono ?_
      rintro e w3 ⟨_, rfl, s3, rfl, L3, M3⟩
      exact ⟨_, _, _, rfl, tail (T2.m0 M3) L3⟩
  · refine (List_ok T2.tab (by omega)).mono ?_
    rintro e w3 ⟨_, rfl, s3, rfl, L3, M3⟩
    exact ⟨_, _, _, rfl, tail (T2.m0 M3) L3⟩

/-- A call of a script: which, of whom, a number, a reply. -/
structure Op15 where
  k : Int
  c : Int
  n : Int
  r : PRep
  f : Sl
  p : Sl
def encO (x : Op15) : List Value := [.int .i64 x.k, .int .i64 x.c, .int .i64 x.n, .int .i64 x.r.e, .int .i64 x.r.off, .int .i64 x.r.n, .int .i64 x.r.gen, .slice x.f.a x.f.n x.f.c, .slice x.p.a x.p.n x.p.c]
theorem Apart_ok {a : Option Addr} {ln cp : Nat} {l : List Op15} {client : Int} {w : World} (hS : SlAt w 9 encO a ln l) (hB : ∀ x ∈ l, i64B x.c ∧ i64B x.n) :
    Calls Try.prog 6 #[.slice a ln cp, .int .i64 client] w fun e w' => e = .returned (.bool true) ∧ Mod [] w w' := by
  refine go_of (law15_ClientsApart_go ?_)
  have r1 := bAnd_range (x := client) (m := 3) (by omega) (by omega)
  have hn := hS.1
  refine (New_ok w).mono ?_
  rintro e w1 ⟨_, rfl, b, m, rfl, hT, M1, hb, hm⟩
  refine ⟨_, rfl, brF rfl ?_⟩
  rw [wrap_id (by omega) (by omega)]
  have T1 := Tx.new w w1 hT M1 hm
  obtain ⟨c, hc⟩ : ∃ c, c = 1 + bAnd .i64 client 3 := ⟨_, rfl⟩
  rw [← hc]
  have hc1 : num1 c = true := num1_of (by omega) (by omega)
  have h5 : num1 5 = true := by decide
  have e1 := begin_put (T := []) (askS_none hc1 h5 rfl) (fun _ => by simp)
  refine (Begin_ok (c := c) (n := 5) T1.tab T1.mod.size).mono ?_
  rintro e w2 ⟨rfl, hT2, M2⟩
  rw [e1.2] at hT2
  have T2 := T1.mm hT2 M2
  refine ⟨_, rfl, ?_⟩
  have e2 := done_put (T := put [] c ⟨c, 5, false, rep0⟩) (r := repI 0 7 0 0) hc1 h5 lkp_one rfl
  refine (Done_ok (c := c) (n := 5) (r := repI 0 7 0 0) (f := sl0) (p := sl0) T2.tab T2.mod.size (num1_i64 hc1) (repI_at ..)).mono ?_
  rintro e w3 ⟨rfl, hT3, M3⟩
  rw [e2.2] at hT3
  have T3 := T2.mm hT3 M3
  refine ⟨_, rfl, ?_⟩
  refine law15_ClientsApart_rule1 (fun mm x w' => ∃ (i : Nat) (T : Tb), x = i ∧ i ≤ 60 ∧ lkp T c = some ⟨c, 5, true, repI 0 7 0 0⟩ ∧ Tx w b m T w' ∧ mm = 60 - i) 60 ⟨0, _, rfl, by omega, by rw [lkp_put, if_pos rfl], T3, rfl⟩ ?_
  rintro mm x w2 ⟨i, T, rfl, hi, hl, T2, rfl⟩
  have ea : askS T c 5 = (1, repI 0 7 0 0, 0) := askS_again hc1 h5 hl rfl rfl
  have eb : askS T c 6 = (0, rep0, 0) := askS_gt hc1 (by decide) hl (by show (5 : Int) < 6; decide)
  refine brB_dec (fun hlt => ?_) fun hge => ?_
  · refine brB_dec (fun hlt4 => ?_) fun hge => ?_
    · obtain ⟨y, hy⟩ : ∃ y, l[i]? = some y := ⟨_, List.getElem?_eq_getElem (by omega)⟩
      have hyB := hB y (List.mem_of_getElem? hy)
      refine (hS.keep0 T2.mod).ix hy fun q hq => ldInt_of (x := y.k) (by simpa [add_zero] using hq 0 _ rfl) (ldInt_of (hq 1 _ rfl) (ldInt_of (hq 2 _ rfl) (ldInt_of (hq 3 _ rfl) (ldInt_of (hq 4 _ rfl) (ldInt_of (hq 5 _ rfl) (ldInt_of (hq 6 _ rfl) (ldSlice_of (hq 7 _ rfl) (ldSlice_of (hq 8 _ rfl) ?_))))))))
      intro b3 f3
      have l2 := T2.lt
      refine brB_of (fun g1 => ?_) fun g1 => ?_
      · intro w3 A3
        exact law15_ClientsApart_leaf1 (60 - (i + 1)) (by omega) ⟨i + 1, T, by rw [wrap_id (by omega) (by omega)]; omega, by omega, hl, T2.m0 A3.mod, rfl⟩
      have g1 : ¬ y.c = c := by simpa using g1
      refine brB_of (fun g2 => ?_) fun g2 => ?_
      · intro w3 A3
        have T3 := T2.m0 A3.mod
        refine (Done_ok (c := y.c) (n := y.n) (r := repI 0 0 1 0) (f := sl0) (p := sl0) T3.tab T3.mod.size hyB.1 (repI_at ..)).mono ?_
        rintro e w4 ⟨rfl, hT4, M4⟩
        have T4 := T3.mm hT4 M4
        refine ⟨_, rfl, Keep.ofm M4 (by simp; omega), ?_⟩
        refine law15_ClientsApart_leaf1 (60 - (i + 1)) (by omega) ⟨i + 1, _, by rw [wrap_id (by omega) (by omega)]; omega, by omega, ?_, T4, rfl⟩
        rcases done_cases T y.c y.n (repI 0 0 1 0) with e | ⟨e, _⟩
        · rw [e]; exact hl
        · rw [e, lkp_put, if_neg g1]; exact hl
      · intro w3 A3
        have T3 := T2.m0 A3.mod
        refine (Begin_ok (c := y.c) (n := y.n) T3.tab T3.mod.size).mono ?_
        rintro e w4 ⟨rfl, hT4, M4⟩
        have T4 := T3.mm hT4 M4
        refine ⟨_, rfl, Keep.ofm M4 (by simp; omega), ?_⟩
        refine law15_ClientsApart_leaf1 (60 - (i + 1)) (by omega) ⟨i + 1, _, by rw [wrap_id (by omega) (by omega)]; omega, by omega, ?_, T4, rfl⟩
        rcases begin_cases T y.c y.n with e | ⟨e, _⟩
        · rw [e]; exact hl
        · rw [e, lkp_put, if_neg g1]; exact hl
    · refine (Ask_ok (c := c) (n := 5) T2.tab).mono ?_
      rintro e w3 ⟨_, rfl, f3, p3, rfl, R3, M3⟩
      rw [ea] at R3
      rw [ea]
      have T3 := T2.m0 M3
      have s3 := M3.size
      refine ⟨_, _, _, _, _, _, _, _, _, _, _, _, rfl, ?_⟩
      intro b4 f4 w4 A4
      have T4 := T3.m0 A4.mod
      refine (Ask_ok (c := c) (n := 6) T4.tab).mono ?_
      rintro e w5 ⟨_, rfl, f5, p5, rfl, R5, M5⟩
      rw [eb]
      have T5 := T4.m0 M5
      refine ⟨_, _, _, _, _, _, _, _, _, _, _, _, rfl, Keep.of0 M5, ?_⟩
      intro b6 f6
      refine brT rfl (brT rfl ?_)
      intro w6 A6
      have T6 := T5.m0 A6.mod
      have h3 : RepAt w6 (repI 0 7 0 0) f3 p3 := ((R3.at.keep0 A4.mod).keep0 M5).keep0 A6.mod
      refine (RAlike_ok h3 (repI_at w6 0 7 0 0)).mono ?_
      rintro e w7 ⟨rfl, M7⟩
      have T7 := T6.m0 M7
      refine ⟨_, rfl, Keep.of0 M7, ?_⟩
      refine brT (decide_eq_true rfl) (brT rfl (brT rfl ?_))
      refine (fixed15_ok w7).mono ?_
      rintro e w8 ⟨rfl, M8⟩
      exact ⟨_, rfl, Keep.of0 M8, rfl, T7.mod.go0 M8 (by simp)⟩
  · refine (Ask_ok (c := c) (n := 5) T2.tab).mono ?_
    rintro e w3 ⟨_, rfl, f3, p3, rfl, R3, M3⟩
    rw [ea] at R3
    rw [ea]
    have T3 := T2.m0 M3
    have s3 := M3.size
    refine ⟨_, _, _, _, _, _, _, _, _, _, _, _, rfl, ?_⟩
    intro b4 f4 w4 A4
    have T4 := T3.m0 A4.mod
    refine (Ask_ok (c := c) (n := 6) T4.tab).mono ?_
    rintro e w5 ⟨_, rfl, f5, p5, rfl, R5, M5⟩
    rw [eb]
    have T5 := T4.m0 M5
    refine ⟨_, _, _, _, _, _, _, _, _, _, _, _, rfl, Keep.of0 M5, ?_⟩
    intro b6 f6
    refine brT rfl (brT rfl ?_)
    intro w6 A6
    have T6 := T5.m0 A6.mod
    have h3 : RepAt w6 (repI 0 7 0 0) f3 p3 := ((R3.at.keep0 A4.mod).keep0 M5).keep0 A6.mod
    refine (RAlike_ok h3 (repI_at w6 0 7 0 0)).mono ?_
    rintro e w7 ⟨rfl, M7⟩
    have T7 := T6.m0 M7
    refine ⟨_, rfl, Keep.of0 M7, ?_⟩
    refine brT (decide_eq_true rfl) (brT rfl (brT rfl ?_))
    refine (fixed15_ok w7).mono ?_
    rintro e w8 ⟨rfl, M8⟩
    exact ⟨_, rfl, Keep.of0 M8, rfl, T7.mod.go0 M8 (by simp)⟩

structure GoodT (T : Tb) : Prop where
  own : Own T
  len : T.length ≤ 16
  ok : ∀ q ∈ T, num1 q.2.c = true ∧ num1 q.2.n = true ∧ repE q.2.r = 0 ∧ (q.2.done || decide (q.2.r = rep0)) = true
theorem GoodT.begin {T : Tb} (h : GoodT T) (c n : Int) : GoodT (beginT T c n) := by
  rcases begin_cases T c n with e | ⟨e, h1, h2, h3⟩
  · rw [e]; exact h
  · rw [e]
    refine ⟨Own.put (x := ⟨c, n, false, rep0⟩) h.own, ?_, fun q hq => ?_⟩
    · rw [put_len]
      split
      · rename_i hl; have := h3 hl; omega
      · exact h.len
    · rcases mem_put hq with rfl | hq
      · exact ⟨h1, h2, rep0_E, by simp⟩
      · exact h.ok q hq
theorem GoodT.done {T : Tb} (h : GoodT T) (c n : Int) {r : PRep} (hr : repE r = 0) : GoodT (doneT T c n r) := by
  rcases done_cases T c n r with e | ⟨e, h1, h2, h3⟩
  · rw [e]; exact h
  · rw [e]
    refine ⟨Own.put (x := ⟨c, n, true, r⟩) h.own, ?_, fun q hq => ?_⟩
    · rw [put_len, if_neg h3]; exact h.len
    · rcases mem_put hq with rfl | hq
      · exact ⟨h1, h2, hr, by simp⟩
      · exact h.ok q hq
theorem Rise.at {R : List PLast} (h : Rise R) {i j : Nat} {x y : PLast} (hx : R[i]? = some x) (hy : R[j]? = some y) (hij : i < j) : x.c < y.c := by
  obtain ⟨h1, rfl⟩ := List.getElem?_eq_some_iff.1 hx
  obtain ⟨h2, rfl⟩ := List.getElem?_eq_some_iff.1 hy
  exact (List.pairwise_iff_getElem.1 h) i j h1 h2 hij
theorem GoodT.loads {T : Tb} (h : GoodT T) : loadE (listS T) = 0 := by
  have hl := h.len
  have hr := listS_rise h.own
  have h0 : okRows none (listS T) = true := okRows_at.2 fun k x hx => by
    have hm := (listS_mem h.own).1 (List.mem_of_getElem? hx)
    obtain ⟨h1, h2, h3, h4⟩ := h.ok _ (mem_of_lkp hm)
    simp only at h1 h2 h3 h4
    by_cases hk : k = 0
    · rw [if_pos hk]
      simp only [okRow, h1, h2, h3, h4]
      decide
    · rw [if_neg hk]
      have hk' : k - 1 < (listS T).length := by have := (List.getElem?_eq_some_iff.1 hx).1; omega
      have hy := List.getElem?_eq_getElem hk'
      have := hr.at hy hx (by omega)
      rw [hy]
      simp only [okRow, h1, h2, h3, h4, decide_eq_true this]
      decide
  rw [loadE, if_neg (by rw [listS_len]; omega), h0]; rfl

theorem Told_ok {a : Option Addr} {ln cp : Nat} {l : List Op15} {w : World} (hS : SlAt w 9 encO a ln l) (hB : ∀ x ∈ l, i64B x.c ∧ i64B x.n) :
    Calls Try.prog 7 #[.slice a ln cp] w fun e w' => e = .returned (.bool true) ∧ Mod [] w w' := by
  refine go_of (law15_ClientsTold_go ?_)
  have hn := hS.1
  refine (New_ok w).mono ?_
  rintro e w1 ⟨_, rfl, b, m, rfl, hT, M1, hb, hm⟩
  refine ⟨_, rfl, brF rfl ?_⟩
  have T1 := Tx.new w w1 hT M1 hm
  refine law15_ClientsTold_rule1 (fun mm x w' => ∃ (i : Nat) (T : Tb), x = i ∧ i ≤ 60 ∧ GoodT T ∧ Tx w b m T w' ∧ mm = 60 - i) 60 ⟨0, _, rfl, by omega, ⟨own_nil, by simp, by simp⟩, T1, rfl⟩ ?_
  rintro mm x w2 ⟨i, T, rfl, hi, hG, T2, rfl⟩
  have tail : ∀ {w3 : World} {s : Sl} {T : Tb} {base : Nat}, Tx w b m T w3 → GoodT T → RowsOwn w3 base s (listS T) →
      loopD3 law15_ClientsTold_la2 (dnF Try.prog law15_ClientsTold_an (code Try.f7) 393 [0, 0, 1, 0, 1, 1, 1, 1, 1]) (kont3 Try.prog law15_ClientsTold_an (code Try.f7) [1, 1, 1, 1, 1, 0, 1, 0] [] (post3 Try.prog Try.f7 [] fun v w' => v = .bool true ∧ Mod [] w w')) (law15_ClientsTold_v2 s.a s.n s.c 1) (law15_ClientsTold_m2) w3 := fun {w3} {s} {T} {base} T3 hG hL => by
    have hR := listS_rise hG.own
    have hlen := hG.len
    have hL := hL.at
    have hsn := hL.len
    rw [listS_len] at hsn
    refine law15_ClientsTold_rule2 (fun mm x w' => ∃ (i : Nat), x = i ∧ 1 ≤ i ∧ i ≤ 17 ∧ Mod [] w3 w' ∧ mm = 17 - i) 16 ⟨1, rfl, by omega, by omega, Mod.refl _, rfl⟩ ?_
    rintro mm x w4 ⟨i, rfl, hi1, hi, M4, rfl⟩
    refine brB_dec (fun hlt => ?_) fun hge => ?_
    · have hi2 : i < (listS T).length := by rw [listS_len]; omega
      have hi3 : i - 1 < (listS T).length := by omega
      have hx := List.getElem?_eq_getElem hi2
      have hy := List.getElem?_eq_getElem hi3
      refine (hL.keep0 M4).ix hx fun f p q hq _ => ldInt_of (x := ((listS T)[i]).c) (by simpa [add_zero] using hq 0 _ rfl) ?_
      rw [show IntKind.wrap .i64 ((i : Int) - 1) = ((i - 1 : Nat) : Int) by rw [wrap_id (by omega) (by omega)]; omega]
      refine (hL.keep0 M4).ix hy fun f p q hq _ => ldInt_of (x := ((listS T)[i - 1]).c) (by simpa [add_zero] using hq 0 _ rfl) ?_
      have := hR.at hy hx (by omega)
      refine brF (decide_eq_false (by omega)) ?_
      intro w5 A5
      exact law15_ClientsTold_leaf2 (17 - (i + 1)) (by omega) ⟨i + 1, by rw [wrap_id (by omega) (by omega)]; omega, by omega, by omega, M4.go0 A5.mod (by simp), rfl⟩
    · have T4 := T3.m0 M4
      have hL4 := hL.keep0 M4
      refine (Load_ok hL4).mono ?_
      rintro e w5 ⟨v5, rfl, h5⟩
      have q5 : ∃ b' m', v5 = Value.tuple #[.pointer (some ⟨b', 0, none⟩), .int .i64 0] ∧ TabAt w5 w4.heap.size b' m' (loadT (listS T)) ∧ Mod [] w4 w5 := by
        rcases h5 with ⟨h, _⟩ | ⟨_, b', m', e, hT', hM, _⟩
        · exact absurd hG.loads h
        · exact ⟨b', m', e, hT', hM⟩
      obtain ⟨b', m', rfl, hT5, M5⟩ := q5
      refine ⟨_, _, rfl, brT rfl (brT rfl ?_)⟩
      refine (List_ok hT5 (by simp [loadT, listS_len]; omega)).mono ?_
      rintro e w6 ⟨_, rfl, s6, rfl, L6, M6⟩
      rw [listS_loadT hR] at L6
      refine ⟨_, _, _, rfl, ?_⟩
      refine (Same_ok L6.at ((hL4.keep0 M5).keep0 M6) (by rw [listS_len]; omega)).mono ?_
      rintro e w7 ⟨rfl, M7⟩
      refine ⟨_, rfl, brT (decide_eq_true rfl) (brT (decide_eq_true (by omega)) ?_)⟩
      refine (fixed15_ok w7).mono ?_
      rintro e w8 ⟨rfl, M8⟩
      exact ⟨_, rfl, rfl, (((T4.mod.go0 M5 (by simp)).go0 M6 (by simp)).go0 M7 (by simp)).go0 M8 (by simp)⟩
  refine brB_dec (fun hlt => ?_) fun hge => ?_
  · refine brB_dec (fun hlt4 => ?_) fun hge => ?_
    · obtain ⟨y, hy⟩ : ∃ y, l[i]? = some y := ⟨_, List.getElem?_eq_getElem (by omega)⟩
      have hyB := hB y (List.mem_of_getElem? hy)
      refine (hS.keep0 T2.mod).ix hy fun q hq => ldInt_of (x := y.k) (by simpa [add_zero] using hq 0 _ rfl) (ldInt_of (hq 1 _ rfl) (ldInt_of (hq 2 _ rfl) (ldInt_of (hq 3 _ rfl) (ldInt_of (hq 4 _ rfl) (ldInt_of (hq 5 _ rfl) (ldInt_of (hq 6 _ rfl) (ldSlice_of (hq 7 _ rfl) (ldSlice_of (hq 8 _ rfl) ?_))))))))
      intro b3 f3
      have l2 := T2.lt
      refine brB_of (fun g2 => ?_) fun g2 => ?_
      · intro w3 A3
        have T3 := T2.m0 A3.mod
        have hG4 := hG.done y.c y.n (r := repI 0 3 0 0) (by decide)
        refine (Done_ok (c := y.c) (n := y.n) (r := repI 0 3 0 0) (f := sl0) (p := sl0) T3.tab T3.mod.size hyB.1 (repI_at ..)).mono ?_
        rintro e w4 ⟨rfl, hT3, M3⟩
        have T4 := T3.mm hT3 M3
        have hl4 := hG4.len
        have s3 := M3.size
        have e1 : ∀ {u v : World} {bl : List Nat}, Mod [] u v → Keep bl u v := fun M => Keep.of0 M
        refine ⟨_, rfl, Keep.ofm M3 (by simp; omega), ?_⟩
        refine (List_ok T4.tab (by omega)).mono ?_
        rintro e w5 ⟨_, rfl, s5, rfl, L5, M5⟩
        have T5 := T4.m0 M5
        refine ⟨_, _, _, rfl, Keep.of0 M5, ?_⟩
        refine (Ask_ok (c := y.c) (n := y.n) T5.tab).mono ?_
        rintro e w6 ⟨_, rfl, f6, p6, rfl, _, M6⟩
        have T6 := T5.m0 M6
        refine ⟨_, _, _, _, _, _, _, _, _, _, _, _, rfl, Keep.of0 M6, ?_⟩
        refine (List_ok T6.tab (by omega)).mono ?_
        rintro e w8 ⟨_, rfl, s8, rfl, L8, M8⟩
        have T8 := T6.m0 M8
        refine ⟨_, _, _, rfl, Keep.of0 M8, ?_⟩
        refine (Same_ok L8.at (((L5.at).keep0 M6).keep0 M8) (by rw [listS_len]; omega)).mono ?_
        rintro e w9 ⟨rfl, M9⟩
        refine ⟨_, rfl, Keep.of0 M9, brF (by simp) ?_⟩
        exact law15_ClientsTold_leaf1 (60 - (i + 1)) (by omega) ⟨i + 1, _, by rw [wrap_id (by omega) (by omega)]; omega, by omega, hG4, T8.m0 M9, rfl⟩
      · intro w3 A3
        have T3 := T2.m0 A3.mod
        have hG4 := hG.begin y.c y.n
        refine (Begin_ok (c := y.c) (n := y.n) T3.tab T3.mod.size).mono ?_
        rintro e w4 ⟨rfl, hT3, M3⟩
        have T4 := T3.mm hT3 M3
        have hl4 := hG4.len
        have s3 := M3.size
        have e1 : ∀ {u v : World} {bl : List Nat}, Mod [] u v → Keep bl u v := fun M => Keep.of0 M
        refine ⟨_, rfl, Keep.ofm M3 (by simp; omega), ?_⟩
        refine (List_ok T4.tab (by omega)).mono ?_
        rintro e w5 ⟨_, rfl, s5, rfl, L5, M5⟩
        have T5 := T4.m0 M5
        refine ⟨_, _, _, rfl, Keep.of0 M5, ?_⟩
        refine (Ask_ok (c := y.c) (n := y.n) T5.tab).mono ?_
        rintro e w6 ⟨_, rfl, f6, p6, rfl, _, M6⟩
        have T6 := T5.m0 M6
        refine ⟨_, _, _, _, _, _, _, _, _, _, _, _, rfl, Keep.of0 M6, ?_⟩
        refine (List_ok T6.tab (by omega)).mono ?_
        rintro e w8 ⟨_, rfl, s8, rfl, L8, M8⟩
        have T8 := T6.m0 M8
        refine ⟨_, _, _, rfl, Keep.of0 M8, ?_⟩
        refine (Same_ok L8.at (((L5.at).keep0 M6).keep0 M8) (by rw [listS_len]; omega)).mono ?_
        rintro e w9 ⟨rfl, M9⟩
        refine ⟨_, rfl, Keep.of0 M9, brF (by simp) ?_⟩
        exact law15_ClientsTold_leaf1 (60 - (i + 1)) (by omega) ⟨i + 1, _, by rw [wrap_id (by omega) (by omega)]; omega, by omega, hG4, T8.m0 M9, rfl⟩
    · refine (List_ok T2.tab (by have := hG.len; omega)).mono ?_
      rintro e w3 ⟨_, rfl, s3, rfl, L3, M3⟩
      refine ⟨_, _, _, rfl, ?_⟩
      exact tail (T2.m0 M3) hG L3
  · refine (List_ok T2.tab (by have := hG.len; omega)).mono ?_
    rintro e w3 ⟨_, rfl, s3, rfl, L3, M3⟩
    refine ⟨_, _, _, rfl, ?_⟩
    exact tail (T2.m0 M3) hG L3
end Go.Proofs.Ytdgiemnadpkcfaa
