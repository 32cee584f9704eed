/- The table of clients: Load. -/
import Derived.Test.YtdgiemnadpkcfaaC9
namespace Go.Proofs.Ytdgiemnadpkcfaa
open Go Go.RowKit Go.Maps Go.MapKept
set_option linter.unusedVariables false
set_option linter.unusedSimpArgs false

theorem rep0_E : repE rep0 = 0 := by decide
theorem load_tail {w w4 wX : World} {b m b17 : Nat} {T : Tb} {q : LV} {G : World → Prop} (hT : TabAt w4 w.heap.size b m T) (M4 : Mod [] w w4) (MX : Mod [] w4 wX) (hq : RepAt wX q.x.r q.f q.p) (hc : i64B q.x.c) (hb17 : w4.heap.size ≤ b17) (hlt : b17 < wX.heap.size) (hm : w.heap.size ≤ m)
    (hG : ∀ w', TabAt w' w.heap.size b m (put T q.x.c q.x) → Mod [] w w' → wX.heap.size ≤ w'.heap.size → G w') :
    Calls Try.prog 27 #[.agg #[.int .i64 q.x.r.e, .int .i64 q.x.r.off, .int .i64 q.x.r.n, .int .i64 q.x.r.gen, .slice q.f.a q.f.n q.f.c, .slice q.p.a q.p.n q.p.c]] wX fun e w31 => ∃ x32 : Int, ∃ x33 : Int, ∃ x34 : Int, ∃ x35 : Int, ∃ (a36 : Option Addr) (n37 c38 : Nat), ∃ (a39 : Option Addr) (n40 c41 : Nat), e = .returned (.agg #[.int .i64 x32, .int .i64 x33, .int .i64 x34, .int .i64 x35, .slice a36 n37 c38, .slice a39 n40 c41]) ∧ Keep [b17] wX w31 ∧
      ckPtr (some ⟨b, 0, none⟩) fun q42 =>
      ∀ w43, Adv [b17] [] w31 w43 →
      ldMap w43 q42 fun m44 =>
      effU Try.prog (Instr.mapUpdate 66 (.map m44) (.int .i64 q.x.c) (.agg #[.int .i64 q.x.c, .int .i64 q.x.n, .bool q.x.done, .int .i64 x32, .int .i64 x33, .int .i64 x34, .int .i64 x35, .slice a36 n37 c38, .slice a39 n40 c41])) w43 fun w45 => Keep [b17] w43 w45 ∧
      G w45 := by
  obtain ⟨L, hL, rfl⟩ := hT
  refine (own_ok hq).mono ?_
  rintro e w1 ⟨_, rfl, f', p', rfl, hR, M1⟩
  refine ⟨_, _, _, _, _, _, _, _, _, _, rfl, Keep.of0 M1, ?_⟩
  intro w2 A2
  have s0 := M4.size
  have sX := MX.size
  have s1 := M1.size
  have s2 := A2.mod.size
  have N42 : Mod [] w4 w2 := (MX.go0 M1 (by simp)).go0 A2.mod (by simp; omega)
  have h2 := hL.keep0 N42
  refine ldMap_at h2.cells rfl ?_
  have hR2 : RepOwn w2 w.heap.size q.x.r f' p' := by
    refine ⟨(hR.found.keep A2.mod fun ad ha hk => ?_).rebase (by omega), (hR.parts.keep A2.mod fun ad ha hk => ?_).rebase (by omega), hR.lf, hR.lp⟩
    · have := hR.found.base ad ha; simp at hk; omega
    · have := hR.parts.base ad ha; simp at hk; omega
  obtain ⟨w3, hrun, hT', hM⟩ := h2.update (q := ⟨q.x, f', p'⟩) hR2 hc
  have N2 : Mod [] w w2 := M4.go0 N42 (by simp)
  have hml := hL.map.lt
  refine ⟨w3, hrun, Keep.of hM fun k hk _ hkm => ?_, hG w3 ⟨_, hT', absT_put L q.x.c ⟨q.x, f', p'⟩⟩ (N2.go0 hM (by simp; omega)) (by have := hM.size; omega)⟩
  simp at hk hkm; omega

theorem loadT_take {xs : List PLast} {k : Nat} {x : PLast} (hx : xs[k]? = some x) (hrise : ∀ j y, j < k → xs[j]? = some y → y.c < x.c) : loadT (xs.take (k + 1)) = put (loadT (xs.take k)) x.c x := by
  rw [put_new]
  · rw [List.take_add_one, hx]; simp [loadT]
  · intro q hq
    simp only [loadT, List.mem_map] at hq
    obtain ⟨y, hy, rfl⟩ := hq
    obtain ⟨j, hj⟩ := List.getElem?_of_mem hy
    rw [List.getElem?_take] at hj
    split at hj
    · have := hrise j y (by assumption) hj
      simp only; omega
    · cases hj
def okAt (xs : List PLast) (k : Nat) : Prop := ∀ x, xs[k]? = some x → okRow (if k = 0 then none else xs[k - 1]?) x = true
theorem okAt_rise {xs : List PLast} : ∀ {k : Nat} {x : PLast}, xs[k]? = some x → (∀ j, j ≤ k → okAt xs j) → ∀ j y, j < k → xs[j]? = some y → y.c < x.c
  | 0, _, _, _, j, y, h, _ => by omega
  | k + 1, x, hx, hok, j, y, hj, hy => by
    have hk : k < xs.length := by have := (List.getElem?_eq_some_iff.1 hx).1; omega
    have hz : xs[k]? = some xs[k] := List.getElem?_eq_getElem hk
    have h1 := hok (k + 1) (Nat.le_refl _) x hx
    rw [if_neg (by omega), Nat.add_sub_cancel, hz] at h1
    have h2 : (xs[k]).c < x.c := by simp [okRow] at h1; exact h1.1.1.2
    rcases Nat.lt_or_ge j k with h3 | h3
    · have := okAt_rise hz (fun i hi => hok i (by omega)) j y h3 hy; omega
    · have : j = k := by omega
      subst this
      rw [hz] at hy; cases hy; exact h2
abbrev PostL (w : World) (xs : List PLast) : Value → World → Prop := fun v w' =>
  (loadE xs ≠ 0 ∧ v = .tuple #[.pointer none, .int .i64 (loadE xs)] ∧ Mod [] w w') ∨
  (loadE xs = 0 ∧ ∃ b m, v = .tuple #[.pointer (some ⟨b, 0, none⟩), .int .i64 0] ∧ TabAt w' w.heap.size b m (loadT xs) ∧ Mod [] w w' ∧ w.heap.size ≤ b ∧ w.heap.size ≤ m)
theorem Load_ok {w : World} {s : Sl} {xs : List PLast} (h : RowsAt w s xs) :
    Calls Try.prog 10 #[s.v] w fun e w' => ∃ v, e = .returned v ∧ PostL w xs v w' := by
  obtain ⟨ll, hS, hR, rfl⟩ := h
  have hn := hS.1
  refine clients_Load_go ?_
  refine brB_dec (fun g => ?_) fun g => ?_
  · exact .inl ⟨by rw [loadE, if_pos (by simp; omega)]; decide, by rw [loadE, if_pos (by simp; omega)], Mod.refl _⟩
  refine (New_ok w).mono ?_
  rintro e w1 ⟨_, rfl, b, m, rfl, hT1, M1, fb, fm⟩
  refine ⟨_, rfl, ?_⟩
  have bad : ∀ {k : Nat} {x : PLast} {w' : World}, (ll.map (·.x))[k]? = some x → okRow (if k = 0 then none else (ll.map (·.x))[k - 1]?) x = false → Mod [] w w' → PostL w (ll.map (·.x)) (.tuple #[.pointer none, .int .i64 1]) w' := fun {k} {x} {w'} hx ho M => by
    have h0 : okRows none (ll.map (·.x)) = false := by
      rw [Bool.eq_false_iff]
      intro e
      have := okRows_at.1 e k x hx
      rw [ho] at this; cases this
    have h1 : loadE (ll.map (·.x)) = 1 := by rw [loadE, if_neg (by simp; omega), h0]; rfl
    exact .inl ⟨by rw [h1]; decide, by rw [h1], M⟩
  refine clients_Load_rule1 (fun mm x w' => ∃ k : Nat, x = k ∧ k ≤ ll.length ∧ TabAt w' w.heap.size b m (loadT ((ll.map (·.x)).take k)) ∧ (∀ j, j < k → okAt (ll.map (·.x)) j) ∧ Mod [] w w' ∧ mm = ll.length - k) ll.length
    ⟨0, rfl, by omega, ⟨[], hT1, rfl⟩, by simp, M1, rfl⟩ ?_
  rintro mm x w4 ⟨k, rfl, hk, hT, hok, M4, rfl⟩
  refine brB_dec (fun hlt => ?_) fun hge => ?_
  · have g1 : k < ll.length := by omega
    obtain ⟨q, hq⟩ : ∃ q, ll[k]? = some q := ⟨_, List.getElem?_eq_getElem g1⟩
    have hx : (ll.map (·.x))[k]? = some q.x := by rw [List.getElem?_map, hq]; rfl
    refine (hS.keep0 M4).ix hq fun a ha => ldInt_of (x := q.x.c) (by simpa [add_zero] using ha 0 _ rfl) (ldInt_of (ha 1 _ rfl) (ldBool_of (ha 2 _ rfl) (ldInt_of (ha 3 _ rfl) (ldInt_of (ha 4 _ rfl) (ldInt_of (ha 5 _ rfl) (ldInt_of (ha 6 _ rfl) (ldSlice_of (ha 7 _ rfl) (ldSlice_of (ha 8 _ rfl) ?_))))))))
    intro b17 f17 w5 A5
    have l5 := A5.lt b17 (by simp)
    have hrep := hR q (List.mem_of_getElem? hq)
    have N5 := M4.go0 A5.mod (by simp)
    refine (Reply_ok (hrep.keep0 N5)).mono ?_
    rintro e w6 ⟨rfl, M6⟩
    refine ⟨_, _, rfl, Keep.of0 M6, ?_⟩
    have K6 := A5.mod.go0 M6 (by simp)
    have s6 := M6.size
    have hok' : okRow (if k = 0 then none else (ll.map (·.x))[k - 1]?) q.x = true → ∀ j, j ≤ k → okAt (ll.map (·.x)) j := fun ho j hj => by
      rcases Nat.lt_or_ge j k with h3 | h3
      · exact hok j h3
      · have : j = k := by omega
        subst this
        intro x hx'
        rw [hx] at hx'; cases hx'; exact ho
    have hprev : ¬ k = 0 → ∃ y, (ll.map (·.x))[k - 1]? = some y.x ∧ ll[k - 1]? = some y := fun h0 => by
      have h1 : k - 1 < ll.length := by omega
      exact ⟨ll[k - 1], by rw [List.getElem?_map, List.getElem?_eq_getElem h1]; rfl, List.getElem?_eq_getElem h1⟩
    have ek : ¬ k = 0 → IntKind.wrap .i64 ((k : Int) - 1) = ((k - 1 : Nat) : Int) := fun h0 => by rw [wrap_id (by omega) (by omega)]; omega
    refine brB_of (fun g2 => ?_) fun g2 => ?_
    · have hd : q.x.done = false := notT g2
      refine (Alike_ok (hrep.keep0 (M4.go0 K6 (by simp))) (rep0_at w6)).mono ?_
      rintro e w7 ⟨rfl, M7⟩
      refine ⟨_, rfl, Keep.of0 M7, ?_⟩
      intro w8 A8
      have s7 := M7.size
      have K8 : Mod [] w4 w8 := (K6.go0 M7 (by simp)).go0 A8.mod (by simp)
      have s8 := A8.mod.size
      refine (number15_ok q.x.c w8).mono ?_
      rintro e w9 ⟨rfl, rfl⟩
      refine ⟨_, rfl, Keep.of0 (Mod.refl _), brB_of (fun g3 => ?_) fun g3 => ?_⟩
      · exact bad hx (by simp [okRow, notT g3]) (M4.go0 K8 (by simp))
      have g3 := notF g3
      refine (number15_ok q.x.n w9).mono ?_
      rintro e w10 ⟨rfl, rfl⟩
      refine ⟨_, rfl, Keep.of0 (Mod.refl _), brB_of (fun g4 => ?_) fun g4 => ?_⟩
      · exact bad hx (by simp [okRow, notT g4]) (M4.go0 K8 (by simp))
      have g4 := notF g4
      refine brB_dec (fun g5 => ?_) fun g5 => ?_
      · have h0 : ¬ k = 0 := by omega
        obtain ⟨y, hxy, hy⟩ := hprev h0
        rw [ek h0]
        refine (hS.keep0 (M4.go0 K8 (by simp))).ix hy fun a ha => ldInt_of (x := y.x.c) (by simpa [add_zero] using ha 0 _ rfl) ?_
        refine brB_dec (fun g6 => ?_) fun g6 => ?_
        · exact bad hx (by rw [if_neg h0, hxy]; simp [okRow]; omega) (M4.go0 K8 (by simp))
        refine brB_of (fun g7 => ?_) fun g7 => ?_
        · exact bad hx (by rw [if_neg h0, hxy]; simp at g7; simp [okRow, g7]) (M4.go0 K8 (by simp))
        refine brB_of (fun g8 => ?_) fun g8 => ?_
        · exact bad hx (by rw [if_neg h0, hxy]; simp at g8; simp [okRow, g8, hd]) (M4.go0 K8 (by simp))
        have ho : okRow (if k = 0 then none else (ll.map (·.x))[k - 1]?) q.x = true := by
          rw [if_neg h0, hxy]; simp at g7 g8; simp [okRow, g3, g4, g7, g8, rep0_E]; omega
        exact load_tail hT M4 K8 (hrep.keep0 (M4.go0 K8 (by simp))) (num1_i64 g3) f17 (by omega) fm fun w' hT' M' _ => clients_Load_leaf1 (ll.length - (k + 1)) (by omega) ⟨k + 1, by rw [wrap_id (by omega) (by omega)]; omega, by omega, by rw [loadT_take hx (okAt_rise hx (hok' ho))]; exact hT', fun j hj => hok' ho j (by omega), M', rfl⟩
      · have h0 : k = 0 := by omega
        refine brB_of (fun g7 => ?_) fun g7 => ?_
        · exact bad hx (by rw [if_pos h0]; simp at g7; simp [okRow, g7]) (M4.go0 K8 (by simp))
        refine brB_of (fun g8 => ?_) fun g8 => ?_
        · exact bad hx (by rw [if_pos h0]; simp at g8; simp [okRow, g8, hd]) (M4.go0 K8 (by simp))
        have ho : okRow (if k = 0 then none else (ll.map (·.x))[k - 1]?) q.x = true := by
          rw [if_pos h0]; simp at g7 g8; simp [okRow, g3, g4, g7, g8, rep0_E]
        exact load_tail hT M4 K8 (hrep.keep0 (M4.go0 K8 (by simp))) (num1_i64 g3) f17 (by omega) fm fun w' hT' M' _ => clients_Load_leaf1 (ll.length - (k + 1)) (by omega) ⟨k + 1, by rw [wrap_id (by omega) (by omega)]; omega, by omega, by rw [loadT_take hx (okAt_rise hx (hok' ho))]; exact hT', fun j hj => hok' ho j (by omega), M', rfl⟩
    · have hd : q.x.done = true := notF g2
      intro w8 A8
      have K8 : Mod [] w4 w8 := K6.go0 A8.mod (by simp)
      have s8 := A8.mod.size
      refine (number15_ok q.x.c w8).mono ?_
      rintro e w9 ⟨rfl, rfl⟩
      refine ⟨_, rfl, Keep.of0 (Mod.refl _), brB_of (fun g3 => ?_) fun g3 => ?_⟩
      · exact bad hx (by simp [okRow, notT g3]) (M4.go0 K8 (by simp))
      have g3 := notF g3
      refine (number15_ok q.x.n w9).mono ?_
      rintro e w10 ⟨rfl, rfl⟩
      refine ⟨_, rfl, Keep.of0 (Mod.refl _), brB_of (fun g4 => ?_) fun g4 => ?_⟩
      · exact bad hx (by simp [okRow, notT g4]) (M4.go0 K8 (by simp))
      have g4 := notF g4
      refine brB_dec (fun g5 => ?_) fun g5 => ?_
      · have h0 : ¬ k = 0 := by omega
        obtain ⟨y, hxy, hy⟩ := hprev h0
        rw [ek h0]
        refine (hS.keep0 (M4.go0 K8 (by simp))).ix hy fun a ha => ldInt_of (x := y.x.c) (by simpa [add_zero] using ha 0 _ rfl) ?_
        refine brB_dec (fun g6 => ?_) fun g6 => ?_
        · exact bad hx (by rw [if_neg h0, hxy]; simp [okRow]; omega) (M4.go0 K8 (by simp))
        refine brB_of (fun g7 => ?_) fun g7 => ?_
        · exact bad hx (by rw [if_neg h0, hxy]; simp at g7; simp [okRow, g7]) (M4.go0 K8 (by simp))
        have ho : okRow (if k = 0 then none else (ll.map (·.x))[k - 1]?) q.x = true := by
          rw [if_neg h0, hxy]; simp at g7; simp [okRow, g3, g4, g7, hd]; omega
        exact load_tail hT M4 K8 (hrep.keep0 (M4.go0 K8 (by simp))) (num1_i64 g3) f17 (by omega) fm fun w' hT' M' _ => clients_Load_leaf1 (ll.length - (k + 1)) (by omega) ⟨k + 1, by rw [wrap_id (by omega) (by omega)]; omega, by omega, by rw [loadT_take hx (okAt_rise hx (hok' ho))]; exact hT', fun j hj => hok' ho j (by omega), M', rfl⟩
      · have h0 : k = 0 := by omega
        refine brB_of (fun g7 => ?_) fun g7 => ?_
        · exact bad hx (by rw [if_pos h0]; simp at g7; simp [okRow, g7]) (M4.go0 K8 (by simp))
        have ho : okRow (if k = 0 then none else (ll.map (·.x))[k - 1]?) q.x = true := by
          rw [if_pos h0]; simp at g7; simp [okRow, g3, g4, g7, hd]
        exact load_tail hT M4 K8 (hrep.keep0 (M4.go0 K8 (by simp))) (num1_i64 g3) f17 (by omega) fm fun w' hT' M' _ => clients_Load_leaf1 (ll.length - (k + 1)) (by omega) ⟨k + 1, by rw [wrap_id (by omega) (by omega)]; omega, by omega, by rw [loadT_take hx (okAt_rise hx (hok' ho))]; exact hT', fun j hj => hok' ho j (by omega), M', rfl⟩
  · have hk' : k = ll.length := by omega
    subst hk'
    have h0 : okRows none (ll.map (·.x)) = true := okRows_at.2 fun j x hx => hok j (by have := (List.getElem?_eq_some_iff.1 hx).1; simpa using this) x hx
    have h1 : loadE (ll.map (·.x)) = 0 := by rw [loadE, if_neg (by simp; omega), h0]; rfl
    rw [List.take_of_length_le (by simp)] at hT
    exact .inr ⟨h1, b, m, rfl, hT, M4, fb, fm⟩
end Go.Proofs.Ytdgiemnadpkcfaa
