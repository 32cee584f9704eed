/- What is handed in is cut; the reference's Load; the table's Copy. -/
import Derived.Test.YtdgiemnadpkcfaaC17
import Derived.Test.YtdgiemnadpkcfaaC5
import Derived.Test.YtdgiemnadpkcfaaC16
import Derived.Test.YtdgiemnadpkcfaaIter
namespace Go.Proofs.Ytdgiemnadpkcfaa
open Go Go.RowKit Go.Maps Go.MapKept
set_option linter.unusedVariables false
set_option linter.unusedSimpArgs false

theorem slS_any {s : ByteArray} {lo hi : Int} {F : ByteArray → Prop} (h0 : 0 ≤ lo) (h1 : lo ≤ hi) (h2 : hi ≤ s.size) (hF : ∀ t, F t) : slS s lo hi F := ⟨h0, h1, h2, hF _⟩
set_option maxHeartbeats 1000000 in
theorem CutReply_ok {w : World} {r : PRep} {f p : Sl} (h : RepRd w r f p) :
    Calls Try.prog 9 #[r.v f p] w fun e w' => ∃ v, e = .returned v ∧ ∃ (r' : PRep) (f' p' : Sl), v = r'.v f' p' ∧ RepOwn w' w.heap.size r' f' p' ∧ Mod [] w w' := by
  refine law04_CutReply_go ?_
  intro b1 f1 b2 f2 b3 f3 w1 A1
  have l1 : ∀ b ∈ [b3, b2, b1], b < w1.heap.size := A1.lt
  have l3 := l1 b3 (by simp)
  have l2 := l1 b2 (by simp)
  have l1 := l1 b1 (by simp)
  have s1 := A1.mod.size
  refine law04_CutReply_rule1 (fun mm x a n c w' => ∃ (k : Nat) (l : List PFound), x = k ∧ k ≤ 70 ∧ l.length = k ∧ Row w' w1.heap.size 62 5 encF a n c l ∧ Mod [] w w' ∧ w1.heap.size ≤ w'.heap.size ∧ mm = 70 - k) 70 ⟨0, [], rfl, by omega, rfl, Row.nil .., A1.mod, Nat.le_refl _, rfl⟩ ?_
  rintro mm x a1 n1 c1 w2 ⟨k, l1', rfl, hk, hl1, hR, M2, hs2, rfl⟩
  obtain ⟨l1, rfl⟩ : ∃ l1, l1 = l1' := ⟨_, rfl⟩
  refine brB_dec (fun hlt => ?_) fun hge => ?_
  · refine brB_dec (fun hlt4 => ?_) fun hge => ?_
    · obtain ⟨y, hy⟩ : ∃ y, r.found[k]? = some y := ⟨_, List.getElem?_eq_getElem (by have := h.found.1; omega)⟩
      have hym := h.sf y (List.mem_of_getElem? hy)
      unfold maxLen at hym
      refine (h.keep0 M2).found.ix hy fun q hq => ldInt_of (x := y.off) (by simpa [add_zero] using hq 0 _ rfl) (ldBool_of (hq 1 _ rfl) (ldStr_of (hq 2 _ rfl) (ldBool_of (hq 3 _ rfl) (ldStr_of (hq 4 _ rfl) ?_))))
      intro b6 f6
      refine slS_any (by omega) (by split <;> omega) (by split <;> omega) fun t1 => ?_
      refine slS_any (by omega) (by split <;> omega) (by split <;> omega) fun t2 => ?_
      intro w6 A6
      have l6 := A6.lt b6 (by simp)
      have s6 := A6.mod.size
      refine al_of fun b7 w7 c7 M7 f7 => ?_
      have s7 := M7.size
      obtain ⟨i0, hi0, hz0, hz1, hz2⟩ := info_parts infoF
      refine append_of (x := (⟨y.off, ⟨y.r.hk, t1, y.r.tomb, t2⟩⟩ : PFound)) ((hR.keep0 A6.mod).keep0 M7) Try.underlying24 hi0 hz0 hz1 hz2 rfl (by decide) c7 rfl (encF_one _) (by omega) (by unfold maxLen; omega) (by omega) fun a' c' w8 hR8 hM8 => ?_
      have M8 := hM8 _ (rowS_ok a1)
      have hrow : ∀ k ∈ rowS a1, w1.heap.size ≤ k ∧ k < w2.heap.size := by
        cases a1 with
        | none => simp [rowS]
        | some ad => intro k hk; simp [rowS] at hk; subst hk; obtain ⟨h1, cur, h2⟩ := hR.block ad rfl; exact ⟨h1, lt_of_block h2⟩
      refine ⟨Keep.of M8 fun b hb _ hb' => ?_, ?_⟩
      · have := hrow b hb'; simp at hb; omega
      intro w9 A9
      have N7 : Mod [] w2 w7 := A6.mod.go0 M7 (by simp)
      have N8 : Mod [] w w8 := (M2.go0 N7 (by simp)).go0 M8 fun i hi => by have := hrow i hi; omega
      have s8 := M8.size
      have s9 := A9.mod.size
      refine law04_CutReply_leaf1 (70 - (k + 1)) (by omega) ⟨k + 1, _, by rw [wrap_id (by omega) (by omega)]; omega, by omega, by simp [hl1], hR8.keep A9.mod fun ad ha hk' => ?_, N8.go0 A9.mod (by simp; omega), by omega, rfl⟩
      have := hR8.base ad ha; simp at hk'; omega
    · refine law04_CutReply_rule2 (fun mm x a n c w' => ∃ (k : Nat) (l : List PPart), x = k ∧ k ≤ 70 ∧ l.length = k ∧ Row w' w1.heap.size 58 2 encP a n c l ∧ Row w' w1.heap.size 62 5 encF a1 n1 c1 l1 ∧ Mod [] w w' ∧ w1.heap.size ≤ w'.heap.size ∧ mm = 70 - k) 70 ⟨0, [], rfl, by omega, rfl, Row.nil .., hR, M2, hs2, rfl⟩ ?_
      rintro mm x a n c w3 ⟨k, l, rfl, hk, hl, hP, hR, M3, hs3, rfl⟩
      have fin : ∀ w4, Adv [b2] [] w3 w4 → ∃ (r' : PRep) (f' p' : Sl), Value.agg #[.int .i64 r.e, .int .i64 r.off, .int .i64 r.n, .int .i64 r.gen, .slice a1 n1 c1, .slice a n c] = r'.v f' p' ∧ RepOwn w4 w.heap.size r' f' p' ∧ Mod [] w w4 := fun w4 A4 => by
        refine ⟨⟨r.e, r.off, r.n, r.gen, l1, l⟩, ⟨a1, n1, c1⟩, ⟨a, n, c⟩, rfl, ⟨?_, ?_, by simp only; omega, by simp only; omega⟩, M3.go0 A4.mod (by simp; omega)⟩
        · refine (hR.keep A4.mod fun ad ha hk' => ?_).rebase (by omega)
          have := hR.base ad ha; simp at hk'; omega
        · refine (hP.keep A4.mod fun ad ha hk' => ?_).rebase (by omega)
          have := hP.base ad ha; simp at hk'; omega
      refine brB_dec (fun hlt => ?_) fun hge => fin
      refine brB_dec (fun hlt4 => ?_) fun hge => fin
      obtain ⟨y, hy⟩ : ∃ y, r.parts[k]? = some y := ⟨_, List.getElem?_eq_getElem (by have := h.parts.1; omega)⟩
      have hym := h.sp y (List.mem_of_getElem? hy)
      unfold maxLen at hym
      refine (h.keep0 M3).parts.ix hy fun q hq => ldStr_of (x := y.t) (by simpa [add_zero] using hq 0 _ rfl) (ldInt_of (hq 1 _ rfl) ?_)
      intro b6 f6
      refine slS_any (by omega) (by split <;> omega) (by split <;> omega) fun t1 => ?_
      intro w6 A6
      have l6 := A6.lt b6 (by simp)
      have s6 := A6.mod.size
      refine al_of fun b7 w7 c7 M7 f7 => ?_
      have s7 := M7.size
      obtain ⟨i0, hi0, hz0, hz1, hz2⟩ := info_parts infoP
      refine append_of (x := (⟨t1, y.n⟩ : PPart)) ((hP.keep0 A6.mod).keep0 M7) Try.underlying25 hi0 hz0 hz1 hz2 rfl (by decide) c7 rfl (encP_one _) (by omega) (by unfold maxLen; omega) (by omega) fun a' c' w8 hR8 hM8 => ?_
      have M8 := hM8 _ (rowS_ok a)
      have hrow : ∀ k ∈ rowS a, w1.heap.size ≤ k ∧ k < w3.heap.size ∧ ∃ cur, w3.heap[k]? = some (.cells cur 58) := by
        cases a with
        | none => simp [rowS]
        | some ad => intro k hk; simp [rowS] at hk; subst hk; obtain ⟨h1, cur, h2⟩ := hP.block ad rfl; exact ⟨h1, lt_of_block h2, cur, h2⟩
      refine ⟨Keep.of M8 fun b hb _ hb' => ?_, ?_⟩
      · have := hrow b hb'; simp at hb; omega
      intro w9 A9
      have N7 : Mod [] w3 w7 := A6.mod.go0 M7 (by simp)
      have N8 : Mod [] w w8 := (M3.go0 N7 (by simp)).go0 M8 fun i hi => by have := hrow i hi; omega
      have s8 := M8.size
      have s9 := A9.mod.size
      refine law04_CutReply_leaf2 (70 - (k + 1)) (by omega) ⟨k + 1, _, by rw [wrap_id (by omega) (by omega)]; omega, by omega, by simp [hl], hR8.keep A9.mod fun ad ha hk' => ?_, ?_, N8.go0 A9.mod (by simp; omega), by omega, rfl⟩
      · have := hR8.base ad ha; simp at hk'; omega
      · have h7 := hR.keep0 N7
        refine (h7.keep M8 fun ad ha hk' => ?_).keep A9.mod fun ad ha hk' => ?_
        · obtain ⟨_, _, cur, hc⟩ := hrow _ hk'
          obtain ⟨_, cur', hc'⟩ := hR.block ad ha
          rw [hc] at hc'; cases hc'
        · have := hR.base ad ha; simp at hk'; omega
  · refine law04_CutReply_rule2 (fun mm x a n c w' => ∃ (k : Nat) (l : List PPart), x = k ∧ k ≤ 70 ∧ l.length = k ∧ Row w' w1.heap.size 58 2 encP a n c l ∧ Row w' w1.heap.size 62 5 encF a1 n1 c1 l1 ∧ Mod [] w w' ∧ w1.heap.size ≤ w'.heap.size ∧ mm = 70 - k) 70 ⟨0, [], rfl, by omega, rfl, Row.nil .., hR, M2, hs2, rfl⟩ ?_
    rintro mm x a n c w3 ⟨k, l, rfl, hk, hl, hP, hR, M3, hs3, rfl⟩
    have fin : ∀ w4, Adv [b2] [] w3 w4 → ∃ (r' : PRep) (f' p' : Sl), Value.agg #[.int .i64 r.e, .int .i64 r.off, .int .i64 r.n, .int .i64 r.gen, .slice a1 n1 c1, .slice a n c] = r'.v f' p' ∧ RepOwn w4 w.heap.size r' f' p' ∧ Mod [] w w4 := fun w4 A4 => by
      refine ⟨⟨r.e, r.off, r.n, r.gen, l1, l⟩, ⟨a1, n1, c1⟩, ⟨a, n, c⟩, rfl, ⟨?_, ?_, by simp only; omega, by simp only; omega⟩, M3.go0 A4.mod (by simp; omega)⟩
      · refine (hR.keep A4.mod fun ad ha hk' => ?_).rebase (by omega)
        have := hR.base ad ha; simp at hk'; omega
      · refine (hP.keep A4.mod fun ad ha hk' => ?_).rebase (by omega)
        have := hP.base ad ha; simp at hk'; omega
    refine brB_dec (fun hlt => ?_) fun hge => fin
    refine brB_dec (fun hlt4 => ?_) fun hge => fin
    obtain ⟨y, hy⟩ : ∃ y, r.parts[k]? = some y := ⟨_, List.getElem?_eq_getElem (by have := h.parts.1; omega)⟩
    have hym := h.sp y (List.mem_of_getElem? hy)
    unfold maxLen at hym
    refine (h.keep0 M3).parts.ix hy fun q hq => ldStr_of (x := y.t) (by simpa [add_zero] using hq 0 _ rfl) (ldInt_of (hq 1 _ rfl) ?_)
    intro b6 f6
    refine slS_any (by omega) (by split <;> omega) (by split <;> omega) fun t1 => ?_
    intro w6 A6
    have l6 := A6.lt b6 (by simp)
    have s6 := A6.mod.size
    refine al_of fun b7 w7 c7 M7 f7 => ?_
    have s7 := M7.size
    obtain ⟨i0, hi0, hz0, hz1, hz2⟩ := info_parts infoP
    refine append_of (x := (⟨t1, y.n⟩ : PPart)) ((hP.keep0 A6.mod).keep0 M7) Try.underlying25 hi0 hz0 hz1 hz2 rfl (by decide) c7 rfl (encP_one _) (by omega) (by unfold maxLen; omega) (by omega) fun a' c' w8 hR8 hM8 => ?_
    have M8 := hM8 _ (rowS_ok a)
    have hrow : ∀ k ∈ rowS a, w1.heap.size ≤ k ∧ k < w3.heap.size ∧ ∃ cur, w3.heap[k]? = some (.cells cur 58) := by
      cases a with
      | none => simp [rowS]
      | some ad => intro k hk; simp [rowS] at hk; subst hk; obtain ⟨h1, cur, h2⟩ := hP.block ad rfl; exact ⟨h1, lt_of_block h2, cur, h2⟩
    refine ⟨Keep.of M8 fun b hb _ hb' => ?_, ?_⟩
    · have := hrow b hb'; simp at hb; omega
    intro w9 A9
    have N7 : Mod [] w3 w7 := A6.mod.go0 M7 (by simp)
    have N8 : Mod [] w w8 := (M3.go0 N7 (by simp)).go0 M8 fun i hi => by have := hrow i hi; omega
    have s8 := M8.size
    have s9 := A9.mod.size
    refine law04_CutReply_leaf2 (70 - (k + 1)) (by omega) ⟨k + 1, _, by rw [wrap_id (by omega) (by omega)]; omega, by omega, by simp [hl], hR8.keep A9.mod fun ad ha hk' => ?_, ?_, N8.go0 A9.mod (by simp; omega), by omega, rfl⟩
    · have := hR8.base ad ha; simp at hk'; omega
    · have h7 := hR.keep0 N7
      refine (h7.keep M8 fun ad ha hk' => ?_).keep A9.mod fun ad ha hk' => ?_
      · obtain ⟨_, _, cur, hc⟩ := hrow _ hk'
        obtain ⟨_, cur', hc'⟩ := hR.block ad ha
        rw [hc] at hc'; cases hc'
      · have := hR.base ad ha; simp at hk'; omega

theorem Rrow_ok {w : World} {q : LV} (h : RepAt w q.x.r q.f q.p) :
    Calls Try.prog 30 #[q.v] w fun e w' => ∃ v, e = .returned v ∧ ∃ q' : LV, v = q'.v ∧ q'.x = q.x ∧ RepOwn w' w.heap.size q'.x.r q'.f q'.p ∧ Mod [] w w' := by
  refine ref15_row_go ?_
  intro b1 f1 b2 f2 w1 A1
  refine (Rreply_ok (r := q.x.r) (f := q.f) (p := q.p) (h.keep0 A1.mod)).mono ?_
  rintro e w2 ⟨_, rfl, f', p', rfl, hR, M2⟩
  refine ⟨_, _, _, _, _, _, _, _, _, _, rfl, Keep.of0 M2, rfl, rfl, rfl, ?_⟩
  intro w3 A3
  have l1 : ∀ b ∈ [b2, b1], b < w1.heap.size := A1.lt
  have l2 := l1 b2 (by simp)
  have s1 := A1.mod.size
  refine ⟨⟨q.x, f', p'⟩, rfl, rfl, ⟨?_, ?_, hR.lf, hR.lp⟩, (A1.mod.go0 M2 (by simp)).go0 A3.mod (by simpa using f2)⟩
  · refine (hR.found.keep A3.mod fun ad ha hk => ?_).rebase s1
    have := hR.found.base ad ha; simp at hk; omega
  · refine (hR.parts.keep A3.mod fun ad ha hk => ?_).rebase s1
    have := hR.parts.base ad ha; simp at hk; omega

abbrev PostRL (w : World) (xs : List PLast) : Value → World → Prop := fun v w' =>
  ((loadE xs ≠ 0 ∧ v = .tuple #[.pointer none, .int .i64 (loadE xs)]) ∨ (loadE xs = 0 ∧ ∃ b, v = .tuple #[.pointer (some ⟨b, 0, none⟩), .int .i64 0])) ∧ Mod [] w w'
set_option maxHeartbeats 1000000 in
theorem rLoad_ok {w : World} {s : Sl} {xs : List PLast} (h : RowsAt w s xs) :
    Calls Try.prog 11 #[s.v] w fun e w' => ∃ v, e = .returned v ∧ PostRL w xs v w' := by
  have hn := h.len
  refine ref15_Load_go ?_
  refine brB_dec (fun g => ?_) fun g => ?_
  · exact ⟨.inl ⟨by rw [loadE, if_pos (by omega)]; decide, by rw [loadE, if_pos (by omega)]⟩, Mod.refl _⟩
  intro b1 f1 w1 A1
  have l1 := A1.lt b1 (by simp)
  have s1 := A1.mod.size
  have bad : ∀ {k : Nat} {x : PLast} {w' : World}, xs[k]? = some x → okRow (if k = 0 then none else xs[k - 1]?) x = false → Mod [] w w' → PostRL w xs (.tuple #[.pointer none, .int .i64 1]) w' := fun {k} {x} {w'} hx ho M => by
    have h0 : okRows none xs = false := by
      rw [Bool.eq_false_iff]
      intro e
      have := okRows_at.1 e k x hx
      rw [ho] at this; cases this
    have h1 : loadE xs = 1 := by rw [loadE, if_neg (by omega), h0]; rfl
    exact ⟨.inl ⟨by rw [h1]; decide, by rw [h1]⟩, M⟩
  refine ref15_Load_rule1 (fun mm x a n c w' => ∃ (k : Nat) (l : List LV), x = k ∧ k ≤ xs.length ∧ Row w' w1.heap.size 29 9 LV.cs a n c l ∧ l.length = k ∧ (∀ j, j < k → okAt xs j) ∧ Mod [] w w' ∧ w1.heap.size ≤ w'.heap.size ∧ mm = xs.length - k) xs.length
    ⟨0, [], rfl, by omega, Row.nil .., rfl, by simp, A1.mod, Nat.le_refl _, rfl⟩ ?_
  rintro mm x a n c w2 ⟨k, l, rfl, hk, hL, hl, hok, M2, hs2, rfl⟩
  refine brB_dec (fun hlt => ?_) fun hge => ?_
  · have g1 : k < xs.length := by omega
    obtain ⟨x, hx⟩ : ∃ x, xs[k]? = some x := ⟨_, List.getElem?_eq_getElem g1⟩
    have hrise : ∀ {w'}, Mod [] w w' → RowsAt w' s xs := fun M => h.keep0 M
    obtain ⟨ll, hS, hRp, hll⟩ := h
    obtain ⟨q, hq, hqx⟩ : ∃ q, ll[k]? = some q ∧ q.x = x := by
      rw [← hll, List.getElem?_map, Option.map_eq_some_iff] at hx; exact hx
    subst hqx
    refine (hS.keep0 M2).ixW hq fun ad ha => ?_
    intro w3 A3
    have N3 := M2.go0 A3.mod (by simp)
    have s3 := A3.mod.size
    refine ldInt_of (x := q.x.c) (by simpa [add_zero] using ha w3 A3.mod 0 _ rfl) ?_
    refine (rnumber15_ok q.x.c w3).mono ?_
    rintro e w4 ⟨rfl, rfl⟩
    refine ⟨_, rfl, Keep.of0 (Mod.refl _), brB_of (fun g3 => ?_) fun g3 => ?_⟩
    · exact bad hx (by simp [okRow, notT g3]) N3
    have g3 := notF g3
    refine (hS.keep0 N3).ix hq fun ad ha => ldInt_of (x := q.x.n) (ha 1 _ rfl) ?_
    refine (rnumber15_ok q.x.n w4).mono ?_
    rintro e w5 ⟨rfl, rfl⟩
    refine ⟨_, rfl, Keep.of0 (Mod.refl _), brB_of (fun g4 => ?_) fun g4 => ?_⟩
    · exact bad hx (by simp [okRow, notT g4]) N3
    have g4 := notF g4
    have hok' : okRow (if k = 0 then none else xs[k - 1]?) q.x = true → ∀ j, j ≤ k → okAt xs j := fun ho j hj => by
      rcases Nat.lt_or_ge j k with h3 | h3
      · exact hok j h3
      · have : j = k := by omega
        subst this
        intro x hx'
        rw [hx] at hx'; cases hx'; exact ho
    have fin : ∀ {w6 : World}, Mod [] w5 w6 → okRow (if k = 0 then none else xs[k - 1]?) q.x = true → ref15_Load_C2 s.a s.n s.c (k : Int) b1 a n c (ref15_Load_K1 s.a s.n s.c b1 (fun mm x a n c w' => ∃ (k : Nat) (l : List LV), x = k ∧ k ≤ xs.length ∧ Row w' w1.heap.size 29 9 LV.cs a n c l ∧ l.length = k ∧ (∀ j, j < k → okAt xs j) ∧ Mod [] w w' ∧ w1.heap.size ≤ w'.heap.size ∧ mm = xs.length - k) (xs.length - k)) (PostRL w xs) w6 := fun {w6} M6 ho => by
      have N6 := N3.go0 M6 (by simp)
      have hL6 := (hL.keep0 A3.mod).keep0 M6
      have s6 := M6.size
      refine (hS.keep0 N6).ixW hq fun ad ha => ?_
      intro w7 A7
      have N7 := N6.go0 A7.mod (by simp)
      have ha := ha w7 A7.mod
      refine ldInt_of (x := q.x.c) (by simpa [add_zero] using ha 0 _ rfl) (ldInt_of (ha 1 _ rfl) (ldBool_of (ha 2 _ rfl) (ldInt_of (ha 3 _ rfl) (ldInt_of (ha 4 _ rfl) (ldInt_of (ha 5 _ rfl) (ldInt_of (ha 6 _ rfl) (ldSlice_of (ha 7 _ rfl) (ldSlice_of (ha 8 _ rfl) ?_))))))))
      refine (Rrow_ok (q := q) ((hRp q (List.mem_of_getElem? hq)).keep0 N7)).mono ?_
      rintro e w8 ⟨_, rfl, q', rfl, hqq, hR8, M8⟩
      refine ⟨_, _, _, _, _, _, _, _, _, _, _, _, _, rfl, Keep.of0 M8, ?_⟩
      have s7 := A7.mod.size
      have s8 := M8.size
      refine ⟨rfl, ?_⟩
      refine al_of fun b9 w9 c9 M9 f9 => ?_
      have s9 := M9.size
      have hL9 := ((hL6.keep0 A7.mod).keep0 M8).keep0 M9
      have N9 := (N7.go0 M8 (by simp)).go0 M9 (by simp)
      obtain ⟨i0, hi, hz0, hz1, hz2⟩ := info_parts infoL
      refine append_of (x := q') hL9 Try.underlying22 hi hz0 hz1 hz2 rfl (by decide) c9 rfl (LV.cs_one _) (by omega) (by unfold maxLen; omega) (by omega) fun a' c' w10 hR10 hM10 => ?_
      have M10 := hM10 _ (rowS_ok a)
      have s10 := M10.size
      refine ⟨Keep.of M10 fun b hb _ hb' => ?_, ?_⟩
      · have := hL.newS b hb'; simp at hb; omega
      intro w11 A11
      have s11 := A11.mod.size
      refine ref15_Load_leaf1 (xs.length - (k + 1)) (by omega) ⟨k + 1, _, by rw [wrap_id (by omega) (by omega)]; omega, by omega, hR10.keep A11.mod fun ad ha hk' => ?_, by simp [hl], fun j hj => hok' ho j (by omega), (N9.go0 M10 fun i hi => by have := hL.newS i hi; omega).go0 A11.mod (by simp; omega), by omega, rfl⟩
      have := hR10.base ad ha; simp at hk'; omega
    have hrep : ∀ {w'}, Mod [] w w' → RepAt w' q.x.r q.f q.p := fun M => (hRp q (List.mem_of_getElem? hq)).keep0 M
    have go : ∀ {w6 : World}, Mod [] w5 w6 → okRow (if k = 0 then none else xs[k - 1]?) q.x = true → _ := fun {w6} M6 ho => ref15_Load_cut2 (a_00 := s.a) (n_00 := s.n) (c_00 := s.c) (x_50 := (k : Int)) (bm00 := b1) (a_m0_00 := a) (n_m0_00 := n) (c_m0_00 := c) (w0 := w6)
      (K1 := ref15_Load_K1 s.a s.n s.c b1 (fun mm x a n c w' => ∃ (k : Nat) (l : List LV), x = k ∧ k ≤ xs.length ∧ Row w' w1.heap.size 29 9 LV.cs a n c l ∧ l.length = k ∧ (∀ j, j < k → okAt xs j) ∧ Mod [] w w' ∧ w1.heap.size ≤ w'.heap.size ∧ mm = xs.length - k) (xs.length - k)) (R := PostRL w xs)
      (fun a0 n0 c0 x0 bm am nm cm w' => a0 = s.a ∧ n0 = s.n ∧ c0 = s.c ∧ x0 = k ∧ bm = b1 ∧ am = a ∧ nm = n ∧ cm = c ∧ Mod [] w5 w') ⟨rfl, rfl, rfl, rfl, rfl, rfl, rfl, rfl, M6⟩ (by
        rintro a0 n0 c0 x0 bm am nm cm w' ⟨rfl, rfl, rfl, rfl, rfl, rfl, rfl, rfl, M⟩
        exact fin M ho)
    have rep : ∀ (pv : Option PLast), (∀ y, pv = some y → y.c < q.x.c) → okRow pv q.x = (decide (repE q.x.r = 0) && (q.x.done || decide (q.x.r = rep0))) := fun pv hp => by
      cases pv with
      | none => simp [okRow, g3, g4]
      | some y => simp [okRow, g3, g4, hp y rfl]
    have rest : ∀ (hp : ∀ y, (if k = 0 then none else xs[k - 1]?) = some y → y.c < q.x.c), okRow (if k = 0 then none else xs[k - 1]?) q.x = (decide (repE q.x.r = 0) && (q.x.done || decide (q.x.r = rep0))) := rep _
    have ek : ¬ k = 0 → IntKind.wrap .i64 ((k : Int) - 1) = ((k - 1 : Nat) : Int) := fun h0 => by rw [wrap_id (by omega) (by omega)]; omega
    refine brB_dec (fun g5 => ?_) fun g5 => ?_
    · have h0 : ¬ k = 0 := by omega
      have h1 : k - 1 < ll.length := by have := congrArg List.length hll; simp at this; omega
      obtain ⟨y, hy⟩ : ∃ y, ll[k - 1]? = some y := ⟨_, List.getElem?_eq_getElem h1⟩
      have hxy : xs[k - 1]? = some y.x := by rw [← hll, List.getElem?_map, hy]; rfl
      refine (hS.keep0 N3).ix hq fun ad ha => ldInt_of (x := q.x.c) (by simpa [add_zero] using ha 0 _ rfl) ?_
      rw [ek h0]
      refine (hS.keep0 N3).ix hy fun ad ha => ldInt_of (x := y.x.c) (by simpa [add_zero] using ha 0 _ rfl) ?_
      refine brB_dec (fun g6 => ?_) fun g6 => ?_
      · exact bad hx (by rw [if_neg h0, hxy]; simp [okRow]; omega) N3
      have rest := rest (fun z hz => by rw [if_neg h0, hxy] at hz; cases hz; omega)
      refine (hS.keep0 N3).ix hq fun ad ha => ldInt_of (ha 3 _ rfl) (ldInt_of (by rw [add_add]; exact ha 4 _ rfl) (ldInt_of (by rw [add_add]; exact ha 5 _ rfl) (ldInt_of (by rw [add_add]; exact ha 6 _ rfl) (ldSlice_of (by rw [add_add]; exact ha 7 _ rfl) (ldSlice_of (by rw [add_add]; exact ha 8 _ rfl) ?_)))))
      refine (Right_ok (hrep N3)).mono ?_
      rintro e w6 ⟨rfl, M6⟩
      have N6 := N3.go0 M6 (by simp)
      refine ⟨_, rfl, Keep.of0 M6, brB_of (fun g7 => ?_) fun g7 => ?_⟩
      · exact bad hx (by rw [rest]; simp at g7; simp [g7]) N6
      have g7 : repE q.x.r = 0 := by simpa using g7
      refine (hS.keep0 N6).ix hq fun ad ha => ldBool_of (x := q.x.done) (ha 2 _ rfl) ?_
      refine brB_of (fun g8 => ?_) fun g8 => ?_
      · have g8 := notT g8
        refine (hS.keep0 N6).ix hq fun ad ha => ldInt_of (ha 3 _ rfl) (ldInt_of (by rw [add_add]; exact ha 4 _ rfl) (ldInt_of (by rw [add_add]; exact ha 5 _ rfl) (ldInt_of (by rw [add_add]; exact ha 6 _ rfl) (ldSlice_of (by rw [add_add]; exact ha 7 _ rfl) (ldSlice_of (by rw [add_add]; exact ha 8 _ rfl) ?_)))))
        refine (RAlike_ok (hrep N6) (rep0_at w6)).mono ?_
        rintro e w7 ⟨rfl, M7⟩
        refine ⟨_, rfl, Keep.of0 M7, brB_of (fun g9 => ?_) fun g9 => ?_⟩
        · exact bad hx (by rw [rest]; simp at g9; simp [g8, g9]) (N6.go0 M7 (by simp))
        · have g9 : q.x.r = rep0 := by simpa using g9
          exact go (M6.go0 M7 (by simp)) (by rw [rest]; simp [g9, rep0_E])
      · have g8 := notF g8
        exact go M6 (by rw [rest]; simp [g7, g8])
    · have h0 : k = 0 := by omega
      have rest := rest (fun z hz => by rw [if_pos h0] at hz; cases hz)
      refine (hS.keep0 N3).ix hq fun ad ha => ldInt_of (ha 3 _ rfl) (ldInt_of (by rw [add_add]; exact ha 4 _ rfl) (ldInt_of (by rw [add_add]; exact ha 5 _ rfl) (ldInt_of (by rw [add_add]; exact ha 6 _ rfl) (ldSlice_of (by rw [add_add]; exact ha 7 _ rfl) (ldSlice_of (by rw [add_add]; exact ha 8 _ rfl) ?_)))))
      refine (Right_ok (hrep N3)).mono ?_
      rintro e w6 ⟨rfl, M6⟩
      have N6 := N3.go0 M6 (by simp)
      refine ⟨_, rfl, Keep.of0 M6, brB_of (fun g7 => ?_) fun g7 => ?_⟩
      · exact bad hx (by rw [rest]; simp at g7; simp [g7]) N6
      have g7 : repE q.x.r = 0 := by simpa using g7
      refine (hS.keep0 N6).ix hq fun ad ha => ldBool_of (x := q.x.done) (ha 2 _ rfl) ?_
      refine brB_of (fun g8 => ?_) fun g8 => ?_
      · have g8 := notT g8
        refine (hS.keep0 N6).ix hq fun ad ha => ldInt_of (ha 3 _ rfl) (ldInt_of (by rw [add_add]; exact ha 4 _ rfl) (ldInt_of (by rw [add_add]; exact ha 5 _ rfl) (ldInt_of (by rw [add_add]; exact ha 6 _ rfl) (ldSlice_of (by rw [add_add]; exact ha 7 _ rfl) (ldSlice_of (by rw [add_add]; exact ha 8 _ rfl) ?_)))))
        refine (RAlike_ok (hrep N6) (rep0_at w6)).mono ?_
        rintro e w7 ⟨rfl, M7⟩
        refine ⟨_, rfl, Keep.of0 M7, brB_of (fun g9 => ?_) fun g9 => ?_⟩
        · exact bad hx (by rw [rest]; simp at g9; simp [g8, g9]) (N6.go0 M7 (by simp))
        · have g9 : q.x.r = rep0 := by simpa using g9
          exact go (M6.go0 M7 (by simp)) (by rw [rest]; simp [g9, rep0_E])
      · have g8 := notF g8
        exact go M6 (by rw [rest]; simp [g7, g8])
  · have hk' : k = xs.length := by omega
    subst hk'
    have h0 : okRows none xs = true := okRows_at.2 fun j x hx => hok j (by have := (List.getElem?_eq_some_iff.1 hx).1; simpa using this) x hx
    have h1 : loadE xs = 0 := by rw [loadE, if_neg (by omega), h0]; rfl
    intro w3 A3 _
    exact ⟨.inr ⟨h1, b1, rfl⟩, M2.go0 A3.mod (by simp)⟩

theorem Copy_ok {w : World} {base b m : Nat} {T : Tb} (h : TabAt w base b m T) (hO : Own T) (hb : base ≤ w.heap.size) :
    Calls Try.prog 22 #[.pointer (some ⟨b, 0, none⟩)] w fun e w' => ∃ v, e = .returned v ∧
      ∃ b' m' T', v = .pointer (some ⟨b', 0, none⟩) ∧ TabAt w' w.heap.size b' m' T' ∧ Own T' ∧ (∀ c, lkp T' c = lkp T c) ∧ Mod [] w w' ∧ w.heap.size ≤ b' ∧ w.heap.size ≤ m' := by
  obtain ⟨L, h, rfl⟩ := h
  refine clients_Table_Copy_go h.cells ?_
  refine (New_ok w).mono ?_
  rintro e w1 ⟨_, rfl, b', m', rfl, hT1, M1, fb, fm⟩
  refine ⟨_, rfl, Keep.of0 M1, ?_⟩
  have h1 := h.keep0 M1
  obtain ⟨w2, hr, M2, hI⟩ := IterAt.start h1.map Try.underlying66
  refine ⟨_, w2, hr, Keep.of0 M2, ?_⟩
  have s1 := M1.size
  have s2 := M2.size
  have hml := h.map.lt
  have hbl := lt_of_block h.cells
  have hml' := hT1.map.lt
  have hnd := h.map.nodup
  refine clients_Table_Copy_rule1 (fun mm w' => ∃ left T', IterAt Try.prog 3 ki LV.v w' w1.heap.size m L left ∧ (∀ p ∈ left, p ∈ L) ∧ TabAt w' w.heap.size b' m' T' ∧ Own T' ∧ (∀ c, lkp T' c = if c ∈ left.map (·.1) then none else lkp (absT L) c) ∧ Mod [] w w' ∧ mm = left.length) L.length
    ⟨L, [], hI, fun p hp => hp, ⟨[], hT1.keep0 M2, rfl⟩, own_nil, fun c => ?_, M1.go0 M2 (by simp), rfl⟩ ?_
  · split
    · rfl
    · rename_i hc
      rw [show lkp ([] : Tb) c = none from rfl, absT_lkp]
      cases hl : lkp L c with
      | none => rfl
      | some q => exact absurd (List.mem_map.2 ⟨(c, q), mem_of_lkp hl, rfl⟩) hc
  rintro mm w3 ⟨left, T', hI, hsub, hT', hO', hlk, M3, rfl⟩
  have s3 := M3.size
  have hm3 : m' < w3.heap.size := by obtain ⟨_, hL', _⟩ := hT'; exact hL'.map.lt
  rcases hI.step (ty := 0) ki_inj with ⟨rfl, hrun⟩ | ⟨p, hp, w4, hrun, M4, hI4, hent⟩
  · refine .inl ⟨w3, hrun, Keep.of0 (Mod.refl _), ?_⟩
    intro w4 A4 _
    exact ⟨b', m', T', rfl, hT'.keep0 A4.mod, hO', fun c => by simpa using hlk c, M3.go0 A4.mod (by simp), fb, fm⟩
  · have N4 : Mod [] w w4 := M3.go0 M4 (by simp; omega)
    have s4 := M4.size
    refine .inr ⟨_, _, w4, hrun, Keep.of M4 fun k hk _ hk' => ?_, ?_⟩
    · simp at hk hk'; omega
    obtain ⟨k, v⟩ := p
    have hpL := hsub _ hp
    obtain ⟨hvk, hvo⟩ := h.own _ hpL
    simp only at hvk hvo
    subst hvk
    refine ⟨_, _, _, _, _, _, _, _, _, _, _, _, _, _, w4, hent w4 (Mod.refl _), Keep.of0 (Mod.refl _), ?_⟩
    intro b5 f5 w5 A5
    have N5 := N4.go0 A5.mod (by simp)
    have l5 := A5.lt b5 (by simp)
    refine (own_ok (hvo.at.keep0 N5)).mono ?_
    rintro e w6 ⟨_, rfl, f', p', rfl, hR6, M6⟩
    refine ⟨_, _, _, _, _, _, _, _, _, _, rfl, Keep.of0 M6, ?_⟩
    intro w7 A7
    have s5 := A5.mod.size
    have s6 := M6.size
    have s7 := A7.mod.size
    have K7 : Mod [] w4 w7 := (A5.mod.go0 M6 (by simp)).go0 A7.mod (by simpa using f5)
    have hT7 : TabAt w7 w.heap.size b' m' T' := by
      obtain ⟨L', hL', rfl⟩ := hT'
      refine ⟨L', ⟨?_, ?_, fun q hq => ⟨(hL'.own q hq).1, ?_⟩⟩, rfl⟩
      · exact K7.keep0 (M4.keep hL'.cells (by have := lt_of_block hT1.cells; simp; omega))
      · exact (hL'.map.of_block (M4.block m' hL'.map.lt (by simp; omega))).of_block (K7.block m' (by omega) (by simp))
      · have hRq := (hL'.own q hq).2
        refine (hRq.keep M4 fun k hk cs T hc => ?_).keep0 K7
        rw [List.mem_singleton] at hk
        subst hk
        obtain ⟨es, cl, since, seen, c0, e1, _⟩ := hI
        rw [e1] at hc; cases hc
    have hR7 : RepOwn w7 w.heap.size v.x.r f' p' := by
      refine ⟨(hR6.found.keep A7.mod fun ad ha hk => ?_).rebase (by omega), (hR6.parts.keep A7.mod fun ad ha hk => ?_).rebase (by omega), hR6.lf, hR6.lp⟩
      · have := hR6.found.base ad ha; simp at hk; omega
      · have := hR6.parts.base ad ha; simp at hk; omega
    have hki : i64B v.x.c := by
      obtain ⟨l, hl⟩ := h.map.keyed _ hpL
      exact wf_i64 (keyOf_int_inv Try.underlying3 hl).2
    obtain ⟨L', hL', rfl⟩ := hT7
    refine ldMap_at hL'.cells rfl ?_
    obtain ⟨w8, hrun8, hT8, M8⟩ := hL'.update (q := ⟨v.x, f', p'⟩) hR7 hki
    have hll : (delF left v.x.c).length < left.length := by
      have : left.length ≠ (delF left v.x.c).length := fun e => by
        have := (List.length_filter_eq_length_iff.1 e.symm) _ hp
        simp at this
      have := List.length_filter_le (fun q : Int × LV => decide (q.1 ≠ v.x.c)) left
      unfold delF at *; omega
    refine ⟨w8, hrun8, Keep.of M8 fun j hj _ hj' => ?_, ?_⟩
    · simp at hj hj'; omega
    refine clients_Table_Copy_leaf1 (delF left v.x.c).length hll ⟨_, _, (hI4.keep K7 (by simp) (by simp)).keep M8 (by simp; omega) (by simp; omega), fun q hq => hsub q (List.mem_filter.1 hq).1, ⟨_, hT8, absT_put L' v.x.c ⟨v.x, f', p'⟩⟩, Own.put (x := v.x) hO', fun c => ?_, (N4.go0 K7 (by simp)).go0 M8 (by simp; omega), rfl⟩
    rw [lkp_put]
    have hmem : c ∈ (delF left v.x.c).map (·.1) ↔ c ∈ left.map (·.1) ∧ c ≠ v.x.c := by
      simp only [delF, List.mem_map, List.mem_filter, decide_eq_true_eq]
      constructor
      · rintro ⟨q, ⟨h1, h2⟩, rfl⟩; exact ⟨⟨q, h1, rfl⟩, h2⟩
      · rintro ⟨⟨q, h1, rfl⟩, h2⟩; exact ⟨q, ⟨h1, h2⟩, rfl⟩
    by_cases hc : v.x.c = c
    · subst hc
      rw [if_pos rfl, if_neg (by rw [hmem]; simp), absT_lkp, lkp_of_mem hnd hpL]; rfl
    · rw [if_neg hc, hlk]
      have : c ∈ (delF left v.x.c).map (·.1) ↔ c ∈ left.map (·.1) := by rw [hmem]; exact ⟨fun h => h.1, fun h => ⟨h, Ne.symm hc⟩⟩
      simp only [this]
end Go.Proofs.Ytdgiemnadpkcfaa
