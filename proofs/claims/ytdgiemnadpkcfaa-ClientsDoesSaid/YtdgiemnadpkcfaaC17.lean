/- The reference's table: Begin, Done. -/
import Derived.Test.YtdgiemnadpkcfaaC15
namespace Go.Proofs.Ytdgiemnadpkcfaa
open Go Go.RowKit Go.Maps Go.MapKept
set_option linter.unusedVariables false
set_option linter.unusedSimpArgs false

theorem LV.cs_leaf (q : LV) : q.cs.all leafB = true := rfl
set_option maxHeartbeats 800000 in
theorem rBegin_ok {w : World} {base rb : Nat} {R : List PLast} (hR : Rise R) (hlen : R.length ≤ 900) (h : RTab w base rb R) (hb : base ≤ w.heap.size) (hrb : base ≤ rb) (c n : Int) :
    Calls Try.prog 20 #[.pointer (some ⟨rb, 0, none⟩), .int .i64 c, .int .i64 n] w fun e w' => e = .returned (.int .i64 (beginE (loadT R) c n)) ∧ (RTab w' base rb (beginR R c n) ∧ RMod base rb w w') := by
  obtain ⟨a, nn, cp, ll, h, hRe⟩ := h
  have hll : ll.length ≤ 900 := by rw [← hRe] at hlen; simpa using hlen
  have hnn : nn = ll.length := h.row.1
  have hRl : R.length = ll.length := by rw [← hRe]; simp
  have same : ∀ {w' : World} {k : Int}, beginE (loadT R) c n = k → beginT (loadT R) c n = loadT R → Mod [] w w' → (Value.int .i64 k = Value.int .i64 (beginE (loadT R) c n) ∧ (RTab w' base rb (beginR R c n) ∧ RMod base rb w w')) := fun {w'} {k} e1 e2 M => by
    rw [e1, beginR, e2, listS_loadT hR]
    exact ⟨rfl, ⟨a, nn, cp, ll, h.keep0 M, hRe⟩, RMod.of0 M⟩
  refine go_of (ref15_Table_Begin_go h.cells ?_)
  intro w1 A1 hc1
  have h1 := h.keep0 A1.mod
  refine (rAsk_ok hR (by omega) ⟨a, nn, cp, ll, h1, hRe⟩ c n).mono ?_
  rintro e w2 ⟨_, rfl, f, p, rfl, _, M2⟩
  have h2 := h1.keep0 M2
  have N2 := A1.mod.go0 M2 (by simp)
  refine ⟨_, _, _, _, _, _, _, _, _, _, _, _, rfl, a, nn, cp, h2.cells, ?_⟩
  intro b3 f3
  refine brB_of (fun g1 => ?_) fun g1 => ?_
  · intro w3 A3 _
    have g : (askS (loadT R) c n).2.2 ≠ 0 := by simpa using g1
    have e := begin_not (.inl g)
    exact same e.1 e.2 (N2.go0 A3.mod (by simp))
  have g1 : (askS (loadT R) c n).2.2 = 0 := by simpa using g1
  refine brB_of (fun g2 => ?_) fun g2 => ?_
  · intro w3 A3 _
    have g : (askS (loadT R) c n).1 ≠ 0 := by simpa using g2
    have e := begin_not (.inr g)
    exact same e.1 e.2 (N2.go0 A3.mod (by simp))
  have g2 : (askS (loadT R) c n).1 = 0 := by simpa using g2
  have hask : askS (loadT R) c n = (0, rep0, 0) := by
    obtain ⟨n1, n2⟩ := ask_num g1
    cases hl : lkp (loadT R) c with
    | none => exact askS_none n1 n2 hl
    | some x =>
      rw [askS_ok n1 n2, hl] at g1 g2 ⊢
      simp only at g1 g2 ⊢
      split at g1 <;> rename_i h3
      · rw [if_pos h3]
      · rw [if_neg h3] at g2
        split at g1 <;> rename_i h4
        · simp at g1
        · rw [if_neg h4] at g2
          split at g2 <;> simp at g2
  intro w3 A3 _
  have N3 := N2.go0 A3.mod (by simp)
  have h3 := h.keep0 N3
  refine (rplace_ok hR (by omega) ⟨a, nn, cp, ll, h3, hRe⟩ c).mono ?_
  rintro e w4 ⟨_, rfl, hp, M4⟩
  have h4 := h3.keep0 M4
  have N4 := N3.go0 M4 (by simp)
  have l3 := A3.lt b3 (by simp)
  have s2 := N2.size
  have s3 := A3.mod.size
  have s4 := M4.size
  have hrl := lt_of_block h.cells
  rcases hp with ⟨rfl, hl⟩ | ⟨i, x, rfl, hx, hxc, hl⟩
  · refine ⟨_, rfl, Keep.of0 M4, a, nn, cp, h4.cells, brF (by decide) ?_⟩
    refine brB_dec (fun g3 => ?_) fun g3 => ?_
    · have e := begin_full hask hl (by simp [loadT]; omega)
      exact same e.1 e.2 N4
    have eB := begin_put hask (fun _ => by simp [loadT]; omega)
    refine ref15_Table_Begin_rule1 (fun mm x w' => ∃ k : Nat, x = k ∧ k ≤ ll.length ∧ (∀ j y, j < k → R[j]? = some y → y.c < c) ∧ Mod [] w4 w' ∧ mm = ll.length - k) ll.length ⟨0, rfl, by omega, fun j y hj => by omega, Mod.refl _, rfl⟩ ?_
    rintro mm x w5 ⟨k, rfl, hk, hlo, M5, rfl⟩
    intro hc5
    have h5 := h4.keep0 M5
    have N5 := N4.go0 M5 (by simp)
    have s5 := M5.size
    refine brB_dec (fun hlt => ?_) fun hge => ?_
    · obtain ⟨q, hq⟩ : ∃ q, ll[k]? = some q := ⟨_, List.getElem?_eq_getElem (by omega)⟩
      have hx : R[k]? = some q.x := by rw [← hRe, List.getElem?_map, hq]; rfl
      refine (h5.row.sl LV.cs_len).ix hq fun ad ha => ldInt_of (x := q.x.c) (by simpa [add_zero] using ha 0 _ rfl) ?_
      refine brB_dec (fun g => ?_) fun g => ?_
      · refine ref15_Table_Begin_leaf1 (ll.length - (k + 1)) (by omega) ⟨k + 1, by rw [wrap_id (by omega) (by omega)]; omega, by omega, fun j y hj hy => ?_, M5, rfl⟩
        rcases Nat.lt_or_ge j k with h7 | h7
        · exact hlo j y h7 hy
        · have : j = k := by omega
          subst this
          rw [hx] at hy; cases hy; exact g
      · have hne : q.x.c ≠ c := fun e => by
          have := hR.lkp (List.mem_of_getElem? hx)
          rw [e, hl] at this; cases this
        have hhi : ∀ j y, k ≤ j → R[j]? = some y → c < y.c := fun j y hj hy => by
          rcases Nat.lt_or_ge k j with h7 | h7
          · have := hR.at hx hy h7; omega
          · have : j = k := by omega
            subst this
            rw [hx] at hy; cases hy; omega
        refine al_of fun b6 w6 c6 M6 f6 => ?_
        have h6 := h5.keep0 M6
        have s6 := M6.size
        refine slV_take (h6.row.sl LV.cs_len) (by omega) h6.row.cap fun a7 c7 S7 => ?_
        obtain ⟨i0, hi0, hz0, hz1, hz2⟩ := info_parts infoL
        refine appendAll_of (Row.fresh (base := w5.heap.size) c6 f6) Try.underlying22 hi0 hz0 hz1 hz2 rfl (by decide) S7 LV.cs_len LV.cs_one (by simp; omega) (by simp; unfold maxLen; omega) (by omega) fun a8 n8 c8 w8 hR8 hM8 => ?_
        have M8 := hM8 [b6] (by simp)
        have N8 : Mod [] w5 w8 := M6.go0 M8 (by simpa using f6)
        have s8 := N8.size
        refine ⟨Keep.of M8 fun b hb _ hb' => ?_, ?_⟩
        · simp at hb hb'; omega
        refine al_of fun b9 w9 c9 M9 f9 => ?_
        have s9 := M9.size
        have hl8 : ([] ++ ll.take k).length ≤ 1000 := by simp; omega
        refine append_of (x := ⟨⟨c, n, false, rep0⟩, sl0, sl0⟩) (hR8.keep0 M9) Try.underlying22 hi0 hz0 hz1 hz2 rfl (by decide) c9 rfl (LV.cs_one _) (by omega) (by unfold maxLen; omega) (by omega) fun a10 c10 w10 hR10 hM10 => ?_
        have M10 := hM10 _ (rowS_ok a8)
        have N10 : Mod [] w5 w10 := (N8.go0 M9 (by simp)).go0 M10 hR8.newS
        have s10 := N10.size
        refine ⟨Keep.of M10 fun b hb _ hb' => ?_, ?_⟩
        · have := hR8.newS b hb'; simp at hb; omega
        have h10 := h5.keep0 N10
        refine slV_drop (h10.row.sl LV.cs_len) (by omega) h10.row.cap fun a11 c11 S11 => ?_
        refine appendAll_of hR10 Try.underlying22 hi0 hz0 hz1 hz2 rfl (by decide) S11 LV.cs_len LV.cs_one (by simp; omega) (by simp; unfold maxLen; omega) (by omega) fun a12 n12 c12 w12 hR12 hM12 => ?_
        have M12 := hM12 _ (rowS_ok a10)
        have N12 : Mod [] w5 w12 := N10.go0 M12 hR10.newS
        have s12 := N12.size
        refine ⟨Keep.of M12 fun b hb _ hb' => ?_, ?_⟩
        · have := hR10.newS b hb'; simp at hb; omega
        intro w13 A13 hc13
        have h12 := h5.keep0 N12
        have keepT : ∀ k ∈ [rb], ∀ cs T, w12.heap[k]? = some (.cells cs T) → T ≠ 62 ∧ T ≠ 58 := fun k hk cs T hc => by
          rw [List.mem_singleton] at hk
          subst hk
          rw [h12.cells] at hc; cases hc; decide
        refine ⟨by rw [eB.1], ⟨a12, n12, c12, [] ++ ll.take k ++ [⟨⟨c, n, false, rep0⟩, sl0, sl0⟩] ++ ll.drop k, ⟨hc13, ?_, ?_⟩, ?_⟩, [rb], ?_, ?_⟩
        · refine (hR12.keep A13.mod fun ad ha hk => ?_).rebase (by omega)
          have := hR12.base ad ha; simp at hk; omega
        · intro q hq
          refine RepOwn.keep ?_ A13.mod keepT
          simp only [List.nil_append, List.mem_append, List.mem_singleton] at hq
          rcases hq with (hq | rfl) | hq
          · exact h12.own q (List.mem_of_mem_take hq)
          · exact rep0_own _ _
          · exact h12.own q (List.mem_of_mem_drop hq)
        · show _ = beginR R c n
          rw [beginR, eB.2, put_ins (x := ⟨c, n, false, rep0⟩) hR (by rw [← hRe]; simpa using hk) hlo hhi, ← hRe]
          simp
        · exact ((N5.go0 N12 (by simp)).trans A13.mod).less (by simp)
        · intro k hk
          rw [List.mem_singleton] at hk
          subst hk
          exact ⟨⟨_, _, h.cells, .inl rfl⟩, hrb, .inl rfl⟩
    · have hhi : ∀ j y, k ≤ j → R[j]? = some y → c < y.c := fun j y hj hy => by
        have := (List.getElem?_eq_some_iff.1 hy).1; omega
      refine al_of fun b6 w6 c6 M6 f6 => ?_
      have h6 := h5.keep0 M6
      have s6 := M6.size
      refine slV_take (h6.row.sl LV.cs_len) (by omega) h6.row.cap fun a7 c7 S7 => ?_
      obtain ⟨i0, hi0, hz0, hz1, hz2⟩ := info_parts infoL
      refine appendAll_of (Row.fresh (base := w5.heap.size) c6 f6) Try.underlying22 hi0 hz0 hz1 hz2 rfl (by decide) S7 LV.cs_len LV.cs_one (by simp; omega) (by simp; unfold maxLen; omega) (by omega) fun a8 n8 c8 w8 hR8 hM8 => ?_
      have M8 := hM8 [b6] (by simp)
      have N8 : Mod [] w5 w8 := M6.go0 M8 (by simpa using f6)
      have s8 := N8.size
      refine ⟨Keep.of M8 fun b hb _ hb' => ?_, ?_⟩
      · simp at hb hb'; omega
      refine al_of fun b9 w9 c9 M9 f9 => ?_
      have s9 := M9.size
      have hl8 : ([] ++ ll.take k).length ≤ 1000 := by simp; omega
      refine append_of (x := ⟨⟨c, n, false, rep0⟩, sl0, sl0⟩) (hR8.keep0 M9) Try.underlying22 hi0 hz0 hz1 hz2 rfl (by decide) c9 rfl (LV.cs_one _) (by omega) (by unfold maxLen; omega) (by omega) fun a10 c10 w10 hR10 hM10 => ?_
      have M10 := hM10 _ (rowS_ok a8)
      have N10 : Mod [] w5 w10 := (N8.go0 M9 (by simp)).go0 M10 hR8.newS
      have s10 := N10.size
      refine ⟨Keep.of M10 fun b hb _ hb' => ?_, ?_⟩
      · have := hR8.newS b hb'; simp at hb; omega
      have h10 := h5.keep0 N10
      refine slV_drop (h10.row.sl LV.cs_len) (by omega) h10.row.cap fun a11 c11 S11 => ?_
      refine appendAll_of hR10 Try.underlying22 hi0 hz0 hz1 hz2 rfl (by decide) S11 LV.cs_len LV.cs_one (by simp; omega) (by simp; unfold maxLen; omega) (by omega) fun a12 n12 c12 w12 hR12 hM12 => ?_
      have M12 := hM12 _ (rowS_ok a10)
      have N12 : Mod [] w5 w12 := N10.go0 M12 hR10.newS
      have s12 := N12.size
      refine ⟨Keep.of M12 fun b hb _ hb' => ?_, ?_⟩
      · have := hR10.newS b hb'; simp at hb; omega
      intro w13 A13 hc13
      have h12 := h5.keep0 N12
      have keepT : ∀ k ∈ [rb], ∀ cs T, w12.heap[k]? = some (.cells cs T) → T ≠ 62 ∧ T ≠ 58 := fun k hk cs T hc => by
        rw [List.mem_singleton] at hk
        subst hk
        rw [h12.cells] at hc; cases hc; decide
      refine ⟨by rw [eB.1], ⟨a12, n12, c12, [] ++ ll.take k ++ [⟨⟨c, n, false, rep0⟩, sl0, sl0⟩] ++ ll.drop k, ⟨hc13, ?_, ?_⟩, ?_⟩, [rb], ?_, ?_⟩
      · refine (hR12.keep A13.mod fun ad ha hk => ?_).rebase (by omega)
        have := hR12.base ad ha; simp at hk; omega
      · intro q hq
        refine RepOwn.keep ?_ A13.mod keepT
        simp only [List.nil_append, List.mem_append, List.mem_singleton] at hq
        rcases hq with (hq | rfl) | hq
        · exact h12.own q (List.mem_of_mem_take hq)
        · exact rep0_own _ _
        · exact h12.own q (List.mem_of_mem_drop hq)
      · show _ = beginR R c n
        rw [beginR, eB.2, put_ins (x := ⟨c, n, false, rep0⟩) hR (by rw [← hRe]; simpa using hk) hlo hhi, ← hRe]
        simp
      · exact ((N5.go0 N12 (by simp)).trans A13.mod).less (by simp)
      · intro k hk
        rw [List.mem_singleton] at hk
        subst hk
        exact ⟨⟨_, _, h.cells, .inl rfl⟩, hrb, .inl rfl⟩
  · refine ⟨_, rfl, Keep.of0 M4, a, nn, cp, h4.cells, brT (decide_eq_true (by omega)) ?_⟩
    have eB := begin_put hask (fun h0 => by rw [h0] at hl; cases hl)
    obtain ⟨q, hq⟩ : ∃ q, ll[i]? = some q := ⟨_, List.getElem?_eq_getElem (by have := (List.getElem?_eq_some_iff.1 hx).1; omega)⟩
    refine Row.store (enc := LV.cs) (y := (⟨⟨c, n, false, rep0⟩, sl0, sl0⟩ : LV)) h4.row LV.cs_len (LV.cs_leaf _) hq fun ad w5 had hR5 M5 => ?_
    obtain ⟨hba, cur, hcur⟩ := h.row.block ad had
    have hcur4 := N4.keep0 hcur
    have hal := lt_of_block hcur
    have hne : rb ≠ ad.block := fun e => by
      rw [← e, h.cells] at hcur; cases hcur
    have hc5 := M5.keep h4.cells (by simpa using hne)
    refine ⟨Keep.of M5 fun b hb _ hb' => ?_, a, nn, cp, hc5, by rw [eB.1], ⟨a, nn, cp, _, ⟨hc5, hR5, fun q' hq' => ?_⟩, ?_⟩, [ad.block], ?_, ?_⟩
    · simp at hb hb'; omega
    · rcases List.mem_or_eq_of_mem_set hq' with hq' | rfl
      · refine (h4.own q' hq').keep M5 fun k hk cs T hc => ?_
        rw [List.mem_singleton] at hk
        subst hk
        rw [hcur4] at hc; cases hc; decide
      · exact rep0_own _ _
    · rw [beginR, eB.2, ← hxc, put_set (y := ⟨x.c, n, false, rep0⟩) hR hx rfl, List.map_set, hRe]
    · exact (N4.trans M5).less (by simp)
    · intro k hk
      rw [List.mem_singleton] at hk
      subst hk
      exact ⟨⟨_, _, hcur, .inr rfl⟩, hba, .inr ⟨a, nn, cp, h.cells, by rw [had]; simp [rowS]⟩⟩

theorem rDone_ok {w : World} {base rb : Nat} {R : List PLast} {r : PRep} {f p : Sl} (hR : Rise R) (hlen : R.length ≤ 900) (h : RTab w base rb R) (hb : base ≤ w.heap.size) (hrb : base ≤ rb) (c n : Int) (hr : RepAt w r f p) :
    Calls Try.prog 21 #[.pointer (some ⟨rb, 0, none⟩), .int .i64 c, .int .i64 n, r.v f p] w fun e w' => e = .returned (.int .i64 (doneE (loadT R) c n)) ∧ (RTab w' base rb (doneR R c n r) ∧ RMod base rb w w') := by
  obtain ⟨a, nn, cp, ll, h, hRe⟩ := h
  have hll : ll.length ≤ 900 := by rw [← hRe] at hlen; simpa using hlen
  have hnn : nn = ll.length := h.row.1
  have hRl : R.length = ll.length := by rw [← hRe]; simp
  have same : ∀ {w' : World} {k : Int}, doneE (loadT R) c n = k → k ≠ 0 → Mod [] w w' → (Value.int .i64 k = Value.int .i64 (doneE (loadT R) c n) ∧ (RTab w' base rb (doneR R c n r) ∧ RMod base rb w w')) := fun {w'} {k} e1 e2 M => by
    rw [doneR, doneT, if_pos (by rw [e1]; exact e2), e1, listS_loadT hR]
    exact ⟨rfl, ⟨a, nn, cp, ll, h.keep0 M, hRe⟩, RMod.of0 M⟩
  refine go_of (ref15_Table_Done_go h.cells ?_)
  intro b1 f1 w1 A1
  refine (rnumber15_ok c w1).mono ?_
  rintro e w2 ⟨rfl, rfl⟩
  refine ⟨_, rfl, Keep.of0 (Mod.refl _), brB_of (fun g1 => ?_) fun g1 => ?_⟩
  · intro w3 A3 _
    exact same (by rw [doneE, notT g1]; rfl) (by decide) (A1.mod.go0 A3.mod (by simp))
  have g1 := notF g1
  refine (rnumber15_ok n w2).mono ?_
  rintro e w3 ⟨rfl, rfl⟩
  refine ⟨_, rfl, Keep.of0 (Mod.refl _), brB_of (fun g2 => ?_) fun g2 => ?_⟩
  · intro w4 A4 _
    exact same (by rw [doneE, notT g2]; simp) (by decide) (A1.mod.go0 A4.mod (by simp))
  have g2 := notF g2
  intro w4 A4 _
  have N4 := A1.mod.go0 A4.mod (by simp)
  have h4 := h.keep0 N4
  have l1 := A1.lt b1 (by simp)
  have s1 := A1.mod.size
  have s4 := A4.mod.size
  have eE : doneE (loadT R) c n = match lkp (loadT R) c with | none => 151 | some x => if x.n ≠ n then 150 else 0 := by
    rw [doneE, if_neg (by rw [g1, g2]; decide)]; rfl
  refine (rplace_ok hR (by omega) ⟨a, nn, cp, ll, h4, hRe⟩ c).mono ?_
  rintro e w5 ⟨_, rfl, hp, M5⟩
  have h5 := h4.keep0 M5
  have N5 := N4.go0 M5 (by simp)
  have s5 := M5.size
  rcases hp with ⟨rfl, hl⟩ | ⟨i, x, rfl, hx, hxc, hl⟩
  · rw [hl] at eE
    exact ⟨_, rfl, Keep.of0 M5, a, nn, cp, h5.cells, brT (by decide) (same eE (by decide) N5)⟩
  · rw [hl] at eE
    simp only at eE
    refine ⟨_, rfl, Keep.of0 M5, a, nn, cp, h5.cells, brF (decide_eq_false (by omega)) ?_⟩
    have hrows := h5.rows
    rw [hRe] at hrows
    refine RowsAt.ix (s := ⟨a, nn, cp⟩) hrows hx fun f' p' q hq hrep => ldInt_of (x := x.n) (hq 1 _ rfl) ?_
    refine brB_of (fun g3 => ?_) fun g3 => ?_
    · have g3 : x.n ≠ n := by simpa using g3
      rw [if_pos g3] at eE
      exact same eE (by decide) N5
    have g3 : x.n = n := by simpa using g3
    rw [if_neg (by simp [g3])] at eE
    intro w6 A6 _
    have N6 := N5.go0 A6.mod (by simp)
    have s6 := A6.mod.size
    refine (Rreply_ok (r := r) (f := f) (p := p) (hr.keep0 N6)).mono ?_
    rintro e w7 ⟨_, rfl, f', p', rfl, hR7, M7⟩
    have N7 := N6.go0 M7 (by simp)
    have s7 := M7.size
    have h7 := h.keep0 N7
    refine ⟨_, _, _, _, _, _, _, _, _, _, rfl, Keep.of0 M7, a, nn, cp, h7.cells, ?_⟩
    obtain ⟨q, hq⟩ : ∃ q, ll[i]? = some q := ⟨_, List.getElem?_eq_getElem (by have := (List.getElem?_eq_some_iff.1 hx).1; omega)⟩
    refine ⟨rfl, ?_⟩
    refine Row.store (enc := LV.cs) (y := (⟨⟨c, n, true, r⟩, f', p'⟩ : LV)) h7.row LV.cs_len (LV.cs_leaf _) hq fun ad w8 had hR8 M8 => ?_
    obtain ⟨hba, cur, hcur⟩ := h.row.block ad had
    have hcur7 := N7.keep0 hcur
    have hal := lt_of_block hcur
    have hne : rb ≠ ad.block := fun e => by
      rw [← e, h.cells] at hcur; cases hcur
    have hc8 := M8.keep h7.cells (by simpa using hne)
    have hT : ∀ k ∈ [ad.block], ∀ cs T, w7.heap[k]? = some (.cells cs T) → T ≠ 62 ∧ T ≠ 58 := fun k hk cs T hc => by
      rw [List.mem_singleton] at hk
      subst hk
      rw [hcur7] at hc; cases hc; decide
    refine ⟨Keep.of M8 fun b hb _ hb' => ?_, a, nn, cp, hc8, by rw [eE], ⟨a, nn, cp, _, ⟨hc8, hR8, fun q' hq' => ?_⟩, ?_⟩, [ad.block], ?_, ?_⟩
    · simp at hb hb'; omega
    · rcases List.mem_or_eq_of_mem_set hq' with hq' | rfl
      · exact (h7.own q' hq').keep M8 hT
      · exact (hR7.rebase (by omega)).keep M8 hT
    · rw [doneR, doneT, if_neg (by rw [eE]; decide), ← hxc, put_set (y := ⟨x.c, n, true, r⟩) hR hx rfl, List.map_set, hRe]
    · exact (N7.trans M8).less (by simp)
    · intro k hk
      rw [List.mem_singleton] at hk
      subst hk
      exact ⟨⟨_, _, hcur, .inr rfl⟩, hba, .inr ⟨a, nn, cp, h.cells, by rw [had]; simp [rowS]⟩⟩
end Go.Proofs.Ytdgiemnadpkcfaa
