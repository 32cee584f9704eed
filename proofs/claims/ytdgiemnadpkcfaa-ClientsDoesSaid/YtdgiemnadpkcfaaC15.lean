/- The reference's table: place, Ask, Begin, Done. -/
import Derived.Test.YtdgiemnadpkcfaaC12
import Derived.Test.YtdgiemnadpkcfaaC14
namespace Go.Proofs.Ytdgiemnadpkcfaa
open Go Go.RowKit Go.Maps Go.MapKept
set_option linter.unusedVariables false
set_option linter.unusedSimpArgs false

/-! ### what of rows becomes -/
theorem lkp_congr_ask {T T' : Tb} (h : ∀ d, lkp T d = lkp T' d) (c n : Int) : askS T c n = askS T' c n := by
  unfold askS; rw [h]
theorem begin_congr {T T' : Tb} (h : ∀ d, lkp T d = lkp T' d) (hl : T.length = T'.length) (c n : Int) : beginE T c n = beginE T' c n ∧ ∀ d, lkp (beginT T c n) d = lkp (beginT T' c n) d := by
  unfold beginE beginT
  rw [lkp_congr_ask h c n, h, hl]
  refine ⟨rfl, fun d => ?_⟩
  split
  · exact h d
  split
  · exact h d
  split
  · exact h d
  · rw [lkp_put, lkp_put, h]
theorem done_congr {T T' : Tb} (h : ∀ d, lkp T d = lkp T' d) (c n : Int) (r : PRep) : doneE T c n = doneE T' c n ∧ ∀ d, lkp (doneT T c n r) d = lkp (doneT T' c n r) d := by
  have e : doneE T c n = doneE T' c n := by unfold doneE; rw [h]
  refine ⟨e, fun d => ?_⟩
  unfold doneT
  rw [e]
  split
  · exact h d
  · rw [lkp_put, lkp_put, h]
theorem Own.begin {T : Tb} (h : Own T) (c n : Int) : Own (beginT T c n) := by
  rcases begin_cases T c n with e | ⟨e, _⟩
  · rw [e]; exact h
  · rw [e]; exact Own.put (x := ⟨c, n, false, rep0⟩) h
theorem Own.done {T : Tb} (h : Own T) (c n : Int) (r : PRep) : Own (doneT T c n r) := by
  rcases done_cases T c n r with e | ⟨e, _⟩
  · rw [e]; exact h
  · rw [e]; exact Own.put (x := ⟨c, n, true, r⟩) h
theorem listS_congr {T T' : Tb} (h1 : Own T) (h2 : Own T') (h : ∀ d, lkp T d = lkp T' d) : listS T = listS T' :=
  listS_of (listS_rise h2) h1.nd fun c => by rw [listS_lkp h2, h]
def beginR (R : List PLast) (c n : Int) : List PLast := listS (beginT (loadT R) c n)
def doneR (R : List PLast) (c n : Int) (r : PRep) : List PLast := listS (doneT (loadT R) c n r)
theorem beginR_of {T : Tb} (h : Own T) (c n : Int) : beginR (listS T) c n = listS (beginT T c n) ∧ beginE (loadT (listS T)) c n = beginE T c n := by
  have h2 := loadT_own (listS_rise h)
  have e := begin_congr (listS_lkp h) (by simp [loadT, listS_len]) c n
  exact ⟨listS_congr (h2.begin c n) (h.begin c n) e.2, e.1⟩
theorem doneR_of {T : Tb} (h : Own T) (c n : Int) (r : PRep) : doneR (listS T) c n r = listS (doneT T c n r) ∧ doneE (loadT (listS T)) c n = doneE T c n := by
  have h2 := loadT_own (listS_rise h)
  have e := done_congr (listS_lkp h) c n r
  exact ⟨listS_congr (h2.done c n r) (h.done c n r) e.2, e.1⟩
theorem askR_of {T : Tb} (h : Own T) (c n : Int) : askS (loadT (listS T)) c n = askS T c n := lkp_congr_ask (listS_lkp h) c n
theorem Rise.set {R : List PLast} (h : Rise R) {i : Nat} {x y : PLast} (hx : R[i]? = some x) (hy : y.c = x.c) : Rise (R.set i y) := by
  have e : (R.set i y).map (·.c) = R.map (·.c) := by
    rw [List.map_set]
    refine List.ext_getElem? fun j => ?_
    rw [List.getElem?_set]
    split
    · rename_i hj
      subst hj
      have h1 : i < R.length := (List.getElem?_eq_some_iff.1 hx).1
      have h2 : R[i] = x := (List.getElem?_eq_some_iff.1 hx).2
      simp [h1, h2, hy]
    · rfl
  have h3 : (R.map (·.c)).Pairwise (· < ·) := List.pairwise_map.2 h
  rw [← e, List.pairwise_map] at h3
  exact h3
theorem put_set {R : List PLast} (h : Rise R) {i : Nat} {x y : PLast} (hx : R[i]? = some x) (hy : y.c = x.c) : listS (put (loadT R) x.c y) = R.set i y := by
  have e : put (loadT R) x.c y = loadT (R.set i y) := by
    rw [put_of_at (x := x) (j := i) h.nd (by simp [loadT, hx]), loadT, loadT, List.map_set, hy]
  rw [e, listS_loadT (h.set hx hy)]
theorem lkp_app (A B : List PLast) (d : Int) : lkp (loadT (A ++ B)) d = (lkp (loadT A) d).or (lkp (loadT B) d) := by
  induction A with
  | nil => simp [loadT, lkp]
  | cons x r ih =>
    simp only [loadT] at ih
    simp only [loadT, List.cons_append, List.map_cons, lkp]
    split
    · simp
    · exact ih
theorem put_ins {R : List PLast} (h : Rise R) {k : Nat} {x : PLast} (hk : k ≤ R.length) (h1 : ∀ j y, j < k → R[j]? = some y → y.c < x.c) (h2 : ∀ j y, k ≤ j → R[j]? = some y → x.c < y.c) : listS (put (loadT R) x.c x) = R.take k ++ [x] ++ R.drop k := by
  have ht : Rise (R.take k) := h.take
  have hd : Rise (R.drop k) := h.drop
  have m1 : ∀ y ∈ R.take k, y.c < x.c := fun y hy => by
    obtain ⟨j, hj⟩ := List.getElem?_of_mem hy
    rw [List.getElem?_take] at hj
    split at hj
    · exact h1 j y (by assumption) hj
    · cases hj
  have m2 : ∀ y ∈ R.drop k, x.c < y.c := fun y hy => by
    obtain ⟨j, hj⟩ := List.getElem?_of_mem hy
    rw [List.getElem?_drop] at hj
    exact h2 _ y (by omega) hj
  refine listS_of ?_ (put_keys h.nd) fun d => ?_
  · unfold Rise
    rw [List.pairwise_append, List.pairwise_append]
    refine ⟨⟨ht, by simp, fun a ha b hb => ?_⟩, hd, fun a ha b hb => ?_⟩
    · simp at hb; subst hb; exact m1 a ha
    · rcases List.mem_append.1 ha with ha | ha
      · have := m1 a ha; have := m2 b hb; omega
      · simp at ha; subst ha; exact m2 b hb
  · rw [lkp_app, lkp_app, lkp_put]
    have e : lkp (loadT R) d = (lkp (loadT (R.take k)) d).or (lkp (loadT (R.drop k)) d) := by rw [← lkp_app, List.take_append_drop]
    rw [e]
    split
    · rename_i hd'
      subst hd'
      have : lkp (loadT (R.take k)) x.c = none := lkp_none.2 fun p hp => by
        obtain ⟨y, hy, rfl⟩ := List.mem_map.1 hp
        have := m1 y hy; simp only; omega
      rw [this]
      simp [loadT, lkp]
    · rename_i hd'
      have : lkp (loadT [x]) d = none := by simp [loadT, lkp, hd']
      rw [this]
      simp

/-! ### the reference's memory -/
structure RTabL (w : World) (base rb : Nat) (a : Option Addr) (n c : Nat) (ll : List LV) : Prop where
  cells : w.heap[rb]? = some (.cells #[.slice a n c] 56)
  row : Row w base 29 9 LV.cs a n c ll
  own : ∀ q ∈ ll, RepOwn w base q.x.r q.f q.p
theorem RTabL.keep0 {w w' : World} {base rb : Nat} {a : Option Addr} {n c : Nat} {ll : List LV} (h : RTabL w base rb a n c ll) (M : Mod [] w w') : RTabL w' base rb a n c ll :=
  ⟨M.keep0 h.cells, h.row.keep0 M, fun q hq => (h.own q hq).keep0 M⟩
theorem RTabL.rows {w : World} {base rb : Nat} {a : Option Addr} {n c : Nat} {ll : List LV} (h : RTabL w base rb a n c ll) : RowsAt w ⟨a, n, c⟩ (ll.map (·.x)) :=
  ⟨ll, h.row.sl LV.cs_len, fun q hq => (h.own q hq).at, rfl⟩
def RTab (w : World) (base rb : Nat) (R : List PLast) : Prop := ∃ a n c ll, RTabL w base rb a n c ll ∧ ll.map (·.x) = R
theorem RTab.keep0 {w w' : World} {base rb : Nat} {R : List PLast} (h : RTab w base rb R) (M : Mod [] w w') : RTab w' base rb R := by
  obtain ⟨a, n, c, ll, h, rfl⟩ := h; exact ⟨a, n, c, ll, h.keep0 M, rfl⟩
/-- Blocks that are the reference's. -/
def RB (w : World) (k : Nat) : Prop := ∃ cs T, w.heap[k]? = some (.cells cs T) ∧ (T = 56 ∨ T = 29)
theorem RB.of {w w' : World} (M : Mod [] w w') {k : Nat} (hk : k < w.heap.size) (h : RB w' k) : RB w k := by
  obtain ⟨cs, T, h1, h2⟩ := h
  exact ⟨cs, T, by rw [← M.block k hk (by simp)]; exact h1, h2⟩
/-- .. the table's own, or its rows'. -/
def RIn (w : World) (rb k : Nat) : Prop := k = rb ∨ ∃ a n c, w.heap[rb]? = some (.cells #[.slice a n c] 56) ∧ k ∈ rowS a
/-- What the reference wrote. -/
def RMod (base rb : Nat) (w w' : World) : Prop := ∃ S, Mod S w w' ∧ ∀ k ∈ S, RB w k ∧ base ≤ k ∧ RIn w rb k
theorem RMod.of0 {base rb : Nat} {w w' : World} (M : Mod [] w w') : RMod base rb w w' := ⟨[], M, by simp⟩
theorem RMod.new {base rb : Nat} {w0 w w' : World} (M0 : Mod [] w0 w) (M : RMod base rb w w') (hb : w0.heap.size ≤ base) : Mod [] w0 w' := by
  obtain ⟨S, M, hS⟩ := M
  exact M0.go0 M fun k hk => Nat.le_trans hb (hS k hk).2.1
theorem TabAt.keepR {w w' : World} {base base' b m : Nat} {T : Tb} (h : TabAt w base b m T) {rb : Nat} (M : RMod base' rb w w') : TabAt w' base b m T := by
  obtain ⟨S, M, hS⟩ := M
  obtain ⟨L, h, rfl⟩ := h
  refine ⟨L, ⟨M.keep h.cells fun hk => ?_, h.map.of_block (M.block m h.map.lt fun hk => ?_), fun q hq => ⟨(h.own q hq).1, (h.own q hq).2.keep M fun k hk cs T hc => ?_⟩⟩, rfl⟩
  · obtain ⟨cs, T, h1, h2⟩ := (hS _ hk).1
    rw [h.cells] at h1; cases h1
    revert h2; decide
  · obtain ⟨cs, T, h1, h2⟩ := (hS _ hk).1
    obtain ⟨es, cl, hb, _⟩ := h.map
    rw [hb] at h1; cases h1
  · obtain ⟨cs', T', h1, h2⟩ := (hS _ hk).1
    rw [hc] at h1; cases h1
    rcases h2 with rfl | rfl <;> decide
theorem RTabL.keepM {w w' : World} {base rb m : Nat} {a : Option Addr} {n c : Nat} {ll : List LV} (h : RTabL w base rb a n c ll) {es : Array MapEntry} {cl : Nat} (hm : w.heap[m]? = some (.map es cl)) (M : Mod [m] w w') : RTabL w' base rb a n c ll := by
  have ne : ∀ {k : Nat} {cs : Array Value} {T : TypeId}, w.heap[k]? = some (.cells cs T) → k ∉ [m] := fun {k} {cs} {T} hc hk => by
    rw [List.mem_singleton] at hk
    subst hk
    rw [hm] at hc; cases hc
  refine ⟨M.keep h.cells (ne h.cells), h.row.keep M fun ad ha => ?_, fun q hq => (h.own q hq).keep M fun k hk cs T hc => absurd hk (ne hc)⟩
  obtain ⟨_, cur, hc⟩ := h.row.block ad ha
  exact ne hc

theorem rplace_ok {w : World} {base rb : Nat} {R : List PLast} (hR : Rise R) (hl : R.length ≤ 1000) (h : RTab w base rb R) (c : Int) :
    Calls Try.prog 35 #[.pointer (some ⟨rb, 0, none⟩), .int .i64 c] w fun e w' => ∃ v, e = .returned v ∧
      ((v = .int .i64 (-1) ∧ lkp (loadT R) c = none) ∨ ∃ (i : Nat) (x : PLast), v = .int .i64 i ∧ R[i]? = some x ∧ x.c = c ∧ lkp (loadT R) c = some x) ∧ Mod [] w w' := by
  obtain ⟨a, n, cp, ll, h, rfl⟩ := h
  refine ref15_Table_place_go h.cells ?_
  have hn : n = ll.length := h.row.1
  have hl : ll.length ≤ 1000 := by simpa using hl
  refine ref15_Table_place_rule1 (fun mm x w' => ∃ k : Nat, x = k ∧ k ≤ ll.length ∧ lkp (loadT ((ll.map (·.x)).take k)) c = none ∧ Mod [] w w' ∧ mm = ll.length - k) ll.length ⟨0, rfl, by omega, rfl, Mod.refl _, rfl⟩ ?_
  rintro mm x w1 ⟨k, rfl, hk, hnone, M1, rfl⟩
  have h1 := h.keep0 M1
  refine brB_dec (fun hlt => ?_) fun hge => ?_
  · obtain ⟨q, hq⟩ : ∃ q, ll[k]? = some q := ⟨_, List.getElem?_eq_getElem (by omega)⟩
    have hx : (ll.map (·.x))[k]? = some q.x := by rw [List.getElem?_map, hq]; rfl
    refine (h1.row.sl LV.cs_len).ix hq fun ad ha => ldInt_of (x := q.x.c) (by simpa [add_zero] using ha 0 _ rfl) ?_
    refine brB_of (fun g => ?_) fun g => ?_
    · intro w2 A2 _
      have g : q.x.c = c := by simpa using g
      exact ⟨.inr ⟨k, q.x, rfl, hx, g, by rw [← g]; exact hR.lkp (List.mem_of_getElem? hx)⟩, M1.go0 A2.mod (by simp)⟩
    · have g : ¬ q.x.c = c := by simpa using g
      refine ref15_Table_place_leaf1 (ll.length - (k + 1)) (by omega) ⟨k + 1, by rw [wrap_id (by omega) (by omega)]; omega, by omega, ?_, M1, rfl⟩
      rw [List.take_add_one, hx, lkp_app, hnone]
      simp [loadT, lkp, g]
  · have hk' : k = ll.length := by omega
    subst hk'
    rw [List.take_of_length_le (by simp)] at hnone
    intro w2 A2 _
    exact ⟨.inl ⟨rfl, hnone⟩, M1.go0 A2.mod (by simp)⟩
theorem rAsk_ok {w : World} {base rb : Nat} {R : List PLast} (hR : Rise R) (hlen : R.length ≤ 1000) (h : RTab w base rb R) (c n : Int) :
    Calls Try.prog 23 #[.pointer (some ⟨rb, 0, none⟩), .int .i64 c, .int .i64 n] w fun e w' => ∃ v, e = .returned v ∧
      ∃ f p, v = .tuple #[.int .i64 (askS (loadT R) c n).1, (askS (loadT R) c n).2.1.v f p, .int .i64 (askS (loadT R) c n).2.2] ∧ RepOwn w' w.heap.size (askS (loadT R) c n).2.1 f p ∧ Mod [] w w' := by
  obtain ⟨a, nn, cp, ll, h, hRe⟩ := h
  refine ref15_Table_Ask_go h.cells ?_
  intro b1 f1 w1 A1
  have fin : ∀ {k : Int × Int} {w' : World}, askS (loadT R) c n = (k.1, rep0, k.2) → Mod [] w w' → ∃ f p, Value.tuple #[.int .i64 k.1, .agg #[.int .i64 0, .int .i64 0, .int .i64 0, .int .i64 0, .slice none 0 0, .slice none 0 0], .int .i64 k.2] = .tuple #[.int .i64 (askS (loadT R) c n).1, (askS (loadT R) c n).2.1.v f p, .int .i64 (askS (loadT R) c n).2.2] ∧ RepOwn w' w.heap.size (askS (loadT R) c n).2.1 f p ∧ Mod [] w w' := fun {k} {w'} e M => by
    rw [e]; exact ⟨sl0, sl0, rfl, rep0_own _ _, M⟩
  refine (rnumber15_ok c w1).mono ?_
  rintro e w2 ⟨rfl, rfl⟩
  refine ⟨_, rfl, Keep.of0 (Mod.refl _), brB_of (fun g1 => ?_) fun g1 => ?_⟩
  · intro w3 A3 _
    exact fin (k := (0, 1)) (askS_bad (by rw [notT g1]; rfl)) (A1.mod.go0 A3.mod (by simpa using f1))
  have g1 := notF g1
  refine (rnumber15_ok n w2).mono ?_
  rintro e w3 ⟨rfl, rfl⟩
  refine ⟨_, rfl, Keep.of0 (Mod.refl _), brB_of (fun g2 => ?_) fun g2 => ?_⟩
  · intro w4 A4 _
    exact fin (k := (0, 1)) (askS_bad (by rw [notT g2]; simp)) (A1.mod.go0 A4.mod (by simpa using f1))
  have g2 := notF g2
  intro w4 A4 _
  have N4 := A1.mod.go0 A4.mod (by simp)
  have h4 := h.keep0 N4
  refine (rplace_ok hR hlen ⟨a, nn, cp, ll, h4, hRe⟩ c).mono ?_
  rintro e w5 ⟨_, rfl, hp, M5⟩
  have h5 := h4.keep0 M5
  have N5 := N4.go0 M5 (by simp)
  have l1 := A1.lt b1 (by simp)
  have s1 := A1.mod.size
  have s4 := A4.mod.size
  have s5 := M5.size
  rcases hp with ⟨rfl, hl⟩ | ⟨i, x, rfl, hx, hxc, hl⟩
  · refine ⟨_, rfl, Keep.of0 M5, a, nn, cp, h5.cells, brT (by decide) ?_⟩
    intro w6 A6 _
    exact fin (k := (0, 0)) (askS_none g1 g2 hl) (N5.go0 A6.mod (by simpa using f1))
  · refine ⟨_, rfl, Keep.of0 M5, a, nn, cp, h5.cells, brF (decide_eq_false (by omega)) ?_⟩
    have hrows := h5.rows
    rw [hRe] at hrows
    refine RowsAt.ix (s := ⟨a, nn, cp⟩) hrows hx fun f p q hq hrep => ldInt_of (x := x.n) (hq 1 _ rfl) ?_
    refine brB_dec (fun g3 => ?_) fun g3 => ?_
    · intro w6 A6 _
      exact fin (k := (0, 0)) (askS_gt g1 g2 hl g3) (N5.go0 A6.mod (by simpa using f1))
    refine RowsAt.ix (s := ⟨a, nn, cp⟩) hrows hx fun f p q hq hrep => ldInt_of (x := x.n) (hq 1 _ rfl) ?_
    refine brB_dec (fun g4 => ?_) fun g4 => ?_
    · intro w6 A6 _
      exact fin (k := (0, 150)) (askS_lt g1 g2 hl g4) (N5.go0 A6.mod (by simpa using f1))
    refine RowsAt.ix (s := ⟨a, nn, cp⟩) hrows hx fun f p q hq hrep => ldBool_of (x := x.done) (hq 2 _ rfl) ?_
    refine brB_of (fun g5 => ?_) fun g5 => ?_
    · refine RowsAt.ix (s := ⟨a, nn, cp⟩) hrows hx fun f p q hq hrep => ldInt_of (hq 3 _ rfl) (ldInt_of (by rw [add_add]; exact hq 4 _ rfl) (ldInt_of (by rw [add_add]; exact hq 5 _ rfl) (ldInt_of (by rw [add_add]; exact hq 6 _ rfl) (ldSlice_of (by rw [add_add]; exact hq 7 _ rfl) (ldSlice_of (by rw [add_add]; exact hq 8 _ rfl) ?_)))))
      refine (Rreply_ok (r := x.r) (f := f) (p := p) hrep).mono ?_
      rintro e w6 ⟨_, rfl, f', p', rfl, hR6, M6⟩
      have s6 := M6.size
      have h6 := h5.keep0 M6
      refine ⟨_, _, _, _, _, _, _, _, _, _, rfl, Keep.of0 M6, a, nn, cp, h6.cells, ?_⟩
      intro w7 A7 _
      rw [askS_again g1 g2 hl (by omega) g5]
      refine ⟨f', p', rfl, ?_, (N5.go0 M6 (by simp)).go0 A7.mod (by simpa using f1)⟩
      refine ⟨(hR6.found.keep A7.mod fun ad ha hk => ?_).rebase (by omega), (hR6.parts.keep A7.mod fun ad ha hk => ?_).rebase (by omega), hR6.lf, hR6.lp⟩
      · have := hR6.found.base ad ha; simp at hk; omega
      · have := hR6.parts.base ad ha; simp at hk; omega
    · intro w6 A6 _
      exact fin (k := (2, 0)) (askS_still g1 g2 hl (by omega) g5) (N5.go0 A6.mod (by simpa using f1))
end Go.Proofs.Ytdgiemnadpkcfaa
