/- ClientsDoes, walked. -/
import Derived.Test.YtdgiemnadpkcfaaC19
import Derived.Test.YtdgiemnadpkcfaaGenC7
namespace Go.Proofs.Ytdgiemnadpkcfaa
open Go Go.RowKit Go.Maps Go.MapKept
set_option linter.unusedVariables false
set_option linter.unusedSimpArgs false

/-- Lists of partitions that may be spoilt. -/
def PartsRaw (w : World) (B : Nat) (a : Option Addr) (n : Nat) : Prop := n = 0 ∨ ∃ g cap cur, a = some ⟨g, 0, none⟩ ∧ B ≤ g ∧ w.heap[g]? = some (.cells cur 58) ∧ n ≤ cap ∧ cur.size = cap * 2
theorem Row.raw {w : World} {B : Nat} {a : Option Addr} {n c : Nat} {l : List PPart} (h : Row w B 58 2 encP a n c l) : PartsRaw w B a n := by
  obtain ⟨hn, hl, ho⟩ := h
  rcases ho with ⟨ho, h0⟩ | ⟨g, cap, cur, hv, hb, hg, hnc, hcm, hsz, _⟩
  · exact .inl h0
  · simp only [Value.slice.injEq] at hv
    obtain ⟨rfl, _, rfl⟩ := hv
    exact .inr ⟨g, c, cur, rfl, hb, hg, hnc, hsz⟩
theorem PartsRaw.keep0 {w w' : World} {B : Nat} {a : Option Addr} {n : Nat} (h : PartsRaw w B a n) (M : Mod [] w w') : PartsRaw w' B a n := by
  rcases h with h | ⟨g, cap, cur, h1, h2, h3, h4, h5⟩
  · exact .inl h
  · exact .inr ⟨g, cap, cur, h1, h2, M.keep0 h3, h4, h5⟩
theorem PartsRaw.write {w : World} {B j : Nat} {a : Option Addr} {n : Nat} {F : World → Prop} (h : PartsRaw w B a n) (hj : j < n)
    (hF : ∀ g w', B ≤ g → (∃ cur, w.heap[g]? = some (.cells cur 58)) → Mod [g] w w' → (∀ a' n', PartsRaw w B a' n' → PartsRaw w' B a' n') → F w') : ixA a n (j : Int) 2 fun q => st w (Addr.add q 1) [.int .i64 99] F := by
  rcases h with h | ⟨g, cap, cur, rfl, h2, h3, h4, h5⟩
  · omega
  · refine ⟨_, rfl, by omega, by omega, ?_⟩
    have ea : (Addr.add (Addr.add ⟨g, 0, none⟩ ((j : Int).toNat * 2)) 1) = ⟨g, j * 2 + 1, none⟩ := by
      rw [add_add, Int.toNat_natCast]; unfold Addr.add; split <;> simp_all
    show st _ (Addr.add (Addr.add _ _) 1) _ _
    rw [ea]
    refine st_of h3 rfl (by simp; omega) fun w' hc M => hF g w' h2 ⟨cur, h3⟩ M fun a' n' hp => ?_
    rcases hp with hp | ⟨g', cap', cur', rfl, k2, k3, k4, k5⟩
    · exact .inl hp
    · by_cases e : g' = g
      · subst e
        rw [h3] at k3; cases k3
        exact .inr ⟨g', cap', _, rfl, k2, hc, k4, by rw [size_setFrom]; exact k5⟩
      · exact .inr ⟨g', cap', cur', rfl, k2, M.keep k3 (by simpa using e), k4, k5⟩

theorem begin_len {T : Tb} (h : T.length ≤ 16) (c n : Int) : (beginT T c n).length ≤ 16 := by
  rcases begin_cases T c n with e | ⟨e, _, _, h3⟩
  · rw [e]; exact h
  · rw [e, put_len]
    split
    · rename_i hl; have := h3 hl; omega
    · exact h
theorem done_len {T : Tb} (h : T.length ≤ 16) (c n : Int) (r : PRep) : (doneT T c n r).length ≤ 16 := by
  rcases done_cases T c n r with e | ⟨e, _, _, h3⟩
  · rw [e]; exact h
  · rw [e, put_len, if_neg h3]; exact h
structure BothT (w0 : World) (b m rb : Nat) (T : Tb) (w : World) : Prop where
  tab : TabAt w w0.heap.size b m T
  own : Own T
  len : T.length ≤ 16
  ref : RTab w w0.heap.size rb (listS T)
  mod : Mod [] w0 w
  lt : m < w.heap.size
  le : w0.heap.size ≤ m
  rle : w0.heap.size ≤ rb
theorem BothT.m0 {w0 w1 w2 : World} {b m rb : Nat} {T : Tb} (h : BothT w0 b m rb T w1) (M : Mod [] w1 w2) : BothT w0 b m rb T w2 :=
  ⟨h.tab.keep0 M, h.own, h.len, h.ref.keep0 M, h.mod.go0 M (by simp), Nat.lt_of_lt_of_le h.lt M.size, h.le, h.rle⟩
theorem BothT.rise {w0 w1 : World} {b m rb : Nat} {T : Tb} (h : BothT w0 b m rb T w1) : Rise (listS T) := listS_rise h.own
theorem BothT.slen {w0 w1 : World} {b m rb : Nat} {T : Tb} (h : BothT w0 b m rb T w1) : (listS T).length ≤ 16 := by rw [listS_len]; exact h.len
/-- The table was written: the reference's rows stand as they stood. -/
theorem BothT.refM {w0 w1 w2 : World} {b m rb : Nat} {T : Tb} (h : BothT w0 b m rb T w1) (M : Mod [m] w1 w2) {a : Option Addr} {n c : Nat} {ll : List LV} (hr : RTabL w1 w0.heap.size rb a n c ll) : RTabL w2 w0.heap.size rb a n c ll := by
  obtain ⟨L, hL, _⟩ := h.tab
  obtain ⟨es, cl, hb, _⟩ := hL.map
  exact hr.keepM hb M
/-- The reference's blocks are older than others. -/
theorem RMod.keep {w0 w1 w2 w3 : World} {base rb : Nat} {a : Option Addr} {n c : Nat} {ll : List LV} (h1 : RTabL w1 base rb a n c ll) (h2 : RTabL w2 base rb a n c ll) (M : RMod base rb w2 w3) {bs : List Nat} (hb : ∀ b ∈ bs, w1.heap.size ≤ b) : Keep bs w2 w3 := by
  obtain ⟨S, M, hS⟩ := M
  refine Keep.of M fun b hb' _ hk => ?_
  have h3 := hb b hb'
  obtain ⟨_, _, hin⟩ := hS b hk
  rcases hin with rfl | ⟨a', n', c', hc, hk'⟩
  · have := lt_of_block h1.cells; omega
  · rw [h2.cells] at hc; cases hc
    cases a with
    | none => simp [rowS] at hk'
    | some ad =>
      simp [rowS] at hk'
      obtain ⟨_, cur, hcur⟩ := h1.row.block ad rfl
      have := lt_of_block hcur
      omega
theorem BothT.begin {w0 w1 w2 w3 : World} {b m rb : Nat} {T : Tb} (h : BothT w0 b m rb T w1) {c n : Int} (hT : TabAt w2 w0.heap.size b m (beginT T c n)) (M : Mod [m] w1 w2) (hr : RTab w3 w0.heap.size rb (beginR (listS T) c n)) (hM : RMod w0.heap.size rb w2 w3) : BothT w0 b m rb (beginT T c n) w3 := by
  have N := h.mod.go0 M (by simpa using h.le)
  refine ⟨hT.keepR hM, h.own.begin c n, begin_len h.len c n, by rw [← (beginR_of h.own c n).1]; exact hr, hM.new N (Nat.le_refl _), ?_, h.le, h.rle⟩
  obtain ⟨S, hM, _⟩ := hM
  have := h.lt; have := M.size; have := hM.size; omega
theorem BothT.done {w0 w1 w2 w3 : World} {b m rb : Nat} {T : Tb} (h : BothT w0 b m rb T w1) {c n : Int} {r : PRep} (hT : TabAt w2 w0.heap.size b m (doneT T c n r)) (M : Mod [m] w1 w2) (hr : RTab w3 w0.heap.size rb (doneR (listS T) c n r)) (hM : RMod w0.heap.size rb w2 w3) : BothT w0 b m rb (doneT T c n r) w3 := by
  have N := h.mod.go0 M (by simpa using h.le)
  refine ⟨hT.keepR hM, h.own.done c n r, done_len h.len c n r, by rw [← (doneR_of h.own c n r).1]; exact hr, hM.new N (Nat.le_refl _), ?_, h.le, h.rle⟩
  obtain ⟨S, hM, _⟩ := hM
  have := h.lt; have := M.size; have := hM.size; omega

abbrev RT (w0 : World) : Value → World → Prop := fun v w' => v = .bool true ∧ Mod [] w0 w'
/-- The rows of a list, its replies' partitions spoilt or not. -/
structure RawRows (w : World) (B : Nat) (s : Sl) (ll : List LV) : Prop where
  sl : SlAt w 9 LV.cs s.a s.n ll
  blk : ∀ ad, s.a = some ad → ∃ cur, w.heap[ad.block]? = some (.cells cur 29)
  raw : ∀ q ∈ ll, PartsRaw w B q.p.a q.p.n
set_option maxHeartbeats 2000000 in
theorem Does_C2 {w0 w : World} {b m rb : Nat} {T : Tb} {a_0 : Option Addr} {n_0 : Nat} {c_0 : Nat} {p_3 : Option Addr} {x_5 : Int} {x_8 : Int} {x_9 : Int} {bm0 : Nat} {a_m0_0 : Option Addr} {n_m0_0 : Nat} {c_m0_0 : Nat} {bm1 : Nat} {x_m1_0 : Int} {x_m1_1 : Int} {x_m1_2 : Int} {x_m1_3 : Int} {x_m1_4 : Int} {x_m1_5 : Int} {x_m1_6 : Int} {a_m1_7 : Option Addr} {n_m1_7 : Nat} {c_m1_7 : Nat} {a_m1_8 : Option Addr} {n_m1_8 : Nat} {c_m1_8 : Nat} {bm2 : Nat} {x_m2_0 : Int} {x_m2_1 : Int} {x_m2_2 : Int} {x_m2_3 : Int} {a_m2_4 : Option Addr} {n_m2_4 : Nat} {c_m2_4 : Nat} {a_m2_5 : Option Addr} {n_m2_5 : Nat} {c_m2_5 : Nat} {K1 : Kh} (hB : BothT w0 b m rb T w) (hp : p_3 = some ⟨b, 0, none⟩) (hrb : bm0 = rb) (hx : x_8 = x_9) (h1 : bm1 < w.heap.size) (h2 : bm2 < w.heap.size)
    (hK : ∀ a n c w', BothT w0 b m rb T w' → K1 (law15_ClientsDoes_v1 a_0 n_0 c_0 bm0 p_3 (IntKind.wrap .i64 (x_5 + 1))) (law15_ClientsDoes_m1 bm0 a n c) w') :
    law15_ClientsDoes_C2 a_0 n_0 c_0 p_3 x_5 x_8 x_9 bm0 a_m0_0 n_m0_0 c_m0_0 bm1 x_m1_0 x_m1_1 x_m1_2 x_m1_3 x_m1_4 x_m1_5 x_m1_6 a_m1_7 n_m1_7 c_m1_7 a_m1_8 n_m1_8 c_m1_8 bm2 x_m2_0 x_m2_1 x_m2_2 x_m2_3 a_m2_4 n_m2_4 c_m2_4 a_m2_5 n_m2_5 c_m2_5 K1 (RT w0) w := by
  subst hp hrb hx
  intro hc
  refine law15_ClientsDoes_rule3 (fun mm x w' => ∃ k : Nat, x = k ∧ k ≤ 2 ∧ BothT w0 b m bm0 T w' ∧ Mod [] w w' ∧ mm = 2 - k) 2 ⟨0, rfl, by omega, hB, Mod.refl _, rfl⟩ ?_
  rintro mm x w3 ⟨k, rfl, hk, hB3, M3, rfl⟩
  intro hc3
  have s3 := M3.size
  refine brB_dec (fun hlt => ?_) fun hge => ?_
  · refine (Ask_ok (c := x_m1_1) (n := x_m1_2) hB3.tab).mono ?_
    rintro e w4 ⟨_, rfl, f4, p4, rfl, R4, M4⟩
    have s4 := M4.size
    refine ⟨_, _, _, _, _, _, _, _, _, _, _, _, rfl, Keep.of0 M4, _, _, _, M4.keep0 hc3, ?_⟩
    intro b5 f5 w5 A5 hc5
    have N5 : Mod [] w3 w5 := M4.go0 A5.mod (by simp)
    have hB5 := hB3.m0 N5
    refine (rAsk_ok hB5.rise (by have := hB5.slen; omega) hB5.ref x_m1_1 x_m1_2).mono ?_
    rintro e w6 ⟨_, rfl, f6, p6, rfl, R6, M6⟩
    rw [askR_of hB5.own] at R6
    rw [askR_of hB5.own]
    have s5 := A5.mod.size
    have s6 := M6.size
    refine ⟨_, _, _, _, _, _, _, _, _, _, _, _, rfl, Keep.of0 M6, _, _, _, M6.keep0 hc5, ?_⟩
    intro b7 f7
    refine brF (by simp) ?_
    intro w7 A7 hc7
    have N7 : Mod [] w3 w7 := (N5.go0 M6 (by simp)).go0 A7.mod (by simp)
    have R7 := ((R4.at.keep0 A5.mod).keep0 M6).keep0 A7.mod
    refine (RAlike_ok R7 (R6.at.keep0 A7.mod)).mono ?_
    rintro e w8 ⟨rfl, M8⟩
    have N8 := N7.go0 M8 (by simp)
    have s7 := A7.mod.size
    have s8 := M8.size
    refine ⟨_, rfl, Keep.of0 M8, _, _, _, M8.keep0 hc7, brF (by simp) (brF (by simp) ?_)⟩
    have hpn : p4.n ≤ 1000000 := by have := R4.parts.1; have := R4.lp; omega
    have raw8 : PartsRaw w8 w3.heap.size p4.a p4.n := ((((R4.parts.raw).keep0 A5.mod).keep0 M6).keep0 A7.mod).keep0 M8
    have gl : ∀ g, w3.heap.size ≤ g → p4.a = some ⟨g, 0, none⟩ → g < w4.heap.size := fun g _ hg => by
      obtain ⟨_, cur, hcur⟩ := R4.parts.block _ hg
      exact lt_of_block hcur
    refine law15_ClientsDoes_rule4 (fun mm x an nn cn w' => ∃ j : Nat, x = j ∧ j ≤ p4.n ∧ an = a_m0_0 ∧ nn = n_m0_0 ∧ cn = c_m0_0 ∧ Mod [] w3 w' ∧ w8.heap.size ≤ w'.heap.size ∧ PartsRaw w' w3.heap.size p4.a p4.n ∧ mm = p4.n - j) p4.n ⟨0, rfl, by omega, rfl, rfl, rfl, N8, Nat.le_refl _, raw8, rfl⟩ ?_
    rintro mm x an nn cn w9 ⟨j, rfl, hj, rfl, rfl, rfl, N9, s9, raw9, rfl⟩
    intro hc9
    refine brB_dec (fun hlt2 => ?_) fun hge2 => ?_
    · have hg9 : ∀ g, p4.a = some ⟨g, 0, none⟩ → w3.heap.size ≤ g ∧ g < w4.heap.size := fun g hg => by
        obtain ⟨hb, cur, hcur⟩ := R4.parts.block _ hg
        exact ⟨hb, lt_of_block hcur⟩
      have hlt3 : j < p4.n := by omega
      have hga : ∃ g, p4.a = some ⟨g, 0, none⟩ := by
        rcases raw9 with h | ⟨g, _, _, h, _⟩
        · omega
        · exact ⟨g, h⟩
      obtain ⟨g0, hg0⟩ := hga
      obtain ⟨hg1, hg2⟩ := hg9 g0 hg0
      have hrl := lt_of_block hc3
      rcases raw9 with h | ⟨g, cap, cur, hg, k2, k3, k4, k5⟩
      · omega
      have eg : g = g0 := by rw [hg] at hg0; simpa using hg0
      subst eg
      have raw9 : PartsRaw w9 w3.heap.size p4.a p4.n := .inr ⟨g, cap, cur, hg, k2, k3, k4, k5⟩
      refine ⟨⟨g, 0, none⟩, hg, by omega, by omega, ?_⟩
      have ea : (Addr.add (Addr.add ⟨g, 0, none⟩ ((j : Int).toNat * 2)) 1) = ⟨g, j * 2 + 1, none⟩ := by
        rw [add_add, Int.toNat_natCast]; unfold Addr.add; split <;> simp_all
      show st _ (Addr.add (Addr.add _ _) 1) _ _
      rw [ea]
      refine st_of k3 rfl (by simp; omega) fun w10 hc10 M10 => ?_
      refine ⟨Keep.of M10 fun y hy _ hy' => ?_, _, _, _, M10.keep hc9 (by simp; omega), ?_⟩
      · simp at hy hy'; omega
      · exact law15_ClientsDoes_leaf4 (p4.n - (j + 1)) (by omega) ⟨j + 1, by rw [wrap_id (by omega) (by omega)]; omega, by omega, rfl, rfl, rfl, N9.go0 M10 (by simp; omega), by have := M10.size; omega, .inr ⟨g, cap, _, hg, k2, hc10, k4, by rw [size_setFrom]; exact k5⟩, rfl⟩
    · exact law15_ClientsDoes_leaf3 (2 - (k + 1)) (by omega) ⟨k + 1, by rw [wrap_id (by omega) (by omega)]; omega, by omega, hB3.m0 N9, M3.go0 N9 (by simp), rfl⟩
  · refine (List_ok hB3.tab (by have := hB3.len; omega)).mono ?_
    rintro e w4 ⟨_, rfl, s, rfl, hL, M4⟩
    refine ⟨_, _, _, rfl, Keep.of0 M4, _, _, _, M4.keep0 hc3, brF (by simp) ?_⟩
    have hB4 := hB3.m0 M4
    have hc4 := M4.keep0 hc3
    have hrows : RowsAt w4 ⟨a_m0_0, n_m0_0, c_m0_0⟩ (listS T) := by
      obtain ⟨a', n', c', ll', hr, hrl⟩ := hB4.ref
      have := hr.cells
      rw [hc4] at this
      simp only [Option.some.injEq, Obj.cells.injEq] at this
      have e : a_m0_0 = a' ∧ n_m0_0 = n' ∧ c_m0_0 = c' := by simpa using this
      obtain ⟨rfl, rfl, rfl⟩ := e
      rw [← hrl]; exact hr.rows
    refine (Same_ok (t := ⟨a_m0_0, n_m0_0, c_m0_0⟩) hL.at hrows (by have := hB4.slen; omega)).mono ?_
    rintro e w5 ⟨rfl, M5⟩
    refine ⟨_, rfl, Keep.of0 M5, _, _, _, M5.keep0 hc4, brF (by simp) ?_⟩
    have N5 : Mod [] w3 w5 := M4.go0 M5 (by simp)
    obtain ⟨ll, hRow, hOwn, _⟩ := hL
    have s4 := M4.size
    have s5 := M5.size
    have hll : ll.length = s.n := hRow.1.symm
    have hpn : ∀ q ∈ ll, q.p.n ≤ 1000000 := fun q hq => by have h := hOwn q hq; have := h.parts.1; have := h.lp; omega
    have hgl : ∀ q ∈ ll, ∀ g, q.p.a = some ⟨g, 0, none⟩ → w3.heap.size ≤ g ∧ g < w4.heap.size := fun q hq g hg => by
      obtain ⟨hb, cur, hcur⟩ := (hOwn q hq).parts.block _ hg
      exact ⟨hb, lt_of_block hcur⟩
    have hraw : RawRows w5 w3.heap.size s ll := ⟨(hRow.sl LV.cs_len).keep0 M5, fun ad ha => by obtain ⟨_, cur, hcur⟩ := hRow.block ad ha; exact ⟨cur, M5.keep0 hcur⟩, fun q hq => ((hOwn q hq).parts.raw).keep0 M5⟩
    have hsn : s.n ≤ 1000000 := by
      have h16 := hB4.slen
      have hx : ll.length = (listS T).length := by
        have := congrArg List.length ‹ll.map (·.x) = listS T›
        simpa using this
      omega
    refine law15_ClientsDoes_rule5 (fun mm x w' => ∃ j : Nat, x = j ∧ j ≤ ll.length ∧ Mod [] w3 w' ∧ w5.heap.size ≤ w'.heap.size ∧ RawRows w' w3.heap.size s ll ∧ mm = ll.length - j) ll.length ⟨0, rfl, by omega, N5, Nat.le_refl _, hraw, rfl⟩ ?_
    rintro mm x w6 ⟨j, rfl, hj, N6, s6, raw6, rfl⟩
    intro hc6
    refine brB_dec (fun hlt2 => ?_) fun hge2 => ?_
    · obtain ⟨q, hq⟩ : ∃ q, ll[j]? = some q := ⟨_, List.getElem?_eq_getElem (by omega)⟩
      have hqm := List.mem_of_getElem? hq
      have hqn := hpn q hqm
      refine law15_ClientsDoes_rule6 (fun mm x an nn cn w' => ∃ i : Nat, x = i ∧ i ≤ q.p.n ∧ an = a_m0_0 ∧ nn = n_m0_0 ∧ cn = c_m0_0 ∧ Mod [] w3 w' ∧ w5.heap.size ≤ w'.heap.size ∧ RawRows w' w3.heap.size s ll ∧ mm = q.p.n - i) q.p.n ⟨0, rfl, by omega, rfl, rfl, rfl, N6, s6, raw6, rfl⟩ ?_
      rintro mm x an nn cn w7 ⟨i, rfl, hi, rfl, rfl, rfl, N7, s7, raw7, rfl⟩
      intro hc7
      refine raw7.sl.ix hq fun ad ha => ldSlice_of (by rw [add_add]; exact ha 8 _ rfl) ?_
      refine brB_dec (fun hlt3 => ?_) fun hge3 => ?_
      · refine raw7.sl.ix hq fun ad ha => ldSlice_of (by rw [add_add]; exact ha 8 _ rfl) ?_
        have hrl := lt_of_block hc3
        have hga : ∃ g, q.p.a = some ⟨g, 0, none⟩ := by
          rcases raw7.raw q hqm with h | ⟨g, _, _, h, _⟩
          · omega
          · exact ⟨g, h⟩
        obtain ⟨g0, hg0⟩ := hga
        obtain ⟨hg1, hg2⟩ := hgl q hqm g0 hg0
        rcases raw7.raw q hqm with h | ⟨g, cap, cur, hg, k2, k3, k4, k5⟩
        · omega
        have eg : g = g0 := by rw [hg] at hg0; simpa using hg0
        subst eg
        refine ⟨⟨g, 0, none⟩, hg, by omega, by omega, ?_⟩
        have ea : (Addr.add (Addr.add ⟨g, 0, none⟩ ((i : Int).toNat * 2)) 1) = ⟨g, i * 2 + 1, none⟩ := by
          rw [add_add, Int.toNat_natCast]; unfold Addr.add; split <;> simp_all
        show st _ (Addr.add (Addr.add _ _) 1) _ _
        rw [ea]
        refine st_of k3 rfl (by simp; omega) fun w8 hc8 M8 => ?_
        refine ⟨Keep.of M8 fun y hy _ hy' => ?_, _, _, _, M8.keep hc7 (by simp; omega), ?_⟩
        · simp at hy hy'; omega
        · have raw8 : RawRows w8 w3.heap.size s ll := by
            refine ⟨raw7.sl.keep M8 fun ad ha hk => ?_, fun ad ha => ?_, fun q' hq' => ?_⟩
            · obtain ⟨cur', hcur'⟩ := raw7.blk ad ha
              rw [List.mem_singleton] at hk
              rw [hk, k3] at hcur'; cases hcur'
            · obtain ⟨cur', hcur'⟩ := raw7.blk ad ha
              refine ⟨cur', M8.keep hcur' fun hk => ?_⟩
              rw [List.mem_singleton] at hk
              rw [hk, k3] at hcur'; cases hcur'
            · rcases raw7.raw q' hq' with h | ⟨g', cap', cur', e1, e2, e3, e4, e5⟩
              · exact .inl h
              · by_cases e : g' = g
                · subst e
                  rw [k3] at e3; cases e3
                  exact .inr ⟨g', cap', _, e1, e2, hc8, e4, by rw [size_setFrom]; exact e5⟩
                · exact .inr ⟨g', cap', cur', e1, e2, M8.keep e3 (by simpa using e), e4, e5⟩
          exact law15_ClientsDoes_leaf6 (q.p.n - (i + 1)) (by omega) ⟨i + 1, by rw [wrap_id (by omega) (by omega)]; omega, by omega, rfl, rfl, rfl, N7.go0 M8 (by simp; omega), by have := M8.size; omega, raw8, rfl⟩
      · exact law15_ClientsDoes_leaf5 (ll.length - (j + 1)) (by omega) ⟨j + 1, by rw [wrap_id (by omega) (by omega)]; omega, by omega, N7, s7, raw7, rfl⟩
    · exact hK _ _ _ _ (hB3.m0 N6)

set_option maxHeartbeats 2000000 in
theorem Does_ok {a : Option Addr} {ln cp : Nat} {l : List Op15} {w : World} (hS : SlAt w 9 encO a ln l) (hB : ∀ x ∈ l, i64B x.c ∧ i64B x.n ∧ RepRd w x.r x.f x.p) :
    Calls Try.prog 8 #[.slice a ln cp] w fun e w' => e = .returned (.bool true) ∧ Mod [] w w' := by
  refine go_of (law15_ClientsDoes_go ?_)
  have hn := hS.1
  refine (New_ok w).mono ?_
  rintro e w1 ⟨_, rfl, b, m, rfl, hT, M1, hb, hm⟩
  refine ⟨_, rfl, ?_⟩
  intro rb frb
  refine brF rfl ?_
  intro w2 A2 hc2
  have hml := hT.map.lt
  have s1 := M1.size
  have s2 := A2.mod.size
  have B2 : BothT w b m rb [] w2 := ⟨⟨[], hT.keep0 A2.mod, rfl⟩, own_nil, by simp, ⟨none, 0, 0, [], ⟨hc2, Row.nil .., by simp⟩, by simp [listS, sortK]⟩, M1.go0 A2.mod (by simp), by omega, hm, by omega⟩
  refine law15_ClientsDoes_rule1 (fun mm p x an nn cn w' => ∃ (i b m : Nat) (T : Tb), x = i ∧ i ≤ 80 ∧ p = some ⟨b, 0, none⟩ ∧ BothT w b m rb T w' ∧ mm = 80 - i) 80 ⟨0, b, m, [], rfl, by omega, rfl, B2, rfl⟩ ?_
  rintro mm p x an nn cn w3 ⟨i, b, m, T, rfl, hi, rfl, B3, rfl⟩
  intro hc3
  have fin : ∀ {w4 : World}, Mod [] w w4 → w4.heap[rb]? = some (.cells #[.slice an nn cn] 56) → Calls Try.prog 14 #[] w4 fun e w5 => ∃ t : Bool, e = .returned (.bool t) ∧ ∃ (a : Option Addr) (n c : Nat), w5.heap[rb]? = some (.cells #[.slice a n c] 56) ∧ RT w (.bool t) w5 := fun {w4} M hc => by
    refine (fixed15_ok w4).mono ?_
    rintro e w5 ⟨rfl, M5⟩
    exact ⟨_, rfl, _, _, _, M5.keep0 hc, rfl, M.go0 M5 (by simp)⟩
  refine brB_dec (fun hlt => ?_) fun hge => fin B3.mod hc3
  refine brB_dec (fun hlt4 => ?_) fun hge => fin B3.mod hc3
  obtain ⟨y, hy⟩ : ∃ y, l[i]? = some y := ⟨_, List.getElem?_eq_getElem (by omega)⟩
  obtain ⟨hyc, hyn, hyr⟩ := hB y (List.mem_of_getElem? hy)
  refine (hS.keep0 B3.mod).ix hy fun q hq => ldInt_of (x := y.k) (by simpa [add_zero] using hq 0 _ rfl) (ldInt_of (hq 1 _ rfl) (ldInt_of (hq 2 _ rfl) (ldInt_of (hq 3 _ rfl) (ldInt_of (hq 4 _ rfl) (ldInt_of (hq 5 _ rfl) (ldInt_of (hq 6 _ rfl) (ldSlice_of (hq 7 _ rfl) (ldSlice_of (hq 8 _ rfl) ?_))))))))
  intro b4 f4 w4 A4 hc4
  have B4 := B3.m0 A4.mod
  have l4 := A4.lt b4 (by simp)
  refine (CutReply_ok (hyr.keep0 B4.mod)).mono ?_
  rintro e w5 ⟨_, rfl, r, f, p, rfl, hR5, M5⟩
  have B5 := B4.m0 M5
  have hc5 := M5.keep0 hc4
  refine ⟨_, _, _, _, _, _, _, _, _, _, rfl, Keep.of0 M5, _, _, _, hc5, ?_⟩
  intro b6 f6
  have lm3 := B3.lt
  have s4 := A4.mod.size
  have s5 := M5.size
  obtain ⟨an', nn', cn', ll, hRL, hRl⟩ := B3.ref
  have ehdr : an' = an ∧ nn' = nn ∧ cn' = cn := by
    have := hRL.cells
    rw [hc3] at this
    simp only [Option.some.injEq, Obj.cells.injEq] at this
    have e : an = an' ∧ nn = nn' ∧ cn = cn' := by simpa using this
    exact ⟨e.1.symm, e.2.1.symm, e.2.2.symm⟩
  obtain ⟨rfl, rfl, rfl⟩ := ehdr
  refine brB_of (fun g1 => ?_) fun g1 => ?_
  · -- Begin
    intro w6 A6 hc6
    have B6 := B5.m0 A6.mod
    have l6 := A6.lt b6 (by simp)
    have s6 := A6.mod.size
    have hRL6 := ((hRL.keep0 A4.mod).keep0 M5).keep0 A6.mod
    refine (Begin_ok (c := y.c) (n := y.n) B6.tab B6.mod.size).mono ?_
    rintro e w7 ⟨rfl, hT7, M7⟩
    have hRL7 := B6.refM M7 hRL6
    refine ⟨_, rfl, Keep.ofm M7 (by simp; omega), _, _, _, hRL7.cells, ?_⟩
    have s7 := M7.size
    have hb7 := (B6.mod.go0 M7 (by simpa using B6.le)).size
    refine (rBegin_ok B6.rise (by have := B6.slen; omega) ⟨_, _, _, _, hRL7, hRl⟩ hb7 B6.rle y.c y.n).mono ?_
    rintro e w8 ⟨rfl, hr8, hM8⟩
    have B8 := B6.begin hT7 M7 hr8 hM8
    have s8 : w7.heap.size ≤ w8.heap.size := by obtain ⟨S, hM, _⟩ := hM8; exact hM.size
    rw [(beginR_of B6.own y.c y.n).2]
    have hkeep := RMod.keep (w0 := w) hRL hRL7 hM8 (bs := [b4, b6]) (by simp; omega)
    obtain ⟨a8, n8, c8, ll8, hRL8, _⟩ := id B8.ref
    refine ⟨_, rfl, hkeep, _, _, _, hRL8.cells, ?_⟩
    refine law15_ClientsDoes_cut2 (fun a_0' n_0' c_0' p_3' x_5' x_8' x_9' bm0' a_m0_0' n_m0_0' c_m0_0' bm1' x_m1_0' x_m1_1' x_m1_2' x_m1_3' x_m1_4' x_m1_5' x_m1_6' a_m1_7' n_m1_7' c_m1_7' a_m1_8' n_m1_8' c_m1_8' bm2' x_m2_0' x_m2_1' x_m2_2' x_m2_3' a_m2_4' n_m2_4' c_m2_4' a_m2_5' n_m2_5' c_m2_5' w' => ∃ (b m : Nat) (T : Tb), a_0' = a ∧ n_0' = ln ∧ c_0' = cp ∧ p_3' = some ⟨b, 0, none⟩ ∧ x_5' = i ∧ x_8' = x_9' ∧ bm0' = rb ∧ bm1' < w'.heap.size ∧ bm2' < w'.heap.size ∧ BothT w b m rb T w') ⟨b, m, _, rfl, rfl, rfl, rfl, rfl, rfl, rfl, by omega, by omega, B8⟩ (by
    rintro a_0' n_0' c_0' p_3' x_5' x_8' x_9' bm0' a_m0_0' n_m0_0' c_m0_0' bm1' x_m1_0' x_m1_1' x_m1_2' x_m1_3' x_m1_4' x_m1_5' x_m1_6' a_m1_7' n_m1_7' c_m1_7' a_m1_8' n_m1_8' c_m1_8' bm2' x_m2_0' x_m2_1' x_m2_2' x_m2_3' a_m2_4' n_m2_4' c_m2_4' a_m2_5' n_m2_5' c_m2_5' w8 ⟨b, m, T, rfl, rfl, rfl, rfl, rfl, rfl, rfl, l1, l2, B8⟩
    exact Does_C2 B8 rfl rfl rfl l1 l2 fun a n c w9 B9 => law15_ClientsDoes_leaf1 (80 - (i + 1)) (by omega) ⟨i + 1, b, m, T, by rw [wrap_id (by omega) (by omega)]; omega, by omega, rfl, B9, rfl⟩)
  refine brB_of (fun g2 => ?_) fun g2 => ?_
  · -- Done
    intro w6 A6 hc6
    have B6 := B5.m0 A6.mod
    have l6 := A6.lt b6 (by simp)
    have s6 := A6.mod.size
    have hRL6 := ((hRL.keep0 A4.mod).keep0 M5).keep0 A6.mod
    have hrep6 := hR5.at.keep0 A6.mod
    refine (Done_ok (c := y.c) (n := y.n) (r := r) (f := f) (p := p) B6.tab B6.mod.size hyc hrep6).mono ?_
    rintro e w7 ⟨rfl, hT7, M7⟩
    have hRL7 := B6.refM M7 hRL6
    refine ⟨_, rfl, Keep.ofm M7 (by simp; omega), _, _, _, hRL7.cells, ?_⟩
    have s7 := M7.size
    have hb7 := (B6.mod.go0 M7 (by simpa using B6.le)).size
    have hrep7 : RepAt w7 r f p := by
      refine hrep6.keep M7 (fun ad ha hk => ?_) fun ad ha hk => ?_
      · have := hR5.found.base ad ha; simp at hk; omega
      · have := hR5.parts.base ad ha; simp at hk; omega
    refine (rDone_ok (r := r) (f := f) (p := p) B6.rise (by have := B6.slen; omega) ⟨_, _, _, _, hRL7, hRl⟩ hb7 B6.rle y.c y.n hrep7).mono ?_
    rintro e w8 ⟨rfl, hr8, hM8⟩
    have B8 := B6.done hT7 M7 hr8 hM8
    have s8 : w7.heap.size ≤ w8.heap.size := by obtain ⟨S, hM, _⟩ := hM8; exact hM.size
    rw [(doneR_of B6.own y.c y.n r).2]
    have hkeep := RMod.keep (w0 := w) hRL hRL7 hM8 (bs := [b4, b6]) (by simp; omega)
    obtain ⟨a8, n8, c8, ll8, hRL8, _⟩ := id B8.ref
    refine ⟨_, rfl, hkeep, _, _, _, hRL8.cells, ?_⟩
    refine law15_ClientsDoes_cut2 (fun a_0' n_0' c_0' p_3' x_5' x_8' x_9' bm0' a_m0_0' n_m0_0' c_m0_0' bm1' x_m1_0' x_m1_1' x_m1_2' x_m1_3' x_m1_4' x_m1_5' x_m1_6' a_m1_7' n_m1_7' c_m1_7' a_m1_8' n_m1_8' c_m1_8' bm2' x_m2_0' x_m2_1' x_m2_2' x_m2_3' a_m2_4' n_m2_4' c_m2_4' a_m2_5' n_m2_5' c_m2_5' w' => ∃ (b m : Nat) (T : Tb), a_0' = a ∧ n_0' = ln ∧ c_0' = cp ∧ p_3' = some ⟨b, 0, none⟩ ∧ x_5' = i ∧ x_8' = x_9' ∧ bm0' = rb ∧ bm1' < w'.heap.size ∧ bm2' < w'.heap.size ∧ BothT w b m rb T w') ⟨b, m, _, rfl, rfl, rfl, rfl, rfl, rfl, rfl, by omega, by omega, B8⟩ (by
    rintro a_0' n_0' c_0' p_3' x_5' x_8' x_9' bm0' a_m0_0' n_m0_0' c_m0_0' bm1' x_m1_0' x_m1_1' x_m1_2' x_m1_3' x_m1_4' x_m1_5' x_m1_6' a_m1_7' n_m1_7' c_m1_7' a_m1_8' n_m1_8' c_m1_8' bm2' x_m2_0' x_m2_1' x_m2_2' x_m2_3' a_m2_4' n_m2_4' c_m2_4' a_m2_5' n_m2_5' c_m2_5' w8 ⟨b, m, T, rfl, rfl, rfl, rfl, rfl, rfl, rfl, l1, l2, B8⟩
    exact Does_C2 B8 rfl rfl rfl l1 l2 fun a n c w9 B9 => law15_ClientsDoes_leaf1 (80 - (i + 1)) (by omega) ⟨i + 1, b, m, T, by rw [wrap_id (by omega) (by omega)]; omega, by omega, rfl, B9, rfl⟩)
  refine brB_of (fun g3 => ?_) fun g3 => ?_
  · -- Copy
    intro w6 A6 hc6
    have B6 := B5.m0 A6.mod
    have l6 := A6.lt b6 (by simp)
    have s6 := A6.mod.size
    have hRL6 := ((hRL.keep0 A4.mod).keep0 M5).keep0 A6.mod
    refine (Copy_ok B6.tab B6.own B6.mod.size).mono ?_
    rintro e w7 ⟨_, rfl, b', m', T', rfl, hT7, hO7, hlk7, M7, fb7, fm7⟩
    have s7 := M7.size
    have hRL7 := hRL6.keep0 M7
    refine ⟨_, rfl, Keep.of0 M7, _, _, _, hRL7.cells, ?_⟩
    have B7 := B6.m0 M7
    have lm7 : m' < w7.heap.size := by obtain ⟨_, hL', _⟩ := hT7; exact hL'.map.lt
    refine (Begin_ok (c := y.c) (n := 1099511627776) B7.tab B7.mod.size).mono ?_
    rintro e w8 ⟨rfl, hT8, M8⟩
    have s8 := M8.size
    have hRL8 := B7.refM M8 hRL7
    refine ⟨_, rfl, Keep.ofm M8 (by simp; omega), _, _, _, hRL8.cells, ?_⟩
    have hmap8 : ∃ es cl, w8.heap[m]? = some (.map es cl) := by
      obtain ⟨L, hL, _⟩ := hT8
      obtain ⟨es, cl, hb, _⟩ := hL.map
      exact ⟨es, cl, hb⟩
    obtain ⟨es, cl, hmap8⟩ := hmap8
    have N8 := B7.mod.go0 M8 (by simpa using B7.le)
    refine (Done_ok (c := y.c) (n := y.n) (r := repI 0 0 5 0) (f := sl0) (p := sl0) hT8 N8.size hyc (repI_at ..)).mono ?_
    rintro e w9 ⟨rfl, hT9, M9⟩
    have s9 := M9.size
    have hRL9 := hRL8.keepM hmap8 M9
    refine ⟨_, rfl, Keep.ofm M9 (by simp; omega), _, _, _, hRL9.cells, brF rfl ?_⟩
    have N9 : Mod [m] w7 w9 := (M8.trans M9).less (by simp)
    have hT9' : TabAt w9 w.heap.size b' m' T' := by
      obtain ⟨L', hL', rfl⟩ := hT7
      have hne : ∀ {k : Nat} {cs : Array Value} {T : TypeId}, w7.heap[k]? = some (.cells cs T) → k ∉ [m] := fun {k} {cs} {T} hc hk => by
        rw [List.mem_singleton] at hk
        subst hk
        obtain ⟨L, hL, _⟩ := B7.tab
        obtain ⟨es, cl, hb, _⟩ := hL.map
        rw [hb] at hc; cases hc
      refine ⟨L', ⟨N9.keep hL'.cells (hne hL'.cells), hL'.map.of_block (N9.block m' lm7 (by simp; omega)), fun q hq => ⟨(hL'.own q hq).1, RepOwn.rebase ((hL'.own q hq).2.keep N9 fun k hk cs T hc => absurd hk (hne hc)) B6.mod.size⟩⟩, rfl⟩
    have B9 : BothT w b' m' rb T' w9 := by
      have e := listS_congr hO7 B7.own hlk7
      refine ⟨hT9', hO7, ?_, ⟨_, _, _, _, hRL9, by rw [e]; exact hRl⟩, B7.mod.go0 N9 (by simpa using B7.le), by omega, by have := B6.mod.size; omega, B7.rle⟩
      have h1 := congrArg List.length e
      rw [listS_len, listS_len] at h1
      have := B7.len
      omega
    refine law15_ClientsDoes_cut2 (fun a_0' n_0' c_0' p_3' x_5' x_8' x_9' bm0' a_m0_0' n_m0_0' c_m0_0' bm1' x_m1_0' x_m1_1' x_m1_2' x_m1_3' x_m1_4' x_m1_5' x_m1_6' a_m1_7' n_m1_7' c_m1_7' a_m1_8' n_m1_8' c_m1_8' bm2' x_m2_0' x_m2_1' x_m2_2' x_m2_3' a_m2_4' n_m2_4' c_m2_4' a_m2_5' n_m2_5' c_m2_5' w' => ∃ (b m : Nat) (T : Tb), a_0' = a ∧ n_0' = ln ∧ c_0' = cp ∧ p_3' = some ⟨b, 0, none⟩ ∧ x_5' = i ∧ x_8' = x_9' ∧ bm0' = rb ∧ bm1' < w'.heap.size ∧ bm2' < w'.heap.size ∧ BothT w b m rb T w') ⟨b', m', _, rfl, rfl, rfl, rfl, rfl, rfl, rfl, by omega, by omega, B9⟩ (by
    rintro a_0' n_0' c_0' p_3' x_5' x_8' x_9' bm0' a_m0_0' n_m0_0' c_m0_0' bm1' x_m1_0' x_m1_1' x_m1_2' x_m1_3' x_m1_4' x_m1_5' x_m1_6' a_m1_7' n_m1_7' c_m1_7' a_m1_8' n_m1_8' c_m1_8' bm2' x_m2_0' x_m2_1' x_m2_2' x_m2_3' a_m2_4' n_m2_4' c_m2_4' a_m2_5' n_m2_5' c_m2_5' w8 ⟨b, m, T, rfl, rfl, rfl, rfl, rfl, rfl, rfl, l1, l2, B8⟩
    exact Does_C2 B8 rfl rfl rfl l1 l2 fun a n c w9 B9 => law15_ClientsDoes_leaf1 (80 - (i + 1)) (by omega) ⟨i + 1, b, m, T, by rw [wrap_id (by omega) (by omega)]; omega, by omega, rfl, B9, rfl⟩)
  · intro w6 A6 hc6
    have B6 := B5.m0 A6.mod
    have l6 := A6.lt b6 (by simp)
    have s6 := A6.mod.size
    refine law15_ClientsDoes_cut2 (fun a_0' n_0' c_0' p_3' x_5' x_8' x_9' bm0' a_m0_0' n_m0_0' c_m0_0' bm1' x_m1_0' x_m1_1' x_m1_2' x_m1_3' x_m1_4' x_m1_5' x_m1_6' a_m1_7' n_m1_7' c_m1_7' a_m1_8' n_m1_8' c_m1_8' bm2' x_m2_0' x_m2_1' x_m2_2' x_m2_3' a_m2_4' n_m2_4' c_m2_4' a_m2_5' n_m2_5' c_m2_5' w' => ∃ (b m : Nat) (T : Tb), a_0' = a ∧ n_0' = ln ∧ c_0' = cp ∧ p_3' = some ⟨b, 0, none⟩ ∧ x_5' = i ∧ x_8' = x_9' ∧ bm0' = rb ∧ bm1' < w'.heap.size ∧ bm2' < w'.heap.size ∧ BothT w b m rb T w') ⟨b, m, _, rfl, rfl, rfl, rfl, rfl, rfl, rfl, by omega, by omega, B6⟩ (by
    rintro a_0' n_0' c_0' p_3' x_5' x_8' x_9' bm0' a_m0_0' n_m0_0' c_m0_0' bm1' x_m1_0' x_m1_1' x_m1_2' x_m1_3' x_m1_4' x_m1_5' x_m1_6' a_m1_7' n_m1_7' c_m1_7' a_m1_8' n_m1_8' c_m1_8' bm2' x_m2_0' x_m2_1' x_m2_2' x_m2_3' a_m2_4' n_m2_4' c_m2_4' a_m2_5' n_m2_5' c_m2_5' w8 ⟨b, m, T, rfl, rfl, rfl, rfl, rfl, rfl, rfl, l1, l2, B8⟩
    exact Does_C2 B8 rfl rfl rfl l1 l2 fun a n c w9 B9 => law15_ClientsDoes_leaf1 (80 - (i + 1)) (by omega) ⟨i + 1, b, m, T, by rw [wrap_id (by omega) (by omega)]; omega, by omega, rfl, B9, rfl⟩)
end Go.Proofs.Ytdgiemnadpkcfaa
