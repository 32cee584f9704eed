/- varint's numbers. -/
import Derived.Sort.LoopGhostIn
import Derived.Laws.Bits64b
import Derived.Laws.IdiomStrings
import Derived.Test.YtohgihgddknmmaaRng
import Derived.Test.YtohgihgddknmmaaProg
namespace Go.Proofs.Ytohgihgddknmmaa
open Go Go.RowKit Go.Shelf
set_option linter.unusedVariables false
set_option linter.unusedSimpArgs false
attribute [local go_sem] Oper.semAt_some

def sevL (n : Nat) : List (Nat × Bool) := if h : n < 128 then [(n, false)] else (n % 128, true) :: sevL (n / 128)
termination_by n
decreasing_by omega
theorem sevL_small {n : Nat} (h : n < 128) : sevL n = [(n, false)] := by rw [sevL, dif_pos h]
theorem sevL_big {n : Nat} (h : ¬ n < 128) : sevL n = (n % 128, true) :: sevL (n / 128) := by rw [sevL, dif_neg h]
theorem sevL_len : ∀ (k n : Nat), n < 128 ^ (k + 1) → 1 ≤ (sevL n).length ∧ (sevL n).length ≤ k + 1
  | 0, n, h => by rw [sevL_small (by simpa using h)]; simp
  | k + 1, n, h => by
    by_cases h1 : n < 128
    · rw [sevL_small h1]; simp
    · rw [sevL_big h1]
      have := sevL_len k (n / 128) (by rw [Nat.pow_succ] at h; omega)
      simp; omega

set_option maxRecDepth 100000 in
set_option maxHeartbeats 2000000 in
theorem sevens1_ok (C n : Nat) (hn : n < 18446744073709551616) :
    SeqCell Try.prog 86 #[.pointer (some ⟨C, 0, none⟩)] (fun x : Nat × Bool => #[.int .u8 (x.1 : Nat), .bool x.2]) C 10 (.cells #[.int .u64 (n : Nat)] 140) (sevL n) := fun l J W hset hdrew hY h0 hC => by
  have hro : Fence.wide.round = none := rfl
  refine callsIn_of_wp Try.func86 rfl trivial ?_ hro
  simp only [Try.ntmps86, List.size_toArray, List.length_cons, List.length_nil, Nat.reduceAdd, Nat.reduceSub, Array.replicate_succ, Array.replicate_zero, List.push_toArray, List.append_toArray, List.nil_append, List.cons_append]
  have hcellOf : ∀ {wr : World} {m : Nat}, wr.heap[C]? = some (.cells #[.int .u64 (m : Nat)] 140) → wr.cell? ⟨C, 0, none⟩ = some (.int .u64 (m : Nat)) ∧ wr.frozen? ⟨C, 0, none⟩ = false := fun h => ⟨by rw [cell_at h]; rfl, frozen_at h⟩
  gi_wp2
  gi_loopg [] n (fun k wr => ∃ pre, k < 18446744073709551616 ∧ sevL n = pre ++ sevL k ∧ wr.heap[C]? = some (.cells #[.int .u64 (k : Nat)] 140) ∧ J pre wr)
  case atStart => exact ⟨[], hn, rfl, hC, h0⟩
  case round =>
    obtain ⟨pre, hk, hs, hCw, hJ⟩ := hrel
    obtain ⟨hc, hf⟩ := hcellOf hCw
    have hlen := (sevL_len 9 n (by omega)).2
    rw [hs] at hlen
    have hk1 := (sevL_len 9 gk (by omega)).1
    rw [List.length_append] at hlen
    by_cases hb : gk < 128
    · have hb' : ¬ (128 : Int) ≤ (gk : Int) := by omega
      obtain ⟨fn, tmps, assign, body, hy, hR⟩ := hY pre (gk, false) wr hJ (by omega)
      dsimp only at hy
      gi_wp2
      refine hR.mono ?_
      rintro e W3 ⟨rfl, hJ3, hC3⟩
      gi_wp2
      go_end0
      refine ⟨⟨_, rfl⟩, ?_⟩
      rw [hs, sevL_small hb]
      exact hJ3
    · have hb' : (128 : Int) ≤ (gk : Int) := by omega
      have e7 : bits .and .u64 (gk : Int) 127 % 256 = (gk : Int) % 128 := by
        have h := bits_and_u64_nat gk 127 (by omega) (by omega)
        have h2 : (gk &&& 127 : Nat) = gk % 128 := Nat.and_two_pow_sub_one_eq_mod gk 7
        rw [h2] at h
        have h3 : bits .and .u64 (gk : Int) 127 = ((gk % 128 : Nat) : Int) := h
        rw [h3]; omega
      obtain ⟨fn, tmps, assign, body, hy, hR⟩ := hY pre (gk % 128, true) wr hJ (by omega)
      dsimp only at hy
      have e8 : ((gk % 128 : Nat) : Int) = (gk : Int) % 128 := by omega
      rw [e8] at hy
      gi_wp2
      refine hR.mono ?_
      rintro e W3 ⟨rfl, hJ3, hC3⟩
      obtain ⟨hc3, hf3⟩ := hcellOf (hC3.trans hCw)
      gi_wp2
      gi_roundg (gk / 128)
      case rel =>
        refine ⟨pre ++ [(gk % 128, true)], by omega, by rw [hs, sevL_big hb]; simp, ?_, hset _ _ _ hJ3⟩
        rw [setCell_heap (hC3.trans hCw)]
        rfl
      case measure => omega

theorem sevens_in (n : Int) (w : World) :
    CallsIn Fence.wide 1 Try.prog 77 #[.int .u64 n] w fun e w' => e = .returned (.func (.func 86) #[] #[.pointer (some ⟨w.heap.size, 0, none⟩)]) ∧ w' = w.alloc (.cells #[.int .u64 n] 140) := by
  refine callsIn_of_wp Try.func77 rfl trivial ?_ rfl
  simp only [Try.ntmps77, List.size_toArray, List.length_cons, List.length_nil, Nat.reduceAdd, Nat.reduceSub, Array.replicate_succ, Array.replicate_zero, List.push_toArray, List.append_toArray, List.nil_append, List.cons_append]
  gi_wp2
  go_ret
  exact ⟨rfl, rfl⟩

/-- A seven, as a byte. -/
def sevC (p : Nat × Bool) : Int := if p.2 then bits .or .u8 (p.1 : Nat) 128 else (p.1 : Nat)
def vPutL (n : Nat) : List UInt8 := (sevL n).map fun p => UInt8.ofNat (if p.2 then p.1 + 128 else p.1)
def vPut (n : Nat) : ByteArray := ⟨(vPutL n).toArray⟩
theorem or128 : ∀ x : Fin 128, bits .or .u8 ((x.val : Nat) : Int) 128 = ((x.val + 128 : Nat) : Int) := by decide
theorem sevC_cells : ∀ (n : Nat), (sevL n).map (fun p => Value.int .u8 (sevC p)) = (vPutL n).map fun b => Value.int .u8 (b.toNat : Int) := by
  intro n
  induction n using Nat.strongRecOn with
  | ind n ih =>
    by_cases h : n < 128
    · have e : (UInt8.ofNat n).toNat = n := by simp; omega
      simp [vPutL, sevL_small h, sevC]; omega
    · have e := or128 ⟨n % 128, by omega⟩
      have ih := ih (n / 128) (by omega)
      unfold vPutL at ih ⊢
      rw [sevL_big h, List.map_cons, List.map_cons, List.map_cons, ih]
      simp only [sevC, if_true]
      rw [e]
      simp; omega
theorem infoU8 : (Try.prog.info? 5).map (fun i => (i.zero, i.size, i.bytes)) = some (some (.int .u8 0), 1, 1) := by kernel_rfl
set_option maxRecDepth 100000 in
set_option maxHeartbeats 2000000 in
theorem Put_in (n : Nat) (hn : n < 18446744073709551616) (w : World) :
    CallsIn Fence.wide 2 Try.prog 64 #[.int .u64 (n : Nat)] w fun e w' => e = .returned (.string (vPut n)) ∧ Below w.heap.size w w' := by
  have hro : Fence.wide.round = none := rfl
  obtain ⟨i0, hi, hz0, hz1, hz2⟩ := info_parts infoU8
  refine callsIn_of_wp_marks Try.func64 rfl trivial ?_ hro
  simp only [Try.ntmps64, List.size_toArray, List.length_cons, List.length_nil, Nat.reduceAdd, Nat.reduceSub, Array.replicate_succ, Array.replicate_zero, List.push_toArray, List.append_toArray, List.nil_append, List.cons_append]
  have hmk : ∀ W : World, (Instr.makeSlice 132 (.int .i64 0) (.int .i64 10)).run Try.prog W = .ok (.slice (some ⟨W.heap.size, 0, none⟩) 0 10) (W.alloc (.cells (madeCells #[Value.int .u8 0] 10) 5)) := fun W => by
    have h := run_makeSlice (P := Try.prog) W 132 5 i0 (.int .u8 0) Try.underlying132 hi hz0 .i64 .i64 0 10 (by omega) (by omega) (by rw [hz1]; decide) (by rw [hz2]; decide) (by decide)
    rw [hz1] at h
    exact h
  gi_wp2_with (refine ⟨trivial, ?_⟩; gi_at_call 77; refine (sevens_in _ _).mono ?_; rintro e w' ⟨rfl, rfl⟩)
  obtain ⟨W0, hW0⟩ : ∃ W0, (((w.alloc (Obj.cells (madeCells #[Value.int IntKind.u8 0] 10) 5)).alloc (Obj.cells #[Value.slice (some { block := w.heap.size, off := 0 }) 0 10] 132)).alloc (Obj.cells #[Value.int IntKind.u64 (n : Nat)] 140)) = W0 := ⟨_, rfl⟩
  have hsz : W0.heap.size = w.heap.size + 3 := by rw [← hW0]; simp
  have bO : Boxed W0 (w.heap.size + 1) 132 (.slice (some ⟨w.heap.size, 0, none⟩) 0 10) := by
    rw [← hW0]
    have := (Boxed.new (w.alloc (Obj.cells (madeCells #[Value.int IntKind.u8 0] 10) 5)) 132 (.slice (some ⟨w.heap.size, 0, none⟩) 0 10)).alloc (Obj.cells #[Value.int IntKind.u64 (n : Nat)] 140)
    rwa [World.size_alloc] at this
  have bN : Boxed W0 (w.heap.size + 1 + 1) 140 (.int .u64 (n : Nat)) := by
    rw [← hW0]
    have := Boxed.new ((w.alloc (Obj.cells (madeCells #[Value.int IntKind.u8 0] 10) 5)).alloc (Obj.cells #[Value.slice (some { block := w.heap.size, off := 0 }) 0 10] 132)) 140 (.int .u64 (n : Nat))
    rwa [World.size_alloc, World.size_alloc] at this
  have hR0 : W0.ownsRow w.heap.size 5 1 (.slice (some ⟨w.heap.size, 0, none⟩) 0 10) 0 [] := by
    rw [← hW0]
    exact ((World.ownsRow_made w _ 10 (Nat.le_refl _) (by unfold maxLen; decide) (by simp [size_madeCells])).alloc _).alloc _
  have hB0 : Below w.heap.size w W0 := by
    rw [← hW0]
    exact (((Below.refl _ w).alloc (Nat.le_refl _) _).alloc (by simp) _).alloc (by simp; omega) _
  rw [hW0]
  clear hW0
  refine wpIn_range_cell (C := w.heap.size + 1 + 1) (N := 10) (xs := sevL n) rfl (enters_of Try.func86 (by kernel_rfl) rfl) (by omega) bN rfl (sevens1_ok _ n hn) (fun _ => rfl)
    (fun pre W => ∃ v u, Boxed W (w.heap.size + 1) 132 v ∧ Boxed W (w.heap.size + 1 + 1) 140 u ∧ W.ownsRow w.heap.size 5 1 v pre.length (pre.map fun p => Value.int .u8 (sevC p)) ∧ Below w.heap.size w W)
    ?ia ?ip ?ic ?idr ⟨_, _, bO, bN, hR0, hB0⟩
    (fun x => { tmps := #[.int .u64 (n : Nat), undef, .string { data := #[] }, .pointer (some ⟨w.heap.size + 1, 0, none⟩), .int .u8 (x.1 : Nat), .bool x.2, .slice (some ⟨w.heap.size, 0, none⟩) 0 10, .int .u64 (n : Nat), .func (.func 86) #[] #[.pointer (some ⟨w.heap.size + 1 + 1, 0, none⟩)], .int .u8 (x.1 : Nat), .bool x.2, undef, undef, undef, undef, undef, undef, undef, undef, undef], defers := [] }) ?assign ?body ?done
  case ia =>
    rintro s W o ⟨v, u, h1, h2, h3, h4⟩
    exact ⟨v, u, h1.alloc o, h2.alloc o, h3.alloc o, h4.alloc h4.size o⟩
  case ip =>
    rintro s W l o o' hl ho hc ⟨v, u, h1, h2, h3, h4⟩
    have hne : ∀ {B t u}, Boxed W B t u → some B ≠ some l := fun h e => by cases e; rw [show W.heap[l]? = _ from h] at ho; cases ho; cases hc
    exact ⟨v, u, h1.kept (grownBy_putObj' W l o') (hne h1), h2.kept (grownBy_putObj' W l o') (hne h2), ownsRow_putObj h3 o' ho hc, h4.trans ⟨rfl, rfl, rfl, by simp [World.putObj], fun k hk => World.putObj_heap_other (by omega)⟩⟩
  case ic =>
    rintro s W v' ⟨v, u, h1, h2, h3, h4⟩
    exact ⟨v, v', h1.other (by omega) _, h2.set _, h3.kept (grownBy_setCell' W _ _) (.inr (h2.not_row (by decide) h3).symm), h4.setCell (p := ⟨w.heap.size + 1 + 1, 0, none⟩) (by show w.heap.size ≤ w.heap.size + 1 + 1; omega) _⟩
  case idr =>
    rintro s W ⟨v, u, h1, h2, h3, h4⟩
    exact ⟨v, u, h1, h2, h3, h4.drew⟩
  case assign =>
    intro l x W K hK
    gi_wp2
    exact hK
  case body =>
    rintro l pre x W ⟨v, u, hv, hu, hrow, hB⟩ hlen hCl
    have hc := hv.cell
    obtain ⟨x, f⟩ := x
    cases f
    all_goals
      gi_wp2_with (gi_at_builtin; refine wpListIn_append_own _ rfl _ _ 132 rfl w.heap.size 5 i0 (.int .u8 0) 1 1 Try.underlying132 hi hz0 hz1 hz2 rfl (by decide) _ _ _ rfl (hrow.alloc _) ⟨W.heap.size, 0, none⟩ 1 1 [_] rfl rfl (cell_one_new _ _ _) (by simp [Value.oneCell']) (by unfold maxLen; omega) (by omega) (by have := hB.size; simp; omega) ?_; intro v' w1 hown' hgrow _; obtain ⟨g', cap', rfl⟩ := ownsRow_succ hown'; have hu1 := (hu.alloc _).kept hgrow (hu.not_row (by decide) hrow); obtain ⟨hv1, hv2, hr2, hk2, hb2⟩ := hv.appended (by decide) hrow hB.size (Nat.le_add_right _ _) hown' hgrow; have hc1 := hv1.cell; have hf1 := hv1.frozen)
      have hu2 := hu1.other (B' := w.heap.size + 1) (by omega) (Value.slice (some { block := g', off := 0 }) (pre.length + 1) cap')
      refine ⟨hk2.from _, (show _ = _ from hu2).trans ((show _ = _ from hu).symm.trans (by simp [hCl])), _, hv2, ⟨_, hu2⟩, ?_, hB.trans hb2⟩
      simpa [sevC] using hr2
  case done =>
    rintro D W hD ⟨v, u, hv, hu, hrow, hB⟩ hK
    have hc := hv.cell
    rw [sevC_cells, show (sevL n).length = (vPutL n).length by simp [vPutL]] at hrow
    have hl1 : 1 ≤ (vPutL n).length := by have := (sevL_len 9 n (by omega)).1; simp [vPutL]; omega
    obtain ⟨g, cap, rfl⟩ : ∃ g cap, v = .slice (some ⟨g, 0, none⟩) (vPutL n).length cap := by
      obtain ⟨m, hm⟩ : ∃ m, (vPutL n).length = m + 1 := ⟨(vPutL n).length - 1, by omega⟩
      have h' := hrow
      rw [hm] at h'
      rw [hm]
      exact ownsRow_succ h'
    have hcv : (convert 132 9 (.slice (some ⟨g, 0, none⟩) (vPutL n).length cap)).run Try.prog W = .ok (.string (vPut n)) W :=
      run_convert_bytes_back W _ _ 5 ⟨g, 0, none⟩ cap (vPutL n) Try.underlying132 Try.underlying5 Try.underlying9 fun j hj => by
        rw [addr_add, Nat.zero_add, World.ownsRow.cellAt hrow j (by omega)]
        simp [hj]
    gi_wp2
    refine ⟨by simp, .inl ⟨_, _, rfl, run_takeDeferred hK, ?_⟩⟩
    exact ⟨_, results_tmp rfl _ _ _, rfl, hB.trans ⟨rfl, rfl, rfl, by simp [World.putObj], fun k hk => World.putObj_heap_other (by omega)⟩⟩

theorem Put_ok (n : Nat) (hn : n < 18446744073709551616) (w : World) :
    Calls Try.prog 64 #[.int .u64 (n : Nat)] w fun e w' => e = .returned (.string (vPut n)) ∧ Mod [] w w' :=
  (callsIn_wide.1 (Put_in n hn w)).mono fun e w' ⟨h1, h2⟩ => ⟨h1, Mod.of_below h2⟩
theorem vPut_size (n : Nat) (hn : n < 18446744073709551616) : 1 ≤ (vPut n).size ∧ (vPut n).size ≤ 10 := by
  have := sevL_len 9 n (by omega)
  have e : (vPut n).size = (sevL n).length := by simp [vPut, vPutL, ByteArray.size]
  omega
end Go.Proofs.Ytohgihgddknmmaa
