/- Part 2 of the proof of POTexts. -/
import Derived.WalkKit
import Derived.WalkSpells
import Derived.WalkLawsBesides
import Derived.Deep.Quiet
import Derived.Test.YtohgihgddknmmaaGreatRows
import Derived.KernelRfl
import Derived.Maps.Keyed
import Derived.Maps.RangeRun
import Derived.DeepKeys4
import Derived.Lib.Strings
import Derived.Shelf.RegionOpenPlain
import Derived.Lib.Slices
import Derived.Lib.Walk
import Derived.Lib.Builder
import Derived.Lib.FrozenHead
import Derived.Lib.OthersKept
import Derived.Lib.AppendStr
import Derived.Lib.UnsafeStr
import Derived.Lib.MakeNoZero
import Derived.Laws.Externs
import Derived.Laws.IdiomCopy
import Derived.Laws.BitsLemmas
import Derived.RangeFuncBox
import Derived.RangeFuncLeaves
import Derived.RangeFuncNested
import Derived.Shelf.Abstract
import Derived.OwnWalkIn
import Derived.TacticsInMore
import Derived.LoopNIn
import Derived.LoopIn
import Derived.Maps.AppendAt
import Derived.Sort.LoopGhostIn
import Derived.Laws.Bits64b
import Derived.Laws.IdiomStrings
import Derived.Test.YtohgihgddknmmaaGreatProg
import Derived.Shelf.Lay
import Derived.Shelf.Strings.FuncGrows
import Derived.Laws.RangeAny
import Derived.Ground.GgwProg
import Derived.Ground.NamesProg
import Derived.Test.YtohgihgddknmmaaGreatPOTextsK1
/- A range over a function whose iterator keeps its state in a cell of its own: a law, out of the kit's laws on one round. -/
namespace Go.Proofs.YtohgihgddknmmaaGreat
open Go Go.RowKit
set_option linter.unusedVariables false
set_option linter.unusedSimpArgs false

/-- The iterator's contract: whatever the caller says of its own (J), which does not hang on the block C. -/
def SeqCell {α : Type} (P : Program) (gf : FuncId) (lb : Array Value) (encs : α → Array Value) (C N : Nat) (o0 : Obj) (xs : List α) : Prop :=
  ∀ (l : Nat) (J : List α → World → Prop) (W : World),
    (∀ pre W v, J pre W → J pre (W.setCell ⟨C, 0, none⟩ v)) → (∀ pre W, J pre W → J pre W.drew) →
    (∀ pre x W1, J pre W1 → pre.length < N → YieldAt Fence.wide 0 P l (encs x) W1 fun e W' => e = .returned (.bool true) ∧ J (pre ++ [x]) W' ∧ W'.heap[C]? = W1.heap[C]?) →
    J [] W → W.heap[C]? = some o0 → CallsIn Fence.wide 1 P gf (#[.func (.yield l) #[] #[]] ++ lb) W fun e W' => (∃ v, e = .returned v) ∧ J xs W'

theorem wpIn_range_cell {α : Type} {P : Program} {g : Operand} {ps : Array Tmp} {assign body : Code} {Q : Exit → Act → World → Prop} {a : Act} {w : World}
    {gf : Nat} {lb : Array Value} (hg : a.eval g = .func (.func gf) #[] lb) (eg : ∀ args w, (callFunc gf args).run P w = .ok (.enter gf args) w)
    {encs : α → Array Value} {C N : Nat} {o0 : Obj} {xs : List α} (hC : C < w.heap.size) (hoC : w.heap[C]? = some o0) (hoc : o0.isCells = true) (hseq : SeqCell P gf lb encs C N o0 xs) (hps : ∀ x, (encs x).size = ps.size)
    (I : List α → World → Prop) (hIa : ∀ s W o, I s W → I s (W.alloc o)) (hIp : ∀ s W l o o', w.heap.size ≤ l → W.heap[l]? = some o → o.isCells = false → I s W → I s (W.putObj l o'))
    (hIc : ∀ s W v, I s W → I s (W.setCell ⟨C, 0, none⟩ v)) (hId : ∀ s W, I s W → I s W.drew) (h0 : I [] w) (a₁ : α → Act)
    (hassign : ∀ (l : Nat) (x : α) (W : World) (K : Act → World → Prop), K (a₁ x) W →
      assign.wpIn (Fence.wide.inRound l) 0 P (Exit.then K (fun _ _ _ => False)) { tmps := (ps.zip (encs x)).foldl (fun t (p, v) => t.setIfInBounds p v) a.tmps, defers := [] } W)
    (hbody : ∀ (l : Nat) (pre : List α) (x : α) (W : World), I pre W → pre.length < N → C < W.heap.size → body.wpIn (Fence.wide.inRound l) 0 P (fun e a' W' => e = .normal ∧ KeepsFrom w.heap.size W W' ∧ W'.heap[C]? = W.heap[C]? ∧ I (pre ++ [x]) W') (a₁ x) W)
    (hdone : ∀ (D : Nat) (W : World), w.heap.size ≤ D → I xs W → W.heap[D]? = some (.deferred (some [])) → Q .normal { a with defers := { target := .collected D, args := #[] } :: a.defers } W) :
    (Code.rangeFunc g ps assign body).wpIn Fence.wide 2 P Q a w := by
  refine wpIn_rangeFunc ?_
  intro fn hfn
  have hro : Fence.wide.round = none := rfl
  rw [hro]
  obtain ⟨rec, hrec⟩ : ∃ rec : LoopState → Option Code → Loop, rec = fun st pe => { state := st, pending := pe, fn, tmps := a.tmps, params := ps, assign, body, defers := w.heap.size } := ⟨_, rfl⟩
  obtain ⟨W1, hW1⟩ : ∃ W1, (w.alloc (.deferred (some []))).alloc (.loop (rec .ready none)) = W1 := ⟨_, rfl⟩
  have hL1 : W1.heap[w.heap.size + 1]? = some (.loop (rec .ready none)) := by
    rw [← hW1]; have := World.alloc_heap_new (w.alloc (.deferred (some []))) (.loop (rec .ready none)); rwa [World.size_alloc] at this
  have hK1 : W1.heap[w.heap.size]? = some (.deferred (some [])) := by
    rw [← hW1]; exact (Below.heap_alloc _ _ _ (by simp)).trans (World.alloc_heap_new w _)
  have hI1 : I [] W1 := by rw [← hW1]; exact hIa _ _ _ (hIa _ _ _ h0)
  have hC1 : W1.heap[C]? = some o0 := by
    rw [← hW1]; exact ((Below.heap_alloc _ _ _ (by simp; omega)).trans (Below.heap_alloc _ _ _ hC)).trans hoC
  refine ⟨w.heap.size + 1, [{ target := .collected w.heap.size, args := #[] }], W1, { target := .fn (.func gf) lb, args := #[.func (.yield (w.heap.size + 1)) #[] #[]] }, W1, gf,
    #[.func (.yield (w.heap.size + 1)) #[] #[]] ++ lb, W1, ?_, ?_, fun _ _ => trivial, ?_, fun h => (by simp [Fence.wide] at h), ?_⟩
  · rw [← hW1, hrec]; exact run_enterLoop_outer _ _ _ _ _
  · simp only [resolve, hg]
    simp [go_sem]
  · simp [invoke, go_sem, eg]
  · refine (hseq (w.heap.size + 1)
      (fun pre W => I pre W ∧ W.heap[w.heap.size + 1]? = some (.loop (rec .ready none)) ∧ W.heap[w.heap.size]? = some (.deferred (some [])) ∧ C < W.heap.size)
      W1 ?_ ?_ ?_ ⟨hI1, hL1, hK1, lt_of_block hC1⟩ hC1).mono ?_
    · rintro pre W v ⟨hi, hl, hk, hc⟩
      have hko := KeepsOthers.setCell W ⟨C, 0, none⟩ v
      exact ⟨hIc _ _ _ hi, hko.same _ _ hl rfl, hko.same _ _ hk rfl, Nat.lt_of_lt_of_le hc hko.size⟩
    · rintro pre W ⟨hi, hl, hk, hc⟩
      exact ⟨hId _ _ hi, hl, hk, hc⟩
    · rintro pre x W ⟨hi, hl, hk, hc⟩ hlen
      have hlt := lt_of_block hl
      have hy := run_yield (P := P) (args := encs x) hl (by rw [hrec]; exact hps x)
      rw [hrec] at hy
      refine ⟨fn, _, assign, body, hy, roundIn_of_wpIn trivial (hassign _ x W _ ⟨_, run_beginRound hl (by rw [hrec]), ?_⟩)⟩
      have hl2 : (W.putObj (w.heap.size + 1) (.loop { rec .ready none with state := .busy })).heap[w.heap.size + 1]? = some (.loop { rec .ready none with state := .busy }) := World.putObj_heap_same hlt
      have hk2 : (W.putObj (w.heap.size + 1) (.loop { rec .ready none with state := .busy })).heap[w.heap.size]? = some (.deferred (some [])) := (World.putObj_heap_other (by omega)).trans hk
      refine wpIn_mono (hbody _ pre x _ (hIp _ _ _ _ _ (by omega) hl rfl hi) hlen (by simpa [World.putObj] using hc)) ?_
      rintro e a3 W3 ⟨rfl, hk3, hC3, hi3⟩
      have hl3 := hk3.same _ _ (by omega) hl2 rfl
      have hr := run_endRound (P := P) none hl3
      have hlt3 := lt_of_block hl3
      refine ⟨_, _, hr, rfl, ⟨hIp _ _ _ _ _ (by omega) hl3 rfl hi3, ?_, ?_, ?_⟩, ?_⟩
      · rw [World.putObj_heap_same hlt3, hrec]; rfl
      · exact (World.putObj_heap_other (by omega)).trans (hk3.same _ _ (Nat.le_refl _) hk2 rfl)
      · have := hk3.size; simp [World.putObj] at this ⊢; omega
      · rw [World.putObj_heap_other (by omega), hC3, World.putObj_heap_other (by omega)]
    · rintro e W2 ⟨⟨v, rfl⟩, hi, hl, hk, hc⟩
      exact ⟨none, _, by have := run_endLoop (P := P) hl (by rw [hrec]; simp); rw [hrec] at this; exact this, hdone _ _ (Nat.le_refl _) (hIp _ _ _ _ _ (by omega) hl rfl hi) ((World.putObj_heap_other (by omega)).trans hk)⟩
end Go.Proofs.YtohgihgddknmmaaGreat

/- varint's numbers. -/
namespace Go.Proofs.YtohgihgddknmmaaGreat
open Go Go.RowKit Go.Shelf
set_option linter.unusedVariables false
set_option linter.unusedSimpArgs false
attribute [local go_sem] Oper.semAt_some

def sevL (n : Nat) : List (Nat × Bool) := if h : n < 128 then [(n, false)] else (n % 128, true) :: sevL (n / 128)
termination_by n
decreasing_by omega
theorem sevL_small {n : Nat} (h : n < 128) : sevL n = [(n, false)] := by rw [sevL, dif_pos h]
theorem sevL_big {n : Nat} (h : ¬ n < 128) : sevL n = (n % 128, true) :: sevL (n / 128) := by rw [sevL, dif_neg h]
theorem sevL_len : ∀ (k n : Nat), n < 128 ^ (k + 1) → 1 ≤ (sevL n).length ∧ (sevL n).length ≤ k + 1
  | 0, n, h => by rw [sevL_small (by simpa using h)]; simp
  | k + 1, n, h => by
    by_cases h1 : n < 128
    · rw [sevL_small h1]; simp
    · rw [sevL_big h1]
      have := sevL_len k (n / 128) (by rw [Nat.pow_succ] at h; omega)
      simp; omega

set_option maxRecDepth 100000 in
set_option maxHeartbeats 2000000 in
theorem sevens1_ok (C n : Nat) (hn : n < 18446744073709551616) :
    SeqCell Tryz.prog 153 #[.pointer (some ⟨C, 0, none⟩)] (fun x : Nat × Bool => #[.int .u8 (x.1 : Nat), .bool x.2]) C 10 (.cells #[.int .u64 (n : Nat)] 130) (sevL n) := fun l J W hset hdrew hY h0 hC => by
  have hro : Fence.wide.round = none := rfl
  refine callsIn_of_wp Tryz.func153 rfl trivial ?_ hro
  simp only [Tryz.ntmps153, List.size_toArray, List.length_cons, List.length_nil, Nat.reduceAdd, Nat.reduceSub, Array.replicate_succ, Array.replicate_zero, List.push_toArray, List.append_toArray, List.nil_append, List.cons_append]
  have hcellOf : ∀ {wr : World} {m : Nat}, wr.heap[C]? = some (.cells #[.int .u64 (m : Nat)] 130) → wr.cell? ⟨C, 0, none⟩ = some (.int .u64 (m : Nat)) ∧ wr.frozen? ⟨C, 0, none⟩ = false := fun h => ⟨by rw [cell_at h]; rfl, frozen_at h⟩
  gi_wp2
  gi_loopg [] n (fun k wr => ∃ pre, k < 18446744073709551616 ∧ sevL n = pre ++ sevL k ∧ wr.heap[C]? = some (.cells #[.int .u64 (k : Nat)] 130) ∧ J pre wr)
  case atStart => exact ⟨[], hn, rfl, hC, h0⟩
  case round =>
    obtain ⟨pre, hk, hs, hCw, hJ⟩ := hrel
    obtain ⟨hc, hf⟩ := hcellOf hCw
    have hlen := (sevL_len 9 n (by omega)).2
    rw [hs] at hlen
    have hk1 := (sevL_len 9 gk (by omega)).1
    rw [List.length_append] at hlen
    by_cases hb : gk < 128
    · have hb' : ¬ (128 : Int) ≤ (gk : Int) := by omega
      obtain ⟨fn, tmps, assign, body, hy, hR⟩ := hY pre (gk, false) wr hJ (by omega)
      dsimp only at hy
      gi_wp2
      refine hR.mono ?_
      rintro e W3 ⟨rfl, hJ3, hC3⟩
      gi_wp2
      go_end0
      refine ⟨⟨_, rfl⟩, ?_⟩
      rw [hs, sevL_small hb]
      exact hJ3
    · have hb' : (128 : Int) ≤ (gk : Int) := by omega
      have e7 : bits .and .u64 (gk : Int) 127 % 256 = (gk : Int) % 128 := by
        have h := bits_and_u64_nat gk 127 (by omega) (by omega)
        have h2 : (gk &&& 127 : Nat) = gk % 128 := Nat.and_two_pow_sub_one_eq_mod gk 7
        rw [h2] at h
        have h3 : bits .and .u64 (gk : Int) 127 = ((gk % 128 : Nat) : Int) := h
        rw [h3]; omega
      obtain ⟨fn, tmps, assign, body, hy, hR⟩ := hY pre (gk % 128, true) wr hJ (by omega)
      dsimp only at hy
      have e8 : ((gk % 128 : Nat) : Int) = (gk : Int) % 128 := by omega
      rw [e8] at hy
      gi_wp2
      refine hR.mono ?_
      rintro e W3 ⟨rfl, hJ3, hC3⟩
      obtain ⟨hc3, hf3⟩ := hcellOf (hC3.trans hCw)
      gi_wp2
      gi_roundg (gk / 128)
      case rel =>
        refine ⟨pre ++ [(gk % 128, true)], by omega, by rw [hs, sevL_big hb]; simp, ?_, hset _ _ _ hJ3⟩
        rw [setCell_heap (hC3.trans hCw)]
        rfl
      case measure => omega

theorem sevens_in (n : Int) (w : World) :
    CallsIn Fence.wide 1 Tryz.prog 126 #[.int .u64 n] w fun e w' => e = .returned (.func (.func 153) #[] #[.pointer (some ⟨w.heap.size, 0, none⟩)]) ∧ w' = w.alloc (.cells #[.int .u64 n] 130) := by
  refine callsIn_of_wp Tryz.func126 rfl trivial ?_ rfl
  simp only [Tryz.ntmps126, List.size_toArray, List.length_cons, List.length_nil, Nat.reduceAdd, Nat.reduceSub, Array.replicate_succ, Array.replicate_zero, List.push_toArray, List.append_toArray, List.nil_append, List.cons_append]
  gi_wp2
  go_ret
  exact ⟨rfl, rfl⟩

/-- A seven, as a byte. -/
def sevC (p : Nat × Bool) : Int := if p.2 then bits .or .u8 (p.1 : Nat) 128 else (p.1 : Nat)
def vPutL (n : Nat) : List UInt8 := (sevL n).map fun p => UInt8.ofNat (if p.2 then p.1 + 128 else p.1)
def vPut (n : Nat) : ByteArray := ⟨(vPutL n).toArray⟩
theorem or128 : ∀ x : Fin 128, bits .or .u8 ((x.val : Nat) : Int) 128 = ((x.val + 128 : Nat) : Int) := by decide
theorem sevC_cells : ∀ (n : Nat), (sevL n).map (fun p => Value.int .u8 (sevC p)) = (vPutL n).map fun b => Value.int .u8 (b.toNat : Int) := by
  intro n
  induction n using Nat.strongRecOn with
  | ind n ih =>
    by_cases h : n < 128
    · have e : (UInt8.ofNat n).toNat = n := by simp; omega
      simp [vPutL, sevL_small h, sevC]; omega
    · have e := or128 ⟨n % 128, by omega⟩
      have ih := ih (n / 128) (by omega)
      unfold vPutL at ih ⊢
      rw [sevL_big h, List.map_cons, List.map_cons, List.map_cons, ih]
      simp only [sevC, if_true]
      rw [e]
      simp; omega
theorem infoU8 : (Tryz.prog.info? 5).map (fun i => (i.zero, i.size, i.bytes)) = some (some (.int .u8 0), 1, 1) := by kernel_rfl
set_option maxRecDepth 100000 in
set_option maxHeartbeats 2000000 in
theorem Put_in (n : Nat) (hn : n < 18446744073709551616) (w : World) :
    CallsIn Fence.wide 2 Tryz.prog 77 #[.int .u64 (n : Nat)] w fun e w' => e = .returned (.string (vPut n)) ∧ Below w.heap.size w w' := by
  have hro : Fence.wide.round = none := rfl
  obtain ⟨i0, hi, hz0, hz1, hz2⟩ := info_parts infoU8
  refine callsIn_of_wp_marks Tryz.func77 rfl trivial ?_ hro
  simp only [Tryz.ntmps77, List.size_toArray, List.length_cons, List.length_nil, Nat.reduceAdd, Nat.reduceSub, Array.replicate_succ, Array.replicate_zero, List.push_toArray, List.append_toArray, List.nil_append, List.cons_append]
  have hmk : ∀ W : World, (Instr.makeSlice 122 (.int .i64 0) (.int .i64 10)).run Tryz.prog W = .ok (.slice (some ⟨W.heap.size, 0, none⟩) 0 10) (W.alloc (.cells (madeCells #[Value.int .u8 0] 10) 5)) := fun W => by
    have h := run_makeSlice (P := Tryz.prog) W 122 5 i0 (.int .u8 0) Tryz.underlying122 hi hz0 .i64 .i64 0 10 (by omega) (by omega) (by rw [hz1]; decide) (by rw [hz2]; decide) (by decide)
    rw [hz1] at h
    exact h
  gi_wp2_with (refine ⟨trivial, ?_⟩; gi_at_call 126; refine (sevens_in _ _).mono ?_; rintro e w' ⟨rfl, rfl⟩)
  obtain ⟨W0, hW0⟩ : ∃ W0, (((w.alloc (Obj.cells (madeCells #[Value.int IntKind.u8 0] 10) 5)).alloc (Obj.cells #[Value.slice (some { block := w.heap.size, off := 0 }) 0 10] 122)).alloc (Obj.cells #[Value.int IntKind.u64 (n : Nat)] 130)) = W0 := ⟨_, rfl⟩
  have hsz : W0.heap.size = w.heap.size + 3 := by rw [← hW0]; simp
  have bO : Boxed W0 (w.heap.size + 1) 122 (.slice (some ⟨w.heap.size, 0, none⟩) 0 10) := by
    rw [← hW0]
    have := (Boxed.new (w.alloc (Obj.cells (madeCells #[Value.int IntKind.u8 0] 10) 5)) 122 (.slice (some ⟨w.heap.size, 0, none⟩) 0 10)).alloc (Obj.cells #[Value.int IntKind.u64 (n : Nat)] 130)
    rwa [World.size_alloc] at this
  have bN : Boxed W0 (w.heap.size + 1 + 1) 130 (.int .u64 (n : Nat)) := by
    rw [← hW0]
    have := Boxed.new ((w.alloc (Obj.cells (madeCells #[Value.int IntKind.u8 0] 10) 5)).alloc (Obj.cells #[Value.slice (some { block := w.heap.size, off := 0 }) 0 10] 122)) 130 (.int .u64 (n : Nat))
    rwa [World.size_alloc, World.size_alloc] at this
  have hR0 : W0.ownsRow w.heap.size 5 1 (.slice (some ⟨w.heap.size, 0, none⟩) 0 10) 0 [] := by
    rw [← hW0]
    exact ((World.ownsRow_made w _ 10 (Nat.le_refl _) (by unfold maxLen; decide) (by simp [size_madeCells])).alloc _).alloc _
  have hB0 : Below w.heap.size w W0 := by
    rw [← hW0]
    exact (((Below.refl _ w).alloc (Nat.le_refl _) _).alloc (by simp) _).alloc (by simp; omega) _
  rw [hW0]
  clear hW0
  refine wpIn_range_cell (C := w.heap.size + 1 + 1) (N := 10) (xs := sevL n) rfl (enters_of Tryz.func153 (by kernel_rfl) rfl) (by omega) bN rfl (sevens1_ok _ n hn) (fun _ => rfl)
    (fun pre W => ∃ v u, Boxed W (w.heap.size + 1) 122 v ∧ Boxed W (w.heap.size + 1 + 1) 130 u ∧ W.ownsRow w.heap.size 5 1 v pre.length (pre.map fun p => Value.int .u8 (sevC p)) ∧ Below w.heap.size w W)
    ?ia ?ip ?ic ?idr ⟨_, _, bO, bN, hR0, hB0⟩
    (fun x => { tmps := #[.int .u64 (n : Nat), undef, .string { data := #[] }, .pointer (some ⟨w.heap.size + 1, 0, none⟩), .int .u8 (x.1 : Nat), .bool x.2, .slice (some ⟨w.heap.size, 0, none⟩) 0 10, .int .u64 (n : Nat), .func (.func 153) #[] #[.pointer (some ⟨w.heap.size + 1 + 1, 0, none⟩)], .int .u8 (x.1 : Nat), .bool x.2, undef, undef, undef, undef, undef, undef, undef, undef, undef], defers := [] }) ?assign ?body ?done
  case ia =>
    rintro s W o ⟨v, u, h1, h2, h3, h4⟩
    exact ⟨v, u, h1.alloc o, h2.alloc o, h3.alloc o, h4.alloc h4.size o⟩
  case ip =>
    rintro s W l o o' hl ho hc ⟨v, u, h1, h2, h3, h4⟩
    have hne : ∀ {B t u}, Boxed W B t u → some B ≠ some l := fun h e => by cases e; rw [show W.heap[l]? = _ from h] at ho; cases ho; cases hc
    exact ⟨v, u, h1.kept (grownBy_putObj' W l o') (hne h1), h2.kept (grownBy_putObj' W l o') (hne h2), ownsRow_putObj h3 o' ho hc, h4.trans ⟨rfl, rfl, rfl, by simp [World.putObj], fun k hk => World.putObj_heap_other (by omega)⟩⟩
  case ic =>
    rintro s W v' ⟨v, u, h1, h2, h3, h4⟩
    exact ⟨v, v', h1.other (by omega) _, h2.set _, h3.kept (grownBy_setCell' W _ _) (.inr (h2.not_row (by decide) h3).symm), h4.setCell (p := ⟨w.heap.size + 1 + 1, 0, none⟩) (by show w.heap.size ≤ w.heap.size + 1 + 1; omega) _⟩
  case idr =>
    rintro s W ⟨v, u, h1, h2, h3, h4⟩
    exact ⟨v, u, h1, h2, h3, h4.drew⟩
  case assign =>
    intro l x W K hK
    gi_wp2
    exact hK
  case body =>
    rintro l pre x W ⟨v, u, hv, hu, hrow, hB⟩ hlen hCl
    have hc := hv.cell
    obtain ⟨x, f⟩ := x
    cases f
    all_goals
      gi_wp2_with (gi_at_builtin; refine wpListIn_append_own _ rfl _ _ 122 rfl w.heap.size 5 i0 (.int .u8 0) 1 1 Tryz.underlying122 hi hz0 hz1 hz2 rfl (by decide) _ _ _ rfl (hrow.alloc _) ⟨W.heap.size, 0, none⟩ 1 1 [_] rfl rfl (cell_one_new _ _ _) (by simp [Value.oneCell']) (by unfold maxLen; omega) (by omega) (by have := hB.size; simp; omega) ?_; intro v' w1 hown' hgrow _; obtain ⟨g', cap', rfl⟩ := ownsRow_succ hown'; have hu1 := (hu.alloc _).kept hgrow (hu.not_row (by decide) hrow); obtain ⟨hv1, hv2, hr2, hk2, hb2⟩ := hv.appended (by decide) hrow hB.size (Nat.le_add_right _ _) hown' hgrow; have hc1 := hv1.cell; have hf1 := hv1.frozen)
      have hu2 := hu1.other (B' := w.heap.size + 1) (by omega) (Value.slice (some { block := g', off := 0 }) (pre.length + 1) cap')
      refine ⟨hk2.from _, (show _ = _ from hu2).trans ((show _ = _ from hu).symm.trans (by simp [hCl])), _, hv2, ⟨_, hu2⟩, ?_, hB.trans hb2⟩
      simpa [sevC] using hr2
  case done =>
    rintro D W hD ⟨v, u, hv, hu, hrow, hB⟩ hK
    have hc := hv.cell
    rw [sevC_cells, show (sevL n).length = (vPutL n).length by simp [vPutL]] at hrow
    have hl1 : 1 ≤ (vPutL n).length := by have := (sevL_len 9 n (by omega)).1; simp [vPutL]; omega
    obtain ⟨g, cap, rfl⟩ : ∃ g cap, v = .slice (some ⟨g, 0, none⟩) (vPutL n).length cap := by
      obtain ⟨m, hm⟩ : ∃ m, (vPutL n).length = m + 1 := ⟨(vPutL n).length - 1, by omega⟩
      have h' := hrow
      rw [hm] at h'
      rw [hm]
      exact ownsRow_succ h'
    have hcv : (convert 122 9 (.slice (some ⟨g, 0, none⟩) (vPutL n).length cap)).run Tryz.prog W = .ok (.string (vPut n)) W :=
      run_convert_bytes_back W _ _ 5 ⟨g, 0, none⟩ cap (vPutL n) Tryz.underlying122 Tryz.underlying5 Tryz.underlying9 fun j hj => by
        rw [addr_add, Nat.zero_add, World.ownsRow.cellAt hrow j (by omega)]
        simp [hj]
    gi_wp2
    refine ⟨by simp, .inl ⟨_, _, rfl, run_takeDeferred hK, ?_⟩⟩
    exact ⟨_, results_tmp rfl _ _ _, rfl, hB.trans ⟨rfl, rfl, rfl, by simp [World.putObj], fun k hk => World.putObj_heap_other (by omega)⟩⟩

theorem Put_ok (n : Nat) (hn : n < 18446744073709551616) (w : World) :
    Calls Tryz.prog 77 #[.int .u64 (n : Nat)] w fun e w' => e = .returned (.string (vPut n)) ∧ Mod [] w w' :=
  (callsIn_wide.1 (Put_in n hn w)).mono fun e w' ⟨h1, h2⟩ => ⟨h1, Mod.of_below h2⟩
theorem vPut_size (n : Nat) (hn : n < 18446744073709551616) : 1 ≤ (vPut n).size ∧ (vPut n).size ≤ 10 := by
  have := sevL_len 9 n (by omega)
  have e : (vPut n).size = (sevL n).length := by simp [vPut, vPutL, ByteArray.size]
  omega
end Go.Proofs.YtohgihgddknmmaaGreat

/- Replies as data. -/
namespace Go.Proofs.YtohgihgddknmmaaGreat
open Go Go.RowKit
set_option linter.unusedVariables false
set_option linter.unusedSimpArgs false

structure PRec where
  hk : Bool
  key : ByteArray
  tomb : Bool
  val : ByteArray
  deriving DecidableEq
structure PPart where
  t : ByteArray
  n : Int
  deriving DecidableEq
/-- A slice's value. -/
structure Sl where
  a : Option Addr
  n : Nat
  c : Nat
def PRec.v (r : PRec) : Value := .agg #[.bool r.hk, .string r.key, .bool r.tomb, .string r.val]
def PPart.v (x : PPart) : Value := .agg #[.string x.t, .int .i64 x.n]
def encP (x : PPart) : List Value := [.string x.t, .int .i64 x.n]
end Go.Proofs.YtohgihgddknmmaaGreat

/- The conditions of Go functions' bodies, printed by gen2.py. -/
namespace Go.Proofs.YtohgihgddknmmaaGreat
open Go Go.RowKit
set_option linter.unusedVariables false
set_option maxRecDepth 100000

def request_number_an : List LA := []
def request_number_T (a0 : Int) (R : Value → World → Prop) (w : World) : Prop :=
 brB (decide (a0 ≥ 0)) (
 R (.bool (decide (a0 ≤ 1099511627776))) w)
 (
 R (.bool false) w)
theorem request_number_eq (a0 : Int) (R : Value → World → Prop) (w : World) :
 dnF Tryz.prog request_number_an (code Tryz.f161) 400 [] (post3 Tryz.prog Tryz.f161 [] R) ⟨args0 0 [(.int .i64 a0)], fun _ => undef⟩ ⟨[], w, [], [], true⟩ = request_number_T a0 R w := by kernel_rfl
theorem request_number_go {a0 : Int} {R : Value → World → Prop} {w : World} (h : request_number_T a0 R w) :
 Calls Tryz.prog 161 #[(.int .i64 a0)] w fun e w' => ∃ v, e = .returned v ∧ R v w' :=
 calls_none Tryz.wide_mixed (f := 161) (args := [(.int .i64 a0)]) Tryz.func161 rfl rfl (by kernel_rfl) rfl (Eq.mpr (request_number_eq a0 R w) h)
def record_Check_an : List LA := []
def record_Check_T (a2 : Bool) (a0 : ByteArray) (a3 : Bool) (a1 : ByteArray) (R : Value → World → Prop) (w : World) : Prop :=
 ∀ b1, w.heap.size ≤ b1 →
 brB (!a2) (
 brB (!(a0.toList == (⟨#[]⟩ : ByteArray).toList)) (
 brB (!(a0.toList == (⟨#[]⟩ : ByteArray).toList)) (
 ∀ w2, Adv [] [b1] w w2 →
 R (.int .i64 30) w2)
 (
 brB (decide ((a0.size : Int) > 64)) (
 brB (decide ((a0.size : Int) > 64)) (
 ∀ w3, Adv [] [b1] w w3 →
 R (.int .i64 2) w3)
 (
 ∀ w4, Adv [] [b1] w w4 →
 R (.int .i64 0) w4))
 (
 brB (decide ((a1.size : Int) > 512)) (
 ∀ w5, Adv [] [b1] w w5 →
 R (.int .i64 2) w5)
 (
 ∀ w6, Adv [] [b1] w w6 →
 R (.int .i64 0) w6))))
 (
 brB a3 (
 brB (!a2) (
 ∀ w7, Adv [] [b1] w w7 →
 R (.int .i64 30) w7)
 (
 brB (!(a1.toList == (⟨#[]⟩ : ByteArray).toList)) (
 ∀ w8, Adv [] [b1] w w8 →
 R (.int .i64 30) w8)
 (
 brB (decide ((a0.size : Int) > 64)) (
 brB (decide ((a0.size : Int) > 64)) (
 ∀ w9, Adv [] [b1] w w9 →
 R (.int .i64 2) w9)
 (
 ∀ w10, Adv [] [b1] w w10 →
 R (.int .i64 0) w10))
 (
 brB (decide ((a1.size : Int) > 512)) (
 ∀ w11, Adv [] [b1] w w11 →
 R (.int .i64 2) w11)
 (
 ∀ w12, Adv [] [b1] w w12 →
 R (.int .i64 0) w12)))))
 (
 brB (decide ((a0.size : Int) > 64)) (
 brB (decide ((a0.size : Int) > 64)) (
 ∀ w13, Adv [] [b1] w w13 →
 R (.int .i64 2) w13)
 (
 ∀ w14, Adv [] [b1] w w14 →
 R (.int .i64 0) w14))
 (
 brB (decide ((a1.size : Int) > 512)) (
 ∀ w15, Adv [] [b1] w w15 →
 R (.int .i64 2) w15)
 (
 ∀ w16, Adv [] [b1] w w16 →
 R (.int .i64 0) w16)))))
 (
 brB a3 (
 brB (!a2) (
 ∀ w17, Adv [] [b1] w w17 →
 R (.int .i64 30) w17)
 (
 brB (!(a1.toList == (⟨#[]⟩ : ByteArray).toList)) (
 ∀ w18, Adv [] [b1] w w18 →
 R (.int .i64 30) w18)
 (
 brB (decide ((a0.size : Int) > 64)) (
 brB (decide ((a0.size : Int) > 64)) (
 ∀ w19, Adv [] [b1] w w19 →
 R (.int .i64 2) w19)
 (
 ∀ w20, Adv [] [b1] w w20 →
 R (.int .i64 0) w20))
 (
 brB (decide ((a1.size : Int) > 512)) (
 ∀ w21, Adv [] [b1] w w21 →
 R (.int .i64 2) w21)
 (
 ∀ w22, Adv [] [b1] w w22 →
 R (.int .i64 0) w22)))))
 (
 brB (decide ((a0.size : Int) > 64)) (
 brB (decide ((a0.size : Int) > 64)) (
 ∀ w23, Adv [] [b1] w w23 →
 R (.int .i64 2) w23)
 (
 ∀ w24, Adv [] [b1] w w24 →
 R (.int .i64 0) w24))
 (
 brB (decide ((a1.size : Int) > 512)) (
 ∀ w25, Adv [] [b1] w w25 →
 R (.int .i64 2) w25)
 (
 ∀ w26, Adv [] [b1] w w26 →
 R (.int .i64 0) w26))))
theorem record_Check_eq (a0 : Bool) (a1 : ByteArray) (a2 : Bool) (a3 : ByteArray) (R : Value → World → Prop) (w : World) :
 dnF Tryz.prog record_Check_an (code Tryz.f162) 400 [] (post3 Tryz.prog Tryz.f162 [] R) ⟨args0 0 [(.agg #[(.bool a0), (.string a1), (.bool a2), (.string a3)])], fun _ => undef⟩ ⟨[], w, [], [], true⟩ = record_Check_T a0 a1 a2 a3 R w := by kernel_rfl
theorem record_Check_go {a0 : Bool} {a1 : ByteArray} {a2 : Bool} {a3 : ByteArray} {R : Value → World → Prop} {w : World} (h : record_Check_T a0 a1 a2 a3 R w) :
 Calls Tryz.prog 162 #[(.agg #[(.bool a0), (.string a1), (.bool a2), (.string a3)])] w fun e w' => ∃ v, e = .returned v ∧ R v w' :=
 calls_none Tryz.wide_mixed (f := 162) (args := [(.agg #[(.bool a0), (.string a1), (.bool a2), (.string a3)])]) Tryz.func162 rfl rfl (by kernel_rfl) rfl (Eq.mpr (record_Check_eq a0 a1 a2 a3 R w) h)
def record_kind_an : List LA := []
def record_kind_T (a0 : Bool) (a2 : ByteArray) (a1 : Bool) (a3 : ByteArray) (R : Value → World → Prop) (w : World) : Prop :=
 ∀ b1, w.heap.size ≤ b1 →
 brB a1 (
 ∀ w2, Adv [] [b1] w w2 →
 R (.int .u8 (IntKind.wrap .u8 ((IntKind.wrap .u8 (0 + 2)) + 1))) w2)
 (
 brB a0 (
 ∀ w3, Adv [] [b1] w w3 →
 R (.int .u8 (IntKind.wrap .u8 (0 + 1))) w3)
 (
 ∀ w4, Adv [] [b1] w w4 →
 R (.int .u8 0) w4))
theorem record_kind_eq (a0 : Bool) (a1 : ByteArray) (a2 : Bool) (a3 : ByteArray) (R : Value → World → Prop) (w : World) :
 dnF Tryz.prog record_kind_an (code Tryz.f172) 400 [] (post3 Tryz.prog Tryz.f172 [] R) ⟨args0 0 [(.agg #[(.bool a0), (.string a1), (.bool a2), (.string a3)])], fun _ => undef⟩ ⟨[], w, [], [], true⟩ = record_kind_T a0 a1 a2 a3 R w := by kernel_rfl
theorem record_kind_go {a0 : Bool} {a1 : ByteArray} {a2 : Bool} {a3 : ByteArray} {R : Value → World → Prop} {w : World} (h : record_kind_T a0 a1 a2 a3 R w) :
 Calls Tryz.prog 172 #[(.agg #[(.bool a0), (.string a1), (.bool a2), (.string a3)])] w fun e w' => ∃ v, e = .returned v ∧ R v w' :=
 calls_none Tryz.wide_mixed (f := 172) (args := [(.agg #[(.bool a0), (.string a1), (.bool a2), (.string a3)])]) Tryz.func172 rfl rfl (by kernel_rfl) rfl (Eq.mpr (record_kind_eq a0 a1 a2 a3 R w) h)
def ref03_Num_an : List LA := []
def ref03_Num_T (a0 : Int) (R : Value → World → Prop) (w : World) : Prop :=
 brB (decide (a0 ≥ 0)) (
 R (.bool (decide (a0 ≤ 1099511627776))) w)
 (
 R (.bool false) w)
theorem ref03_Num_eq (a0 : Int) (R : Value → World → Prop) (w : World) :
 dnF Tryz.prog ref03_Num_an (code Tryz.f110) 400 [] (post3 Tryz.prog Tryz.f110 [] R) ⟨args0 0 [(.int .i64 a0)], fun _ => undef⟩ ⟨[], w, [], [], true⟩ = ref03_Num_T a0 R w := by kernel_rfl
theorem ref03_Num_go {a0 : Int} {R : Value → World → Prop} {w : World} (h : ref03_Num_T a0 R w) :
 Calls Tryz.prog 110 #[(.int .i64 a0)] w fun e w' => ∃ v, e = .returned v ∧ R v w' :=
 calls_none Tryz.wide_mixed (f := 110) (args := [(.int .i64 a0)]) Tryz.func110 rfl rfl (by kernel_rfl) rfl (Eq.mpr (ref03_Num_eq a0 R w) h)
def ref03_Check_an : List LA := []
def ref03_Check_T (a3 : Bool) (a1 : ByteArray) (a2 : Bool) (a0 : ByteArray) (R : Value → World → Prop) (w : World) : Prop :=
 ∀ b1, w.heap.size ≤ b1 →
 brB (!a3) (
 brB (decide ((a1.size : Int) > 0)) (
 ∀ w2, Adv [] [b1] w w2 →
 R (.int .i64 30) w2)
 (
 brB a2 (
 brB (!a3) (
 ∀ w3, Adv [] [b1] w w3 →
 R (.int .i64 30) w3)
 (
 brB a2 (
 brB (decide ((a0.size : Int) > 0)) (
 ∀ w4, Adv [] [b1] w w4 →
 R (.int .i64 30) w4)
 (
 brB (decide ((a1.size : Int) > 64)) (
 ∀ w5, Adv [] [b1] w w5 →
 R (.int .i64 2) w5)
 (
 brB (decide ((a0.size : Int) > 512)) (
 ∀ w6, Adv [] [b1] w w6 →
 R (.int .i64 2) w6)
 (
 ∀ w7, Adv [] [b1] w w7 →
 R (.int .i64 0) w7))))
 (
 brB (decide ((a1.size : Int) > 64)) (
 ∀ w8, Adv [] [b1] w w8 →
 R (.int .i64 2) w8)
 (
 brB (decide ((a0.size : Int) > 512)) (
 ∀ w9, Adv [] [b1] w w9 →
 R (.int .i64 2) w9)
 (
 ∀ w10, Adv [] [b1] w w10 →
 R (.int .i64 0) w10)))))
 (
 brB a2 (
 brB (decide ((a0.size : Int) > 0)) (
 ∀ w11, Adv [] [b1] w w11 →
 R (.int .i64 30) w11)
 (
 brB (decide ((a1.size : Int) > 64)) (
 ∀ w12, Adv [] [b1] w w12 →
 R (.int .i64 2) w12)
 (
 brB (decide ((a0.size : Int) > 512)) (
 ∀ w13, Adv [] [b1] w w13 →
 R (.int .i64 2) w13)
 (
 ∀ w14, Adv [] [b1] w w14 →
 R (.int .i64 0) w14))))
 (
 brB (decide ((a1.size : Int) > 64)) (
 ∀ w15, Adv [] [b1] w w15 →
 R (.int .i64 2) w15)
 (
 brB (decide ((a0.size : Int) > 512)) (
 ∀ w16, Adv [] [b1] w w16 →
 R (.int .i64 2) w16)
 (
 ∀ w17, Adv [] [b1] w w17 →
 R (.int .i64 0) w17))))))
 (
 brB a2 (
 brB (!a3) (
 ∀ w18, Adv [] [b1] w w18 →
 R (.int .i64 30) w18)
 (
 brB a2 (
 brB (decide ((a0.size : Int) > 0)) (
 ∀ w19, Adv [] [b1] w w19 →
 R (.int .i64 30) w19)
 (
 brB (decide ((a1.size : Int) > 64)) (
 ∀ w20, Adv [] [b1] w w20 →
 R (.int .i64 2) w20)
 (
 brB (decide ((a0.size : Int) > 512)) (
 ∀ w21, Adv [] [b1] w w21 →
 R (.int .i64 2) w21)
 (
 ∀ w22, Adv [] [b1] w w22 →
 R (.int .i64 0) w22))))
 (
 brB (decide ((a1.size : Int) > 64)) (
 ∀ w23, Adv [] [b1] w w23 →
 R (.int .i64 2) w23)
 (
 brB (decide ((a0.size : Int) > 512)) (
 ∀ w24, Adv [] [b1] w w24 →
 R (.int .i64 2) w24)
 (
 ∀ w25, Adv [] [b1] w w25 →
 R (.int .i64 0) w25)))))
 (
 brB a2 (
 brB (decide ((a0.size : Int) > 0)) (
 ∀ w26, Adv [] [b1] w w26 →
 R (.int .i64 30) w26)
 (
 brB (decide ((a1.size : Int) > 64)) (
 ∀ w27, Adv [] [b1] w w27 →
 R (.int .i64 2) w27)
 (
 brB (decide ((a0.size : Int) > 512)) (
 ∀ w28, Adv [] [b1] w w28 →
 R (.int .i64 2) w28)
 (
 ∀ w29, Adv [] [b1] w w29 →
 R (.int .i64 0) w29))))
 (
 brB (decide ((a1.size : Int) > 64)) (
 ∀ w30, Adv [] [b1] w w30 →
 R (.int .i64 2) w30)
 (
 brB (decide ((a0.size : Int) > 512)) (
 ∀ w31, Adv [] [b1] w w31 →
 R (.int .i64 2) w31)
 (
 ∀ w32, Adv [] [b1] w w32 →
 R (.int .i64 0) w32)))))
theorem ref03_Check_eq (a0 : Bool) (a1 : ByteArray) (a2 : Bool) (a3 : ByteArray) (R : Value → World → Prop) (w : World) :
 dnF Tryz.prog ref03_Check_an (code Tryz.f145) 400 [] (post3 Tryz.prog Tryz.f145 [] R) ⟨args0 0 [(.agg #[(.bool a0), (.string a1), (.bool a2), (.string a3)])], fun _ => undef⟩ ⟨[], w, [], [], true⟩ = ref03_Check_T a0 a1 a2 a3 R w := by kernel_rfl
theorem ref03_Check_go {a0 : Bool} {a1 : ByteArray} {a2 : Bool} {a3 : ByteArray} {R : Value → World → Prop} {w : World} (h : ref03_Check_T a0 a1 a2 a3 R w) :
 Calls Tryz.prog 145 #[(.agg #[(.bool a0), (.string a1), (.bool a2), (.string a3)])] w fun e w' => ∃ v, e = .returned v ∧ R v w' :=
 calls_none Tryz.wide_mixed (f := 145) (args := [(.agg #[(.bool a0), (.string a1), (.bool a2), (.string a3)])]) Tryz.func145 rfl rfl (by kernel_rfl) rfl (Eq.mpr (ref03_Check_eq a0 a1 a2 a3 R w) h)
def ref04_Name_la1 : LA := ⟨[0, 0, 1, 0, 1, 1], [0, 3], [], 0, []⟩
def ref04_Name_an : List LA := [ref04_Name_la1]
def ref04_Name_v1 (a0 : ByteArray) (a1 : Int) : List Value := [(.string a0), (.int .i64 a1)]
def ref04_Name_m1 : List TB := []
def ref04_Name_L1 (a0 : ByteArray) (a1 : Int) (K1 : Kh) (R : Value → World → Prop) (w : World) : Prop :=
 brB (decide (a1 < (a0.size : Int))) (
 ixS a0 a1 fun x1 =>
 brB (decide (x1 ≥ 97)) (
 brB (decide (x1 ≤ 122)) (
 K1 (ref04_Name_v1 a0 (IntKind.wrap .i64 (a1 + 1))) (ref04_Name_m1) w)
 (
 brB (decide (x1 ≥ 48)) (
 brB (decide (x1 ≤ 57)) (
 K1 (ref04_Name_v1 a0 (IntKind.wrap .i64 (a1 + 1))) (ref04_Name_m1) w)
 (
 brB (!(x1 == 45)) (
 R (.bool false) w)
 (
 K1 (ref04_Name_v1 a0 (IntKind.wrap .i64 (a1 + 1))) (ref04_Name_m1) w)))
 (
 brB (!(x1 == 45)) (
 R (.bool false) w)
 (
 K1 (ref04_Name_v1 a0 (IntKind.wrap .i64 (a1 + 1))) (ref04_Name_m1) w))))
 (
 brB (decide (x1 ≥ 48)) (
 brB (decide (x1 ≤ 57)) (
 K1 (ref04_Name_v1 a0 (IntKind.wrap .i64 (a1 + 1))) (ref04_Name_m1) w)
 (
 brB (!(x1 == 45)) (
 R (.bool false) w)
 (
 K1 (ref04_Name_v1 a0 (IntKind.wrap .i64 (a1 + 1))) (ref04_Name_m1) w)))
 (
 brB (!(x1 == 45)) (
 R (.bool false) w)
 (
 K1 (ref04_Name_v1 a0 (IntKind.wrap .i64 (a1 + 1))) (ref04_Name_m1) w))))
 (
 R (.bool true) w)
theorem ref04_Name_L1_eq (a0 : ByteArray) (a1 : Int) (K1 : Kh) (js : Nat → Value) (R : Value → World → Prop) (w : World) :
 headA ref04_Name_la1 ((dnF Tryz.prog ref04_Name_an (code Tryz.f108) 396 [0, 0, 1, 0, 1, 1]) (kthen3 (atA ref04_Name_la1 K1) (kont3 Tryz.prog ref04_Name_an (code Tryz.f108) [1, 1, 0, 1, 0] [] (post3 Tryz.prog Tryz.f108 [] R)))) (ref04_Name_v1 a0 a1) js (ref04_Name_m1) w = ref04_Name_L1 a0 a1 K1 R w := by kernel_rfl
def ref04_Name_K1 (a1 : ByteArray) (I : Nat → Int → World → Prop) (m : Nat) (vals : List Value) (mem : List TB) (w : World) : Prop := ∃ m', m' < m ∧ ∃ a0, vals = (ref04_Name_v1 a1 a0) ∧ mem = (ref04_Name_m1) ∧ I m' a0 w
theorem ref04_Name_leaf1 {a0 : ByteArray} {I : Nat → Int → World → Prop} {m : Nat} {a1 : Int} {w : World} (m' : Nat) (h1 : m' < m) (h2 : I m' a1 w) : ref04_Name_K1 a0 I m (ref04_Name_v1 a0 a1) (ref04_Name_m1) w := ⟨m', h1, _, rfl, rfl, h2⟩
theorem ref04_Name_rule1 {a1 : ByteArray} {a2 : Int} {R : Value → World → Prop} {w0 : World} (I : Nat → Int → World → Prop) (m0 : Nat) (h0 : I m0 a2 w0)
 (hr : ∀ (m : Nat) (a0 : Int) (w : World), I m a0 w → ref04_Name_L1 a1 a0 (ref04_Name_K1 a1 I m) R w) :
 loopD3 ref04_Name_la1 (dnF Tryz.prog ref04_Name_an (code Tryz.f108) 396 [0, 0, 1, 0, 1, 1]) (kont3 Tryz.prog ref04_Name_an (code Tryz.f108) [1, 1, 0, 1, 0] [] (post3 Tryz.prog Tryz.f108 [] R)) (ref04_Name_v1 a1 a2) (ref04_Name_m1) w0 := by
 refine ⟨fun m vals mem w => ∃ a0, vals = (ref04_Name_v1 a1 a0) ∧ mem = (ref04_Name_m1) ∧ I m a0 w, m0, ⟨_, rfl, rfl, h0⟩, ?_⟩
 rintro m vals mem w ⟨a0, rfl, rfl, hI⟩
 refine ⟨rfl, rfl, fun js => ?_⟩
 have h := hr m a0 w hI
 rw [← ref04_Name_L1_eq _ _ _ js] at h
 exact h
def ref04_Name_T (a0 : ByteArray) (R : Value → World → Prop) (w : World) : Prop :=
 brB (decide ((a0.size : Int) < 1)) (
 R (.bool false) w)
 (
 brB (decide ((a0.size : Int) > 16)) (
 R (.bool false) w)
 (
 loopD3 ref04_Name_la1 (dnF Tryz.prog ref04_Name_an (code Tryz.f108) 396 [0, 0, 1, 0, 1, 1]) (kont3 Tryz.prog ref04_Name_an (code Tryz.f108) [1, 1, 0, 1, 0] [] (post3 Tryz.prog Tryz.f108 [] R)) (ref04_Name_v1 a0 0) (ref04_Name_m1) w))
theorem ref04_Name_eq (a0 : ByteArray) (R : Value → World → Prop) (w : World) :
 dnF Tryz.prog ref04_Name_an (code Tryz.f108) 400 [] (post3 Tryz.prog Tryz.f108 [] R) ⟨args0 0 [(.string a0)], fun _ => undef⟩ ⟨[], w, [], [], true⟩ = ref04_Name_T a0 R w := by kernel_rfl
theorem ref04_Name_go {a0 : ByteArray} {R : Value → World → Prop} {w : World} (h : ref04_Name_T a0 R w) :
 Calls Tryz.prog 108 #[(.string a0)] w fun e w' => ∃ v, e = .returned v ∧ R v w' :=
 calls_none Tryz.wide_mixed (f := 108) (args := [(.string a0)]) Tryz.func108 rfl rfl (by kernel_rfl) rfl (Eq.mpr (ref04_Name_eq a0 R w) h)
def request_Name_an : List LA := []
def request_Name_T (a0 : ByteArray) (R : Value → World → Prop) (w : World) : Prop :=
 brB (!(a0.toList == (⟨#[]⟩ : ByteArray).toList)) (
 brB (decide ((a0.size : Int) ≤ 16)) (
 Calls Tryz.prog 171 #[(.string a0), (.func (.func 170) #[] #[])] w fun e w1 => ∃ t2 : Bool, e = .returned (.bool t2) ∧
 R (.bool (!t2)) w1)
 (
 R (.bool false) w))
 (
 R (.bool false) w)
theorem request_Name_eq (a0 : ByteArray) (R : Value → World → Prop) (w : World) :
 dnF Tryz.prog request_Name_an (code Tryz.f163) 400 [] (post3 Tryz.prog Tryz.f163 [] R) ⟨args0 0 [(.string a0)], fun _ => undef⟩ ⟨[], w, [], [], true⟩ = request_Name_T a0 R w := by kernel_rfl
theorem request_Name_go {a0 : ByteArray} {R : Value → World → Prop} {w : World} (h : request_Name_T a0 R w) :
 Calls Tryz.prog 163 #[(.string a0)] w fun e w' => ∃ v, e = .returned v ∧ R v w' :=
 calls_none Tryz.wide_mixed (f := 163) (args := [(.string a0)]) Tryz.func163 rfl rfl (by kernel_rfl) rfl (Eq.mpr (request_Name_eq a0 R w) h)
def request_Name_1_an : List LA := []
def request_Name_1_T (a0 : Int) (R : Value → World → Prop) (w : World) : Prop :=
 brB (decide (a0 < 97)) (
 brB (decide (a0 < 48)) (
 R (.bool (a0 != 45)) w)
 (
 brB (decide (a0 > 57)) (
 R (.bool (a0 != 45)) w)
 (
 R (.bool false) w)))
 (
 brB (decide (a0 > 122)) (
 brB (decide (a0 < 48)) (
 R (.bool (a0 != 45)) w)
 (
 brB (decide (a0 > 57)) (
 R (.bool (a0 != 45)) w)
 (
 R (.bool false) w)))
 (
 R (.bool false) w))
theorem request_Name_1_eq (a0 : Int) (R : Value → World → Prop) (w : World) :
 dnF Tryz.prog request_Name_1_an (code Tryz.f170) 400 [] (post3 Tryz.prog Tryz.f170 [] R) ⟨args0 0 [(.int .i32 a0)], fun _ => undef⟩ ⟨[], w, [], [], true⟩ = request_Name_1_T a0 R w := by kernel_rfl
theorem request_Name_1_go {a0 : Int} {R : Value → World → Prop} {w : World} (h : request_Name_1_T a0 R w) :
 Calls Tryz.prog 170 #[(.int .i32 a0)] w fun e w' => ∃ v, e = .returned v ∧ R v w' :=
 calls_none Tryz.wide_mixed (f := 170) (args := [(.int .i32 a0)]) Tryz.func170 rfl rfl (by kernel_rfl) rfl (Eq.mpr (request_Name_1_eq a0 R w) h)
end Go.Proofs.YtohgihgddknmmaaGreat

/- Small functions of records, replies: by their contracts. -/
namespace Go.Proofs.YtohgihgddknmmaaGreat
open Go Go.RowKit
set_option linter.unusedVariables false
set_option linter.unusedSimpArgs false

def num (n : Int) : Bool := decide (0 ≤ n ∧ n ≤ 1099511627776)
def num1 (n : Int) : Bool := decide (1 ≤ n ∧ n ≤ 1099511627776)
theorem number4_ok (n : Int) (w : World) : Calls Tryz.prog 161 #[.int .i64 n] w fun e w' => e = .returned (.bool (num n)) ∧ w' = w :=
  go_of (request_number_go (brB_dec (fun h => ⟨by simp [num]; omega, rfl⟩) (fun h => ⟨by simp [num]; omega, rfl⟩)))
theorem Num3_ok (n : Int) (w : World) : Calls Tryz.prog 110 #[.int .i64 n] w fun e w' => e = .returned (.bool (num n)) ∧ w' = w :=
  go_of (ref03_Num_go (brB_dec (fun h => ⟨by simp [num]; omega, rfl⟩) (fun h => ⟨by simp [num]; omega, rfl⟩)))
/-! ### records -/
def recN (hk tomb : Bool) (k v : Nat) : Int :=
  if (!hk && decide (k ≠ 0)) || (tomb && (!hk || decide (v ≠ 0))) then 30 else if k > 64 ∨ v > 512 then 2 else 0
def recE (r : PRec) : Int := recN r.hk r.tomb r.key.size r.val.size
theorem RecCheck_ok (r : PRec) (w : World) : Calls Tryz.prog 162 #[r.v] w fun e w' => e = .returned (.int .i64 (recE r)) ∧ Mod [] w w' := by
  obtain ⟨hk, key, tomb, val⟩ := r
  refine go_of (record_Check_go ?_)
  intro b1 f1
  have e1 : (!(key.toList == (⟨#[]⟩ : ByteArray).toList)) = decide (key.size ≠ 0) := by rw [strEq]; simp [size0]
  have e2 : (!(val.toList == (⟨#[]⟩ : ByteArray).toList)) = decide (val.size ≠ 0) := by rw [strEq]; simp [size0]
  rw [e1, e2]
  clear e1 e2
  unfold recE
  generalize key.size = k
  generalize val.size = v
  repeat' (first | refine brB_of (fun _ => ?_) (fun _ => ?_) | (intro w' A))
  all_goals
    refine ⟨congrArg (Value.int .i64) ?_, Adv.mod (by assumption)⟩
    unfold recN
    cases hk <;> cases tomb <;> simp at * <;> (repeat' split) <;> omega
theorem RefCheck_ok (r : PRec) (w : World) : Calls Tryz.prog 145 #[r.v] w fun e w' => e = .returned (.int .i64 (recE r)) ∧ Mod [] w w' := by
  obtain ⟨hk, key, tomb, val⟩ := r
  refine go_of (ref03_Check_go ?_)
  intro b1 f1
  unfold recE
  generalize key.size = k
  generalize val.size = v
  repeat' (first | refine brB_of (fun _ => ?_) (fun _ => ?_) | (intro w' A))
  all_goals
    refine ⟨congrArg (Value.int .i64) ?_, Adv.mod (by assumption)⟩
    unfold recN
    cases hk <;> cases tomb <;> simp at * <;> (repeat' split) <;> omega

/-! ### names -/
def okC (c : Int) : Bool := decide (97 ≤ c ∧ c ≤ 122) || decide (48 ≤ c ∧ c ≤ 57) || decide (c = 45)
def nameB (s : ByteArray) : Bool := decide (1 ≤ s.size ∧ s.size ≤ 16) && s.data.toList.all fun b => okC b.toNat
theorem byteAt_mem {s : ByteArray} {k : Nat} (h : k < s.size) : ∃ b : UInt8, s.data.toList[k]? = some b ∧ byteAt s k = b.toNat := by
  have h' : k < s.data.toList.length := by simpa using h
  exact ⟨s.data.toList[k], List.getElem?_eq_getElem h', by rw [byteAt, List.getD_eq_getElem?_getD, List.getElem?_eq_getElem h']; rfl⟩
theorem RName_ok (s : ByteArray) (w : World) : Calls Tryz.prog 108 #[.string s] w fun e w' => e = .returned (.bool (nameB s)) ∧ w' = w := by
  refine go_of (ref04_Name_go ?_)
  refine brB_dec (fun h => ⟨by simp [nameB]; omega, rfl⟩) fun g1 => ?_
  refine brB_dec (fun h => ⟨by simp [nameB]; omega, rfl⟩) fun g2 => ?_
  refine ref04_Name_rule1 (fun mm x w' => ∃ k : Nat, x = k ∧ k ≤ s.size ∧ ((s.data.toList.take k).all fun b => okC b.toNat) = true ∧ w' = w ∧ mm = s.size - k) s.size ⟨0, rfl, by omega, by simp, rfl, rfl⟩ ?_
  rintro mm x w' ⟨k, rfl, hk, ha, rfl, rfl⟩
  refine brB_dec (fun hlt => ?_) fun hge => ?_
  · have hk' : k < s.size := by omega
    obtain ⟨b, hb, hv⟩ := byteAt_mem hk'
    refine ⟨by omega, by omega, ?_⟩
    rw [Int.toNat_natCast, hv]
    have bad : okC b.toNat = false → nameB s = false := fun h => by
      have : (s.data.toList.all fun b => okC b.toNat) = false := by
        rw [List.all_eq_false]
        exact ⟨b, List.mem_of_getElem? hb, by simp [h]⟩
      simp only [nameB, this, Bool.and_false]
    have good : okC b.toNat = true → ((s.data.toList.take (k + 1)).all fun b => okC b.toNat) = true := fun h => by
      rw [List.take_add_one, hb]
      simp at ha ⊢
      exact ⟨ha, h⟩
    repeat' (first | refine brB_of (fun _ => ?_) (fun _ => ?_) | (intro w' A))
    all_goals first
      | (refine ref04_Name_leaf1 (s.size - (k + 1)) (by omega) ⟨k + 1, by rw [wrap_id (by omega) (by omega)]; omega, by omega, good ?_, rfl, rfl⟩
         simp [okC] at *
         omega)
      | (refine ⟨congrArg Value.bool (bad ?_).symm, rfl⟩
         simp [okC] at *
         omega)
  · have hk : k = s.size := by omega
    subst hk
    refine ⟨?_, rfl⟩
    rw [List.take_of_length_le (by simp)] at ha
    simp only [nameB, ha, Bool.and_true]
    rw [decide_eq_true (by omega)]

/-! ### lists side by side -/
theorem take_step {α : Type} {l1 l2 : List α} {k : Nat} {x : α} (ht : l1.take k = l2.take k) (h1 : l1[k]? = some x) (h2 : l2[k]? = some x) : l1.take (k + 1) = l2.take (k + 1) := by
  rw [List.take_add_one, List.take_add_one, ht, h1, h2]
end Go.Proofs.YtohgihgddknmmaaGreat

/- Whether a reply may be. -/
namespace Go.Proofs.YtohgihgddknmmaaGreat
open Go Go.RowKit
set_option linter.unusedVariables false
set_option linter.unusedSimpArgs false

theorem take_all {α : Type} {p : α → Bool} {l : List α} {k : Nat} {x : α} (hx : l[k]? = some x) : (l.take (k + 1)).all p = ((l.take k).all p && p x) := by
  rw [List.take_add_one, hx]; simp
theorem take_any {α : Type} {p : α → Bool} {l : List α} {k : Nat} {x : α} (hx : l[k]? = some x) : (l.take (k + 1)).any p = ((l.take k).any p || p x) := by
  rw [List.take_add_one, hx]; simp

theorem notT {b : Bool} (h : (!b) = true) : b = false := by cases b <;> simp_all
theorem notF {b : Bool} (h : (!b) = false) : b = true := by cases b <;> simp_all

/-- 'request.Name' answers as the document says. -/
def NameOk : Prop := ∀ (s : ByteArray) (w : World), Calls Tryz.prog 163 #[.string s] w fun e w' => e = .returned (.bool (nameB s)) ∧ Mod [] w w'

end Go.Proofs.YtohgihgddknmmaaGreat

/- Names, by the program. -/
namespace Go.Proofs
open Go.Shelf
shelf_lay LaysGw.n17 Ggw 17 at Tryz as Tryz.layCF
end Go.Proofs
namespace Go.Proofs.YtohgihgddknmmaaGreat
open Go Go.RowKit
set_option linter.unusedVariables false
set_option linter.unusedSimpArgs false

theorem Odd_ok (c : Int) (w : World) : Calls Tryz.prog 170 #[.int .i32 c] w fun e w' => e = .returned (.bool (!okC c)) ∧ w' = w := by
  refine go_of (request_Name_1_go ?_)
  repeat' (first | refine brB_of (fun _ => ?_) (fun _ => ?_) | (intro w' A))
  all_goals
    refine ⟨congrArg Value.bool ?_, rfl⟩
    rw [Bool.eq_iff_iff]
    simp [okC] at *
    try omega
theorem odd_from (s : ByteArray) : ∀ (f pos : Nat), s.size ≤ pos + f → (0 ≤ Lib.idxFuncFrom (fun x => !okC x) true s f pos ↔ ∃ i b, pos ≤ i ∧ s.data.toList[i]? = some b ∧ okC (b.toNat : Int) = false)
  | 0, pos, h => by
    constructor
    · intro h; simp [Lib.idxFuncFrom] at h
    · rintro ⟨i, b, h1, h2, _⟩
      have := (List.getElem?_eq_some_iff.1 h2).1
      simp at this; omega
  | f + 1, pos, h => by
    unfold Lib.idxFuncFrom
    split
    · rename_i hp
      have hd : s.data.toList[pos]? = some s[pos] := by
        rw [List.getElem?_eq_getElem (by simpa using hp)]; rfl
      by_cases ha : (s[pos]).toNat < 128
      · rw [decode_ascii s pos hp ha]
        have ih := odd_from s f (pos + 1) (by omega)
        by_cases ho : okC ((s[pos]).toNat : Int) = true
        · simp only [ho, Bool.not_true]
          rw [if_neg (by decide), ih]
          constructor
          · rintro ⟨i, b, h1, h2, h3⟩; exact ⟨i, b, by omega, h2, h3⟩
          · rintro ⟨i, b, h1, h2, h3⟩
            refine ⟨i, b, ?_, h2, h3⟩
            rcases Nat.lt_or_ge pos i with h4 | h4
            · exact h4
            · have : i = pos := by omega
              subst this
              rw [hd] at h2; cases h2
              rw [ho] at h3; cases h3
        · have ho' : okC ((s[pos]).toNat : Int) = false := by simpa using ho
          simp only [ho', Bool.not_false]
          rw [if_pos trivial]
          exact ⟨fun _ => ⟨pos, _, Nat.le_refl _, hd, ho'⟩, fun _ => by omega⟩
      · have h1 := decode_high s pos hp (by omega)
        have ho : okC ((Utf8.decode s pos).1 : Int) = false := by simp [okC]; omega
        have ho' : okC ((s[pos]).toNat : Int) = false := by simp [okC]; omega
        simp only [ho, Bool.not_false]
        rw [if_pos trivial]
        exact ⟨fun _ => ⟨pos, _, Nat.le_refl _, hd, ho'⟩, fun _ => by omega⟩
    · rename_i hp
      constructor
      · intro h; simp at h
      · rintro ⟨i, b, h1, h2, _⟩
        have := (List.getElem?_eq_some_iff.1 h2).1
        simp at this; omega

theorem Name_ok : NameOk := by
  intro s w
  refine go_of (request_Name_go ?_)
  unfold request_Name_T
  rw [strEq]
  refine brB_of (fun g1 => ?_) (fun g1 => ⟨?_, Mod.refl _⟩)
  rotate_left
  · have g1 := notF g1
    have h0 := (size0 s).1 (of_decide_eq_true g1)
    simp [nameB, h0]
  have h1 : s.size ≠ 0 := fun e => by rw [decide_eq_true ((size0 s).2 e)] at g1; cases g1
  refine brB_dec (fun g2 => ?_) (fun g2 => ⟨by simp [nameB]; omega, Mod.refl _⟩)
  have hC := Any.strings_ContainsFunc_grows Tryz.layCF 170 #[] (enters_of Tryz.func170 (by kernel_rfl) rfl) (fun x => !okC x) s w
    (fun W x _ _ => (Odd_ok (x : Int) W).mono fun e w' ⟨h, h'⟩ => ⟨h, by rw [h']; exact Below.refl _ _⟩)
  refine hC.mono ?_
  rintro e w1 ⟨rfl, hb⟩
  refine ⟨_, rfl, ?_, Mod.of_below hb⟩
  refine congrArg Value.bool ?_
  have ho := odd_from s s.size 0 (by omega)
  rw [Bool.eq_iff_iff]
  simp only [nameB, Bool.not_eq_true', decide_eq_false_iff_not, Bool.and_eq_true, decide_eq_true_eq, List.all_eq_true]
  unfold Lib.idxFunc
  rw [ho]
  constructor
  · intro h
    refine ⟨by omega, fun b hb => ?_⟩
    obtain ⟨i, hi⟩ := List.getElem?_of_mem hb
    by_cases hk : okC (b.toNat : Int) = true
    · exact hk
    · exact absurd ⟨i, b, Nat.zero_le _, hi, by simpa using hk⟩ h
  · rintro ⟨_, h⟩ ⟨i, b, _, hi, hk⟩
    rw [h b (List.mem_of_getElem? hi)] at hk; cases hk
end Go.Proofs.YtohgihgddknmmaaGreat

/- The conditions of Go functions' bodies, printed by gen2.py. -/
namespace Go.Proofs.YtohgihgddknmmaaGreat
open Go Go.RowKit
set_option linter.unusedVariables false
set_option maxRecDepth 100000

def varint_PutText_an : List LA := []
def varint_PutText_T (a0 : ByteArray) (R : Value → World → Prop) (w : World) : Prop :=
 Calls Tryz.prog 77 #[(.int .u64 (IntKind.wrap .u64 (a0.size : Int)))] w fun e w1 => ∃ s2 : ByteArray, e = .returned (.string s2) ∧
 catS s2 a0 fun s3 =>
 R (.string s3) w1
theorem varint_PutText_eq (a0 : ByteArray) (R : Value → World → Prop) (w : World) :
 dnF Tryz.prog varint_PutText_an (code Tryz.f80) 400 [] (post3 Tryz.prog Tryz.f80 [] R) ⟨args0 0 [(.string a0)], fun _ => undef⟩ ⟨[], w, [], [], true⟩ = varint_PutText_T a0 R w := by kernel_rfl
theorem varint_PutText_go {a0 : ByteArray} {R : Value → World → Prop} {w : World} (h : varint_PutText_T a0 R w) :
 Calls Tryz.prog 80 #[(.string a0)] w fun e w' => ∃ v, e = .returned v ∧ R v w' :=
 calls_none Tryz.wide_mixed (f := 80) (args := [(.string a0)]) Tryz.func80 rfl rfl (by kernel_rfl) rfl (Eq.mpr (varint_PutText_eq a0 R w) h)
def record_text_an : List LA := []
def record_text_T (a2 : Bool) (a3 : ByteArray) (a0 : Bool) (a1 : ByteArray) (R : Value → World → Prop) (w : World) : Prop :=
 ∀ b1, w.heap.size ≤ b1 →
 ∀ w2, Adv [] [b1] w w2 →
 Calls Tryz.prog 172 #[(.agg #[(.bool a2), (.string a3), (.bool a0), (.string a1)])] w2 fun e w3 => ∃ x4 : Int, e = .returned (.int .u8 x4) ∧ Keep [b1] w2 w3 ∧
 al w3 (.cells #[(.int .u8 x4)] 5) fun b5 w6 =>
 ∃ s7 w8, Sem.run Tryz.prog (Go.convert 122 9 (.slice (some ⟨b5, 0, none⟩) 1 1)) w6 = .ok (.string s7) w8 ∧ Keep [b1] w6 w8 ∧
 brB a2 (
 Calls Tryz.prog 80 #[(.string a3)] w8 fun e w9 => ∃ s10 : ByteArray, e = .returned (.string s10) ∧ Keep [b1] w8 w9 ∧
 catS s7 s10 fun s11 =>
 brB (!a0) (
 Calls Tryz.prog 80 #[(.string a1)] w9 fun e w12 => ∃ s13 : ByteArray, e = .returned (.string s13) ∧ Keep [b1] w9 w12 ∧
 catS s11 s13 fun s14 =>
 R (.string s14) w12)
 (
 R (.string s11) w9))
 (
 brB (!a0) (
 Calls Tryz.prog 80 #[(.string a1)] w8 fun e w15 => ∃ s16 : ByteArray, e = .returned (.string s16) ∧ Keep [b1] w8 w15 ∧
 catS s7 s16 fun s17 =>
 R (.string s17) w15)
 (
 R (.string s7) w8))
theorem record_text_eq (a0 : Bool) (a1 : ByteArray) (a2 : Bool) (a3 : ByteArray) (R : Value → World → Prop) (w : World) :
 dnF Tryz.prog record_text_an (code Tryz.f164) 400 [] (post3 Tryz.prog Tryz.f164 [] R) ⟨args0 0 [(.agg #[(.bool a0), (.string a1), (.bool a2), (.string a3)])], fun _ => undef⟩ ⟨[], w, [], [], true⟩ = record_text_T a0 a1 a2 a3 R w := by kernel_rfl
theorem record_text_go {a0 : Bool} {a1 : ByteArray} {a2 : Bool} {a3 : ByteArray} {R : Value → World → Prop} {w : World} (h : record_text_T a0 a1 a2 a3 R w) :
 Calls Tryz.prog 164 #[(.agg #[(.bool a0), (.string a1), (.bool a2), (.string a3)])] w fun e w' => ∃ v, e = .returned v ∧ R v w' :=
 calls_none Tryz.wide_mixed (f := 164) (args := [(.agg #[(.bool a0), (.string a1), (.bool a2), (.string a3)])]) Tryz.func164 rfl rfl (by kernel_rfl) rfl (Eq.mpr (record_text_eq a0 a1 a2 a3 R w) h)
def request_writer_number_an : List LA := []
def request_writer_number_T (a0 : Addr) (a1 : Addr) (R : Value → World → Prop) (w : World) : Prop :=
 ∀ w1, Adv [] [] w w1 →
 ldInt .i64 w1 a1 fun x2 =>
 Calls Tryz.prog 77 #[(.int .u64 (IntKind.wrap .u64 x2))] w1 fun e w3 => ∃ s4 : ByteArray, e = .returned (.string s4) ∧
 Calls Tryz.prog 76 #[(.pointer (some a0)), (.string s4)] w3 fun e w5 => ∃ x6 : Int, ∃ v7 : Value, e = .returned (.tuple #[(.int .i64 x6), v7]) ∧
 R (.tuple #[]) w5
theorem request_writer_number_eq (a0 : Addr) (a1 : Addr) (R : Value → World → Prop) (w : World) :
 dnF Tryz.prog request_writer_number_an (code Tryz.f127) 400 [] (post3 Tryz.prog Tryz.f127 [] R) ⟨args0 0 [(.pointer (some a0)), (.pointer (some a1))], fun _ => undef⟩ ⟨[], w, [], [], true⟩ = request_writer_number_T a0 a1 R w := by kernel_rfl
theorem request_writer_number_go {a0 : Addr} {a1 : Addr} {R : Value → World → Prop} {w : World} (h : request_writer_number_T a0 a1 R w) :
 Calls Tryz.prog 127 #[(.pointer (some a0)), (.pointer (some a1))] w fun e w' => ∃ v, e = .returned v ∧ R v w' :=
 calls_none Tryz.wide_mixed (f := 127) (args := [(.pointer (some a0)), (.pointer (some a1))]) Tryz.func127 rfl rfl (by kernel_rfl) rfl (Eq.mpr (request_writer_number_eq a0 a1 R w) h)
def request_writer_name_an : List LA := []
def request_writer_name_T (a0 : Addr) (a1 : Addr) (R : Value → World → Prop) (w : World) : Prop :=
 ∀ w1, Adv [] [] w w1 →
 ldStr w1 a1 fun s2 =>
 Calls Tryz.prog 80 #[(.string s2)] w1 fun e w3 => ∃ s4 : ByteArray, e = .returned (.string s4) ∧
 Calls Tryz.prog 76 #[(.pointer (some a0)), (.string s4)] w3 fun e w5 => ∃ x6 : Int, ∃ v7 : Value, e = .returned (.tuple #[(.int .i64 x6), v7]) ∧
 R (.tuple #[]) w5
theorem request_writer_name_eq (a0 : Addr) (a1 : Addr) (R : Value → World → Prop) (w : World) :
 dnF Tryz.prog request_writer_name_an (code Tryz.f206) 400 [] (post3 Tryz.prog Tryz.f206 [] R) ⟨args0 0 [(.pointer (some a0)), (.pointer (some a1))], fun _ => undef⟩ ⟨[], w, [], [], true⟩ = request_writer_name_T a0 a1 R w := by kernel_rfl
theorem request_writer_name_go {a0 : Addr} {a1 : Addr} {R : Value → World → Prop} {w : World} (h : request_writer_name_T a0 a1 R w) :
 Calls Tryz.prog 206 #[(.pointer (some a0)), (.pointer (some a1))] w fun e w' => ∃ v, e = .returned v ∧ R v w' :=
 calls_none Tryz.wide_mixed (f := 206) (args := [(.pointer (some a0)), (.pointer (some a1))]) Tryz.func206 rfl rfl (by kernel_rfl) rfl (Eq.mpr (request_writer_name_eq a0 a1 R w) h)
end Go.Proofs.YtohgihgddknmmaaGreat

/- A reply's bytes: records, texts, numbers, as they are written. -/
namespace Go.Proofs.YtohgihgddknmmaaGreat
open Go Go.RowKit
set_option linter.unusedVariables false
set_option linter.unusedSimpArgs false

def bs (l : List UInt8) : ByteArray := ⟨l.toArray⟩
theorem bs_size (l : List UInt8) : (bs l).size = l.length := by simp [bs, ByteArray.size]
theorem bs_append (a : List UInt8) (s : ByteArray) : bs a ++ s = bs (a ++ s.data.toList) := by
  apply ByteArray.ext
  simp [bs, ByteArray.data_append]
theorem bs_app (a b : List UInt8) : bs a ++ bs b = bs (a ++ b) := by rw [bs_append]; simp [bs]
theorem vPutL_len (n : Nat) (hn : n < 18446744073709551616) : 1 ≤ (vPutL n).length ∧ (vPutL n).length ≤ 10 := by
  have := sevL_len 9 n (by omega)
  simp [vPutL]; omega
def putT (s : ByteArray) : List UInt8 := vPutL s.size ++ s.data.toList
theorem putT_len (s : ByteArray) (hs : s.size ≤ 4611686018427387904) : 1 ≤ (putT s).length ∧ (putT s).length ≤ s.size + 10 := by
  have h := vPutL_len s.size (by omega)
  have e : (putT s).length = (vPutL s.size).length + s.size := by rw [putT, List.length_append, Array.length_toList]; rfl
  omega
theorem wrapU {n : Nat} (hn : n < 18446744073709551616) : IntKind.wrap .u64 (n : Int) = (n : Int) := by rw [IntKind.wrap_u64]; omega

theorem PutText_ok (s : ByteArray) (hs : s.size ≤ 4611686018427387904) (w : World) : Calls Tryz.prog 80 #[.string s] w fun e w' => e = .returned (.string (bs (putT s))) ∧ Mod [] w w' := by
  refine go_of (varint_PutText_go ?_)
  unfold varint_PutText_T
  rw [wrapU (by omega)]
  refine (Put_ok s.size (by omega) w).mono ?_
  rintro e w1 ⟨rfl, M1⟩
  have h2 := vPut_size s.size (by omega)
  exact ⟨_, rfl, by omega, congrArg Value.string (bs_append _ _), M1⟩

/-! ### records -/
def kindB (r : PRec) : UInt8 := if r.tomb then 3 else if r.hk then 1 else 0
theorem kind_ok (r : PRec) (w : World) : Calls Tryz.prog 172 #[r.v] w fun e w' => e = .returned (.int .u8 ((kindB r).toNat : Int)) ∧ Mod [] w w' := by
  obtain ⟨hk, key, tomb, val⟩ := r
  refine go_of (record_kind_go ?_)
  intro b1 f1
  refine brB_of (fun h => ?_) fun h => ?_
  · intro w1 A1; subst h; exact ⟨rfl, A1.mod⟩
  · subst h
    refine brB_of (fun h => ?_) fun h => ?_
    · intro w1 A1; subst h; exact ⟨rfl, A1.mod⟩
    · intro w1 A1; subst h; exact ⟨rfl, A1.mod⟩
def recB (r : PRec) : List UInt8 := [kindB r] ++ (if r.hk then putT r.key else []) ++ (if r.tomb then [] else putT r.val)
theorem recE_small {r : PRec} (h : recE r = 0) : r.key.size ≤ 64 ∧ r.val.size ≤ 512 := by
  unfold recE recN at h
  split at h
  · omega
  · split at h <;> omega
theorem text_ok (r : PRec) (hr : recE r = 0) (w : World) : Calls Tryz.prog 164 #[r.v] w fun e w' => e = .returned (.string (bs (recB r))) ∧ Mod [] w w' := by
  obtain ⟨hk, vs⟩ := recE_small hr
  refine go_of (record_text_go ?_)
  intro b1 f1 w1 A1
  refine (kind_ok r w1).mono ?_
  rintro e w2 ⟨rfl, M2⟩
  refine ⟨_, rfl, Keep.of0 M2, ?_⟩
  have N2 := A1.mod.go0 M2 (by simp)
  refine al_of fun b3 w3 c3 M3 f3 => ?_
  have N3 := N2.go0 M3 (by simp)
  have hcv := run_convert_bytes_back (P := Tryz.prog) w3 122 9 5 ⟨b3, 0, none⟩ 1 [kindB r] Tryz.underlying122 Tryz.underlying5 Tryz.underlying9 fun j hj => by
    simp at hj; subst hj
    rw [addr_add, cell_at c3]; rfl
  refine ⟨_, _, hcv, Keep.of0 (Mod.refl _), ?_⟩
  obtain ⟨h1, key, h3, val⟩ := r
  have e0 : (⟨[kindB ⟨h1, key, h3, val⟩].toArray⟩ : ByteArray) = bs [kindB ⟨h1, key, h3, val⟩] := rfl
  rw [e0]
  simp only at hk vs
  have l1 : (putT key).length ≤ 74 := by have := putT_len key (by omega); omega
  have l2 : (putT val).length ≤ 522 := by have := putT_len val (by omega); omega
  refine brB_of (fun g1 => ?_) fun g1 => ?_
  · subst g1
    refine (PutText_ok key (by omega) w3).mono ?_
    rintro e w4 ⟨rfl, M4⟩
    refine ⟨_, rfl, Keep.of0 M4, by simp only [bs_size]; simp; omega, ?_⟩
    rw [bs_app]
    refine brB_of (fun g2 => ?_) fun g2 => ?_
    · have g2 : h3 = false := notT g2
      subst g2
      refine (PutText_ok val (by omega) w4).mono ?_
      rintro e w5 ⟨rfl, M5⟩
      refine ⟨_, rfl, Keep.of0 M5, by simp only [bs_size]; simp; omega, ?_⟩
      exact ⟨by rw [bs_app]; simp [recB], (N3.go0 M4 (by simp)).go0 M5 (by simp)⟩
    · have g2 : h3 = true := notF g2
      subst g2
      exact ⟨by simp [recB], N3.go0 M4 (by simp)⟩
  · subst g1
    refine brB_of (fun g2 => ?_) fun g2 => ?_
    · have g2 : h3 = false := notT g2
      subst g2
      refine (PutText_ok val (by omega) w3).mono ?_
      rintro e w5 ⟨rfl, M5⟩
      refine ⟨_, rfl, Keep.of0 M5, by simp only [bs_size]; simp; omega, ?_⟩
      exact ⟨by rw [bs_app]; simp [recB], N3.go0 M5 (by simp)⟩
    · have g2 : h3 = true := notF g2
      subst g2
      exact ⟨by simp [recB], N3⟩
theorem recB_len {r : PRec} (hr : recE r = 0) : (recB r).length ≤ 600 := by
  obtain ⟨hk, vs⟩ := recE_small hr
  have l1 : (putT r.key).length ≤ 74 := by have := putT_len r.key (by omega); omega
  have l2 : (putT r.val).length ≤ 522 := by have := putT_len r.val (by omega); omega
  unfold recB
  split <;> split <;> simp <;> omega
/-! ### the writer -/
theorem BTw : BT 184 := ⟨by kernel_rfl, by decide⟩
/-- What has been written. -/
abbrev Bd (B b : Nat) (l : List UInt8) (w : World) : Prop := Lib.IsBuilderF 184 5 B b (Lib.byteCells l) w
/-- What a method of it leaves. -/
structure Wr (B b : Nat) (w w' : World) : Prop where
  bel : Below B w w'
  oth : Lib.OthersKept 5 (some b) w w'
theorem Wr.of0 {B b : Nat} {w w' : World} (M : Mod [] w w') (hB : B ≤ w.heap.size) : Wr B b w w' :=
  ⟨⟨M.os, M.tape, M.output, M.size, fun k hk => M.block k (by omega) (by simp)⟩, fun k o hk _ _ => M.keep0 hk⟩
theorem Wr.trans {B b : Nat} {x y z : World} (h : Wr B b x y) (k : Wr B b y z) : Wr B b x z := ⟨h.bel.trans k.bel, h.oth.trans k.oth⟩
theorem Bd.keep0 {B b : Nat} {l : List UInt8} {w w' : World} (h : Bd B b l w) (M : Mod [] w w') : Bd B b l w' := by
  have one : ∀ {p bs}, Lib.BuilderAtF 184 5 B b p bs w → Lib.BuilderAtF 184 5 B b p bs w' := by
    rintro p bs ⟨hB, v, hb, ⟨hl, ho⟩, hne⟩
    refine ⟨hB, v, M.keep0 hb, ⟨hl, ?_⟩, hne⟩
    rcases ho with ho | ⟨g, cap, cur, fz, hv, hg, hh, r⟩
    · exact .inl ho
    · exact .inr ⟨g, cap, cur, fz, hv, hg, M.keep0 hh, r⟩
  exact h.elim (fun x => .inl (one x)) (fun x => .inr (one x))
theorem Bd.lt {B b : Nat} {l : List UInt8} {w : World} (h : Bd B b l w) : B ≤ b ∧ b < w.heap.size := h.elim (fun x => ⟨x.1, x.lt⟩) (fun x => ⟨x.1, x.lt⟩)
theorem Bd.cells {B b : Nat} {l : List UInt8} {w : World} (h : Bd B b l w) : ∃ (p a : Option Addr) (n c : Nat), w.heap[b]? = some (.cells #[.pointer p, .slice a n c] 184) := by
  have one : ∀ {p bs}, Lib.BuilderAtF 184 5 B b (.pointer p) bs w → ∃ (p a : Option Addr) (n c : Nat), w.heap[b]? = some (.cells #[.pointer p, .slice a n c] 184) := by
    rintro p bs ⟨hB, v, hb, ⟨hl, ho⟩, hne⟩
    rcases ho with ⟨rfl, _⟩ | ⟨g, cap, cur, fz, rfl, hg, hh, r⟩
    · exact ⟨_, _, _, _, hb⟩
    · exact ⟨_, _, _, _, hb⟩
  exact h.elim one one
theorem WS_ok {B b : Nat} {l l2 : List UInt8} {w : World} (h : Bd B b l w) (hlen : l.length + l2.length ≤ 100000000000) (hB : B ≤ w.heap.size) :
    Calls Tryz.prog 76 #[.pointer (some ⟨b, 0, none⟩), .string (bs l2)] w fun e w' => e = .returned (.tuple #[.int .i64 ((bs l2).size : Nat), .nilIface]) ∧ (Bd B b (l ++ l2) w' ∧ Wr B b w w') := by
  refine (WriteString_ok BTw B b (Lib.byteCells l) (bs l2) w h (by rw [Lib.byteCells_length, bs_size]; omega) hB).mono ?_
  rintro e w' ⟨rfl, h1, h2, h3⟩
  refine ⟨rfl, .inr ?_, ⟨h2, h3⟩⟩
  have e : Lib.byteCells (l ++ l2) = Lib.byteCells l ++ Lib.strCells (bs l2) := by simp [Lib.byteCells, Lib.strCells, bs]
  rw [e]; exact h1
theorem Wnum_ok {B b : Nat} {l : List UInt8} {w : World} {a : Addr} {x : Nat} (h : Bd B b l w) (hlen : l.length ≤ 10000000000) (hB : B ≤ w.heap.size) (ha : w.cell? a = some (.int .i64 (x : Nat))) (hx : x < 9223372036854775808) :
    Calls Tryz.prog 127 #[.pointer (some ⟨b, 0, none⟩), .pointer (some a)] w fun e w' => e = .returned (.tuple #[]) ∧ (Bd B b (l ++ vPutL x) w' ∧ Wr B b w w') := by
  refine go_of (request_writer_number_go ?_)
  intro w1 A1
  refine ldInt_of (A1.mod.cell0 ha) ?_
  rw [wrapU (by omega)]
  refine (Put_ok x (by omega) w1).mono ?_
  rintro e w2 ⟨rfl, M2⟩
  have N2 := A1.mod.go0 M2 (by simp)
  have s2 := N2.size
  have := vPutL_len x (by omega)
  refine ⟨_, rfl, (WS_ok (h.keep0 N2) (l2 := vPutL x) (by omega) (by omega)).mono ?_⟩
  rintro e w3 ⟨rfl, h3, W3⟩
  exact ⟨_, _, rfl, rfl, h3, (Wr.of0 N2 hB).trans W3⟩
theorem Wname_ok {B b : Nat} {l : List UInt8} {w : World} {a : Addr} {s : ByteArray} (h : Bd B b l w) (hlen : l.length ≤ 10000000000) (hB : B ≤ w.heap.size) (ha : w.cell? a = some (.string s)) (hs : s.size ≤ 1000000000) :
    Calls Tryz.prog 206 #[.pointer (some ⟨b, 0, none⟩), .pointer (some a)] w fun e w' => e = .returned (.tuple #[]) ∧ (Bd B b (l ++ putT s) w' ∧ Wr B b w w') := by
  refine go_of (request_writer_name_go ?_)
  intro w1 A1
  refine ldStr_of (A1.mod.cell0 ha) ?_
  refine (PutText_ok s (by omega) w1).mono ?_
  rintro e w2 ⟨rfl, M2⟩
  have N2 := A1.mod.go0 M2 (by simp)
  have s2 := N2.size
  have l2 : (putT s).length ≤ 1000000010 := by have := putT_len s (by omega); omega
  refine ⟨_, rfl, (WS_ok (h.keep0 N2) (l2 := putT s) (by omega) (by omega)).mono ?_⟩
  rintro e w3 ⟨rfl, h3, W3⟩
  exact ⟨_, _, rfl, rfl, h3, (Wr.of0 N2 hB).trans W3⟩
end Go.Proofs.YtohgihgddknmmaaGreat

/- The conditions of Go functions' bodies, printed by gen2.py. -/
namespace Go.Proofs.YtohgihgddknmmaaGreat
open Go Go.RowKit
set_option linter.unusedVariables false
set_option maxRecDepth 100000

def varint_long_an : List LA := []
def varint_long_T (a0 : Int) (a1 : Int) (R : Value → World → Prop) (w : World) : Prop :=
 brB (a1 == 9) (
 brB (decide (a0 > 1)) (
 R (.bool true) w)
 (
 brB (decide (a1 > 0)) (
 R (.bool (a0 == 0)) w)
 (
 R (.bool false) w)))
 (
 brB (decide (a1 > 0)) (
 R (.bool (a0 == 0)) w)
 (
 R (.bool false) w))
theorem varint_long_eq (a0 : Int) (a1 : Int) (R : Value → World → Prop) (w : World) :
 dnF Tryz.prog varint_long_an (code Tryz.f135) 400 [] (post3 Tryz.prog Tryz.f135 [] R) ⟨args0 0 [(.int .u8 a0), (.int .i64 a1)], fun _ => undef⟩ ⟨[], w, [], [], true⟩ = varint_long_T a0 a1 R w := by kernel_rfl
theorem varint_long_go {a0 : Int} {a1 : Int} {R : Value → World → Prop} {w : World} (h : varint_long_T a0 a1 R w) :
 Calls Tryz.prog 135 #[(.int .u8 a0), (.int .i64 a1)] w fun e w' => ∃ v, e = .returned v ∧ R v w' :=
 calls_none Tryz.wide_mixed (f := 135) (args := [(.int .u8 a0), (.int .i64 a1)]) Tryz.func135 rfl rfl (by kernel_rfl) rfl (Eq.mpr (varint_long_eq a0 a1 R w) h)
def varint_Get_la1 : LA := ⟨[0, 0, 1, 1, 1, 1], [0, 1, 7, 8], [], 0, []⟩
def varint_Get_an : List LA := [varint_Get_la1]
def varint_Get_v1 (a0 : ByteArray) (a1 : Int) (a2 : Int) (a3 : Int) : List Value := [(.string a0), (.int .i64 a1), (.int .u64 a2), (.int .i64 a3)]
def varint_Get_m1 : List TB := []
def varint_Get_L1 (a2 : ByteArray) (a1 : Int) (a3 : Int) (a0 : Int) (K1 : Kh) (R : Value → World → Prop) (w : World) : Prop :=
 brB (decide ((IntKind.wrap .i64 (a1 + a0)) ≥ (a2.size : Int))) (
 R (.tuple #[(.int .u64 0), (.int .i64 0), (.int .i64 10)]) w)
 (
 ixS a2 (IntKind.wrap .i64 (a1 + a0)) fun x1 =>
 Calls Tryz.prog 135 #[(.int .u8 x1), (.int .i64 a0)] w fun e w2 => ∃ t3 : Bool, e = .returned (.bool t3) ∧
 brB t3 (
 R (.tuple #[(.int .u64 0), (.int .i64 0), (.int .i64 11)]) w2)
 (nn (IntKind.wrap .i64 (7 * a0)) (
 brB (decide (x1 < 128)) (
 R (.tuple #[(.int .u64 (bOr .u64 a3 (IntKind.wrap .u64 ((IntKind.wrap .u64 (bAnd .u8 x1 127)) * 2 ^ (min (Int.toNat (IntKind.wrap .i64 (7 * a0))) 64))))), (.int .i64 (IntKind.wrap .i64 ((IntKind.wrap .i64 (a1 + a0)) + 1))), (.int .i64 0)]) w2)
 (
 K1 (varint_Get_v1 a2 a1 (bOr .u64 a3 (IntKind.wrap .u64 ((IntKind.wrap .u64 (bAnd .u8 x1 127)) * 2 ^ (min (Int.toNat (IntKind.wrap .i64 (7 * a0))) 64)))) (IntKind.wrap .i64 (a0 + 1))) (varint_Get_m1) w2))))
theorem varint_Get_L1_eq (a0 : ByteArray) (a1 : Int) (a2 : Int) (a3 : Int) (K1 : Kh) (js : Nat → Value) (R : Value → World → Prop) (w : World) :
 headA varint_Get_la1 ((dnF Tryz.prog varint_Get_an (code Tryz.f87) 395 [0, 0, 1, 1, 1, 1]) (kthen3 (atA varint_Get_la1 K1) (kont3 Tryz.prog varint_Get_an (code Tryz.f87) [1, 1, 1, 1, 0] [] (post3 Tryz.prog Tryz.f87 [] R)))) (varint_Get_v1 a0 a1 a2 a3) js (varint_Get_m1) w = varint_Get_L1 a0 a1 a2 a3 K1 R w := by kernel_rfl
def varint_Get_K1 (a2 : ByteArray) (a3 : Int) (I : Nat → Int → Int → World → Prop) (m : Nat) (vals : List Value) (mem : List TB) (w : World) : Prop := ∃ m', m' < m ∧ ∃ a0 a1, vals = (varint_Get_v1 a2 a3 a0 a1) ∧ mem = (varint_Get_m1) ∧ I m' a0 a1 w
theorem varint_Get_leaf1 {a0 : ByteArray} {a1 : Int} {I : Nat → Int → Int → World → Prop} {m : Nat} {a2 : Int} {a3 : Int} {w : World} (m' : Nat) (h1 : m' < m) (h2 : I m' a2 a3 w) : varint_Get_K1 a0 a1 I m (varint_Get_v1 a0 a1 a2 a3) (varint_Get_m1) w := ⟨m', h1, _, _, rfl, rfl, h2⟩
theorem varint_Get_rule1 {a2 : ByteArray} {a3 : Int} {a4 : Int} {a5 : Int} {R : Value → World → Prop} {w0 : World} (I : Nat → Int → Int → World → Prop) (m0 : Nat) (h0 : I m0 a4 a5 w0)
 (hr : ∀ (m : Nat) (a0 : Int) (a1 : Int) (w : World), I m a0 a1 w → varint_Get_L1 a2 a3 a0 a1 (varint_Get_K1 a2 a3 I m) R w) :
 loopD3 varint_Get_la1 (dnF Tryz.prog varint_Get_an (code Tryz.f87) 395 [0, 0, 1, 1, 1, 1]) (kont3 Tryz.prog varint_Get_an (code Tryz.f87) [1, 1, 1, 1, 0] [] (post3 Tryz.prog Tryz.f87 [] R)) (varint_Get_v1 a2 a3 a4 a5) (varint_Get_m1) w0 := by
 refine ⟨fun m vals mem w => ∃ a0 a1, vals = (varint_Get_v1 a2 a3 a0 a1) ∧ mem = (varint_Get_m1) ∧ I m a0 a1 w, m0, ⟨_, _, rfl, rfl, h0⟩, ?_⟩
 rintro m vals mem w ⟨a0, a1, rfl, rfl, hI⟩
 refine ⟨rfl, rfl, fun js => ?_⟩
 have h := hr m a0 a1 w hI
 rw [← varint_Get_L1_eq _ _ _ _ _ js] at h
 exact h
def varint_Get_T (a1 : ByteArray) (a0 : Int) (R : Value → World → Prop) (w : World) : Prop :=
 brB (decide (a0 < 0)) (
 R (.tuple #[(.int .u64 0), (.int .i64 0), (.int .i64 1)]) w)
 (
 brB (decide (a0 > (a1.size : Int))) (
 R (.tuple #[(.int .u64 0), (.int .i64 0), (.int .i64 1)]) w)
 (
 loopD3 varint_Get_la1 (dnF Tryz.prog varint_Get_an (code Tryz.f87) 395 [0, 0, 1, 1, 1, 1]) (kont3 Tryz.prog varint_Get_an (code Tryz.f87) [1, 1, 1, 1, 0] [] (post3 Tryz.prog Tryz.f87 [] R)) (varint_Get_v1 a1 a0 0 0) (varint_Get_m1) w))
theorem varint_Get_eq (a1 : ByteArray) (a0 : Int) (R : Value → World → Prop) (w : World) :
 dnF Tryz.prog varint_Get_an (code Tryz.f87) 400 [] (post3 Tryz.prog Tryz.f87 [] R) ⟨args0 0 [(.string a1), (.int .i64 a0)], fun _ => undef⟩ ⟨[], w, [], [], true⟩ = varint_Get_T a1 a0 R w := by kernel_rfl
theorem varint_Get_go {a1 : ByteArray} {a0 : Int} {R : Value → World → Prop} {w : World} (h : varint_Get_T a1 a0 R w) :
 Calls Tryz.prog 87 #[(.string a1), (.int .i64 a0)] w fun e w' => ∃ v, e = .returned v ∧ R v w' :=
 calls_none Tryz.wide_mixed (f := 87) (args := [(.string a1), (.int .i64 a0)]) Tryz.func87 rfl rfl (by kernel_rfl) rfl (Eq.mpr (varint_Get_eq a1 a0 R w) h)
def varint_GetText_an : List LA := []
def varint_GetText_T (a1 : ByteArray) (a2 : Int) (a0 : Int) (R : Value → World → Prop) (w : World) : Prop :=
 Calls Tryz.prog 87 #[(.string a1), (.int .i64 a2)] w fun e w1 => ∃ x2 : Int, ∃ x3 : Int, ∃ x4 : Int, e = .returned (.tuple #[(.int .u64 x2), (.int .i64 x3), (.int .i64 x4)]) ∧
 brB (x4 != 0) (
 R (.tuple #[(.string (⟨#[]⟩ : ByteArray)), (.int .i64 0), (.int .i64 x4)]) w1)
 (
 brB (decide (a0 < 0)) (
 R (.tuple #[(.string (⟨#[]⟩ : ByteArray)), (.int .i64 0), (.int .i64 2)]) w1)
 (
 brB (decide (x2 > (IntKind.wrap .u64 a0))) (
 R (.tuple #[(.string (⟨#[]⟩ : ByteArray)), (.int .i64 0), (.int .i64 2)]) w1)
 (
 brB (decide (x2 > (IntKind.wrap .u64 (IntKind.wrap .i64 ((a1.size : Int) - x3))))) (
 R (.tuple #[(.string (⟨#[]⟩ : ByteArray)), (.int .i64 0), (.int .i64 10)]) w1)
 (
 slS a1 x3 (IntKind.wrap .i64 (x3 + (IntKind.wrap .i64 x2))) fun s5 =>
 R (.tuple #[(.string s5), (.int .i64 (IntKind.wrap .i64 (x3 + (IntKind.wrap .i64 x2)))), (.int .i64 0)]) w1))))
theorem varint_GetText_eq (a2 : ByteArray) (a1 : Int) (a0 : Int) (R : Value → World → Prop) (w : World) :
 dnF Tryz.prog varint_GetText_an (code Tryz.f136) 400 [] (post3 Tryz.prog Tryz.f136 [] R) ⟨args0 0 [(.string a2), (.int .i64 a1), (.int .i64 a0)], fun _ => undef⟩ ⟨[], w, [], [], true⟩ = varint_GetText_T a2 a1 a0 R w := by kernel_rfl
theorem varint_GetText_go {a2 : ByteArray} {a1 : Int} {a0 : Int} {R : Value → World → Prop} {w : World} (h : varint_GetText_T a2 a1 a0 R w) :
 Calls Tryz.prog 136 #[(.string a2), (.int .i64 a1), (.int .i64 a0)] w fun e w' => ∃ v, e = .returned v ∧ R v w' :=
 calls_none Tryz.wide_mixed (f := 136) (args := [(.string a2), (.int .i64 a1), (.int .i64 a0)]) Tryz.func136 rfl rfl (by kernel_rfl) rfl (Eq.mpr (varint_GetText_eq a2 a1 a0 R w) h)
def crc_rows_1_la1 : LA := ⟨[0, 0, 1, 0, 1], [0, 3], [], 0, []⟩
def crc_rows_1_an : List LA := [crc_rows_1_la1]
def crc_rows_1_v1 (a0 : Int) (a1 : Int) : List Value := [(.int .u32 a0), (.int .i64 a1)]
def crc_rows_1_m1 : List TB := []
def crc_rows_1_L1 (a0 : Int) (a1 : Int) (K1 : Kh) (R : Value → World → Prop) (w : World) : Prop :=
 brB (decide (a1 < 4)) (nn 1 (
 K1 (crc_rows_1_v1 (bXor .u32 (Int.fdiv a0 (2 ^ (min (Int.toNat 1) 32))) (bAnd .u32 3988292384 (IntKind.wrap .u32 (0 - (bAnd .u32 a0 1))))) (IntKind.wrap .i64 (a1 + 1))) (crc_rows_1_m1) w))
 (
 R (.int .u32 a0) w)
theorem crc_rows_1_L1_eq (a0 : Int) (a1 : Int) (K1 : Kh) (js : Nat → Value) (R : Value → World → Prop) (w : World) :
 headA crc_rows_1_la1 ((dnF Tryz.prog crc_rows_1_an (code Tryz.f173) 397 [0, 0, 1, 0, 1]) (kthen3 (atA crc_rows_1_la1 K1) (kont3 Tryz.prog crc_rows_1_an (code Tryz.f173) [1, 0, 1, 0] [] (post3 Tryz.prog Tryz.f173 [] R)))) (crc_rows_1_v1 a0 a1) js (crc_rows_1_m1) w = crc_rows_1_L1 a0 a1 K1 R w := by kernel_rfl
def crc_rows_1_K1 (I : Nat → Int → Int → World → Prop) (m : Nat) (vals : List Value) (mem : List TB) (w : World) : Prop := ∃ m', m' < m ∧ ∃ a0 a1, vals = (crc_rows_1_v1 a0 a1) ∧ mem = (crc_rows_1_m1) ∧ I m' a0 a1 w
theorem crc_rows_1_leaf1 {I : Nat → Int → Int → World → Prop} {m : Nat} {a0 : Int} {a1 : Int} {w : World} (m' : Nat) (h1 : m' < m) (h2 : I m' a0 a1 w) : crc_rows_1_K1 I m (crc_rows_1_v1 a0 a1) (crc_rows_1_m1) w := ⟨m', h1, _, _, rfl, rfl, h2⟩
theorem crc_rows_1_rule1 {a2 : Int} {a3 : Int} {R : Value → World → Prop} {w0 : World} (I : Nat → Int → Int → World → Prop) (m0 : Nat) (h0 : I m0 a2 a3 w0)
 (hr : ∀ (m : Nat) (a0 : Int) (a1 : Int) (w : World), I m a0 a1 w → crc_rows_1_L1 a0 a1 (crc_rows_1_K1 I m) R w) :
 loopD3 crc_rows_1_la1 (dnF Tryz.prog crc_rows_1_an (code Tryz.f173) 397 [0, 0, 1, 0, 1]) (kont3 Tryz.prog crc_rows_1_an (code Tryz.f173) [1, 0, 1, 0] [] (post3 Tryz.prog Tryz.f173 [] R)) (crc_rows_1_v1 a2 a3) (crc_rows_1_m1) w0 := by
 refine ⟨fun m vals mem w => ∃ a0 a1, vals = (crc_rows_1_v1 a0 a1) ∧ mem = (crc_rows_1_m1) ∧ I m a0 a1 w, m0, ⟨_, _, rfl, rfl, h0⟩, ?_⟩
 rintro m vals mem w ⟨a0, a1, rfl, rfl, hI⟩
 refine ⟨rfl, rfl, fun js => ?_⟩
 have h := hr m a0 a1 w hI
 rw [← crc_rows_1_L1_eq _ _ _ js] at h
 exact h
def crc_rows_1_T (a0 : Int) (R : Value → World → Prop) (w : World) : Prop :=
 loopD3 crc_rows_1_la1 (dnF Tryz.prog crc_rows_1_an (code Tryz.f173) 397 [0, 0, 1, 0, 1]) (kont3 Tryz.prog crc_rows_1_an (code Tryz.f173) [1, 0, 1, 0] [] (post3 Tryz.prog Tryz.f173 [] R)) (crc_rows_1_v1 a0 0) (crc_rows_1_m1) w
theorem crc_rows_1_eq (a0 : Int) (R : Value → World → Prop) (w : World) :
 dnF Tryz.prog crc_rows_1_an (code Tryz.f173) 400 [] (post3 Tryz.prog Tryz.f173 [] R) ⟨args0 0 [(.int .u32 a0)], fun _ => undef⟩ ⟨[], w, [], [], true⟩ = crc_rows_1_T a0 R w := by kernel_rfl
theorem crc_rows_1_go {a0 : Int} {R : Value → World → Prop} {w : World} (h : crc_rows_1_T a0 R w) :
 Calls Tryz.prog 173 #[(.int .u32 a0)] w fun e w' => ∃ v, e = .returned v ∧ R v w' :=
 calls_none Tryz.wide_mixed (f := 173) (args := [(.int .u32 a0)]) Tryz.func173 rfl rfl (by kernel_rfl) rfl (Eq.mpr (crc_rows_1_eq a0 R w) h)
def crc_rows_la1 : LA := ⟨[0, 0, 1, 0, 1, 1, 1], [0, 1, 2, 4], [(0, 0, 0), (1, 1, 0)], 2, [1]⟩
def crc_rows_an : List LA := [crc_rows_la1]
def crc_rows_v1 (bm0 : Nat) (bm1 : Nat) (a0 : Int) : List Value := [(.pointer (some ⟨bm0, 0, none⟩)), (.pointer (some ⟨bm1, 0, none⟩)), (.func (.func 173) #[] #[]), (.int .i64 a0)]
def crc_rows_m1 (bm0 : Nat) (bm1 : Nat) (a6 : Int) (a7 : Int) (a8 : Int) (a9 : Int) (b0 : Int) (b1 : Int) (b2 : Int) (b3 : Int) (b4 : Int) (b5 : Int) (a0 : Int) (a1 : Int) (a2 : Int) (a3 : Int) (a4 : Int) (a5 : Int) : List TB := [⟨bm0, 226, [(.int .u32 0), (.int .u32 0), (.int .u32 0), (.int .u32 0), (.int .u32 0), (.int .u32 0), (.int .u32 0), (.int .u32 0), (.int .u32 0), (.int .u32 0), (.int .u32 0), (.int .u32 0), (.int .u32 0), (.int .u32 0), (.int .u32 0), (.int .u32 0)], false⟩, ⟨bm1, 226, [(.int .u32 a6), (.int .u32 a7), (.int .u32 a8), (.int .u32 a9), (.int .u32 b0), (.int .u32 b1), (.int .u32 b2), (.int .u32 b3), (.int .u32 b4), (.int .u32 b5), (.int .u32 a0), (.int .u32 a1), (.int .u32 a2), (.int .u32 a3), (.int .u32 a4), (.int .u32 a5)], true⟩]
def crc_rows_L1 (bm0 : Nat) (bm1 : Nat) (b6 : Int) (a6 : Int) (a7 : Int) (a8 : Int) (a9 : Int) (b0 : Int) (b1 : Int) (b2 : Int) (b3 : Int) (b4 : Int) (b5 : Int) (a0 : Int) (a1 : Int) (a2 : Int) (a3 : Int) (a4 : Int) (a5 : Int) (K1 : Kh) (R : Value → World → Prop) (w : World) : Prop :=
 w.heap[bm1]? = some (.cells #[(.int .u32 a6), (.int .u32 a7), (.int .u32 a8), (.int .u32 a9), (.int .u32 b0), (.int .u32 b1), (.int .u32 b2), (.int .u32 b3), (.int .u32 b4), (.int .u32 b5), (.int .u32 a0), (.int .u32 a1), (.int .u32 a2), (.int .u32 a3), (.int .u32 a4), (.int .u32 a5)] 226) →
 brB (decide (b6 < 16)) (
 Calls Tryz.prog 173 #[(.int .u32 (IntKind.wrap .u32 b6))] w fun e w3 => ∃ x4 : Int, e = .returned (.int .u32 x4) ∧ KeepE [bm1] [(bm0, 226)] [bm0] w w3 ∧ ∃ x5 : Int, ∃ x6 : Int, ∃ x7 : Int, ∃ x8 : Int, ∃ x9 : Int, ∃ x10 : Int, ∃ x11 : Int, ∃ x12 : Int, ∃ x13 : Int, ∃ x14 : Int, ∃ x15 : Int, ∃ x16 : Int, ∃ x17 : Int, ∃ x18 : Int, ∃ x19 : Int, ∃ x20 : Int, w3.heap[bm1]? = some (.cells #[(.int .u32 x5), (.int .u32 x6), (.int .u32 x7), (.int .u32 x8), (.int .u32 x9), (.int .u32 x10), (.int .u32 x11), (.int .u32 x12), (.int .u32 x13), (.int .u32 x14), (.int .u32 x15), (.int .u32 x16), (.int .u32 x17), (.int .u32 x18), (.int .u32 x19), (.int .u32 x20)] 226) ∧ 0 ≤ b6 ∧ b6 < ((16 : Nat) : Int) ∧
 st w3 (Addr.add ⟨bm1, 0, none⟩ (Int.toNat b6 * 1)) [(.int .u32 x4)] fun w21 => KeepE [bm1] [(bm0, 226)] [bm0] w3 w21 ∧ ∃ x22 : Int, ∃ x23 : Int, ∃ x24 : Int, ∃ x25 : Int, ∃ x26 : Int, ∃ x27 : Int, ∃ x28 : Int, ∃ x29 : Int, ∃ x30 : Int, ∃ x31 : Int, ∃ x32 : Int, ∃ x33 : Int, ∃ x34 : Int, ∃ x35 : Int, ∃ x36 : Int, ∃ x37 : Int, w21.heap[bm1]? = some (.cells #[(.int .u32 x22), (.int .u32 x23), (.int .u32 x24), (.int .u32 x25), (.int .u32 x26), (.int .u32 x27), (.int .u32 x28), (.int .u32 x29), (.int .u32 x30), (.int .u32 x31), (.int .u32 x32), (.int .u32 x33), (.int .u32 x34), (.int .u32 x35), (.int .u32 x36), (.int .u32 x37)] 226) ∧
 K1 (crc_rows_v1 bm0 bm1 (IntKind.wrap .i64 (b6 + 1))) (crc_rows_m1 bm0 bm1 x22 x23 x24 x25 x26 x27 x28 x29 x30 x31 x32 x33 x34 x35 x36 x37) w21)
 (
 ∀ w38, Adv [bm0] [] w w38 → w38.heap[bm1]? = some (.cells #[(.int .u32 a6), (.int .u32 a7), (.int .u32 a8), (.int .u32 a9), (.int .u32 b0), (.int .u32 b1), (.int .u32 b2), (.int .u32 b3), (.int .u32 b4), (.int .u32 b5), (.int .u32 a0), (.int .u32 a1), (.int .u32 a2), (.int .u32 a3), (.int .u32 a4), (.int .u32 a5)] 226) →
 R (.agg #[(.int .u32 a6), (.int .u32 a7), (.int .u32 a8), (.int .u32 a9), (.int .u32 b0), (.int .u32 b1), (.int .u32 b2), (.int .u32 b3), (.int .u32 b4), (.int .u32 b5), (.int .u32 a0), (.int .u32 a1), (.int .u32 a2), (.int .u32 a3), (.int .u32 a4), (.int .u32 a5)]) w38)
theorem crc_rows_L1_eq (bm0 : Nat) (bm1 : Nat) (b6 : Int) (a6 : Int) (a7 : Int) (a8 : Int) (a9 : Int) (b0 : Int) (b1 : Int) (b2 : Int) (b3 : Int) (b4 : Int) (b5 : Int) (a0 : Int) (a1 : Int) (a2 : Int) (a3 : Int) (a4 : Int) (a5 : Int) (K1 : Kh) (js : Nat → Value) (R : Value → World → Prop) (w : World) :
 headA crc_rows_la1 ((dnF Tryz.prog crc_rows_an (code Tryz.f165) 395 [0, 0, 1, 0, 1, 1, 1]) (kthen3 (atA crc_rows_la1 K1) (kont3 Tryz.prog crc_rows_an (code Tryz.f165) [1, 1, 1, 0, 1, 0] [] (post3 Tryz.prog Tryz.f165 [] R)))) (crc_rows_v1 bm0 bm1 b6) js (crc_rows_m1 bm0 bm1 a6 a7 a8 a9 b0 b1 b2 b3 b4 b5 a0 a1 a2 a3 a4 a5) w = crc_rows_L1 bm0 bm1 b6 a6 a7 a8 a9 b0 b1 b2 b3 b4 b5 a0 a1 a2 a3 a4 a5 K1 R w := by kernel_rfl
def crc_rows_K1 (bm0 : Nat) (bm1 : Nat) (I : Nat → Int → Int → Int → Int → Int → Int → Int → Int → Int → Int → Int → Int → Int → Int → Int → Int → Int → World → Prop) (m : Nat) (vals : List Value) (mem : List TB) (w : World) : Prop := ∃ m', m' < m ∧ ∃ b6 a6 a7 a8 a9 b0 b1 b2 b3 b4 b5 a0 a1 a2 a3 a4 a5, vals = (crc_rows_v1 bm0 bm1 b6) ∧ mem = (crc_rows_m1 bm0 bm1 a6 a7 a8 a9 b0 b1 b2 b3 b4 b5 a0 a1 a2 a3 a4 a5) ∧ I m' b6 a6 a7 a8 a9 b0 b1 b2 b3 b4 b5 a0 a1 a2 a3 a4 a5 w
theorem crc_rows_leaf1 {bm0 : Nat} {bm1 : Nat} {I : Nat → Int → Int → Int → Int → Int → Int → Int → Int → Int → Int → Int → Int → Int → Int → Int → Int → Int → World → Prop} {m : Nat} {b6 : Int} {a6 : Int} {a7 : Int} {a8 : Int} {a9 : Int} {b0 : Int} {b1 : Int} {b2 : Int} {b3 : Int} {b4 : Int} {b5 : Int} {a0 : Int} {a1 : Int} {a2 : Int} {a3 : Int} {a4 : Int} {a5 : Int} {w : World} (m' : Nat) (h1 : m' < m) (h2 : I m' b6 a6 a7 a8 a9 b0 b1 b2 b3 b4 b5 a0 a1 a2 a3 a4 a5 w) : crc_rows_K1 bm0 bm1 I m (crc_rows_v1 bm0 bm1 b6) (crc_rows_m1 bm0 bm1 a6 a7 a8 a9 b0 b1 b2 b3 b4 b5 a0 a1 a2 a3 a4 a5) w := ⟨m', h1, _, _, _, _, _, _, _, _, _, _, _, _, _, _, _, _, _, rfl, rfl, h2⟩
theorem crc_rows_rule1 {bm0 : Nat} {bm1 : Nat} {d2 : Int} {c3 : Int} {a0 : Int} {c4 : Int} {c5 : Int} {c6 : Int} {c7 : Int} {c8 : Int} {c9 : Int} {d0 : Int} {d1 : Int} {b7 : Int} {b8 : Int} {b9 : Int} {c0 : Int} {c1 : Int} {c2 : Int} {R : Value → World → Prop} {w0 : World} (I : Nat → Int → Int → Int → Int → Int → Int → Int → Int → Int → Int → Int → Int → Int → Int → Int → Int → Int → World → Prop) (m0 : Nat) (h0 : I m0 d2 c3 a0 c4 c5 c6 c7 c8 c9 d0 d1 b7 b8 b9 c0 c1 c2 w0)
 (hr : ∀ (m : Nat) (b6 : Int) (a6 : Int) (a7 : Int) (a8 : Int) (a9 : Int) (b0 : Int) (b1 : Int) (b2 : Int) (b3 : Int) (b4 : Int) (b5 : Int) (a0 : Int) (a1 : Int) (a2 : Int) (a3 : Int) (a4 : Int) (a5 : Int) (w : World), I m b6 a6 a7 a8 a9 b0 b1 b2 b3 b4 b5 a0 a1 a2 a3 a4 a5 w → crc_rows_L1 bm0 bm1 b6 a6 a7 a8 a9 b0 b1 b2 b3 b4 b5 a0 a1 a2 a3 a4 a5 (crc_rows_K1 bm0 bm1 I m) R w) :
 loopD3 crc_rows_la1 (dnF Tryz.prog crc_rows_an (code Tryz.f165) 395 [0, 0, 1, 0, 1, 1, 1]) (kont3 Tryz.prog crc_rows_an (code Tryz.f165) [1, 1, 1, 0, 1, 0] [] (post3 Tryz.prog Tryz.f165 [] R)) (crc_rows_v1 bm0 bm1 d2) (crc_rows_m1 bm0 bm1 c3 a0 c4 c5 c6 c7 c8 c9 d0 d1 b7 b8 b9 c0 c1 c2) w0 := by
 refine ⟨fun m vals mem w => ∃ b6 a6 a7 a8 a9 b0 b1 b2 b3 b4 b5 a0 a1 a2 a3 a4 a5, vals = (crc_rows_v1 bm0 bm1 b6) ∧ mem = (crc_rows_m1 bm0 bm1 a6 a7 a8 a9 b0 b1 b2 b3 b4 b5 a0 a1 a2 a3 a4 a5) ∧ I m b6 a6 a7 a8 a9 b0 b1 b2 b3 b4 b5 a0 a1 a2 a3 a4 a5 w, m0, ⟨_, _, _, _, _, _, _, _, _, _, _, _, _, _, _, _, _, rfl, rfl, h0⟩, ?_⟩
 rintro m vals mem w ⟨b6, a6, a7, a8, a9, b0, b1, b2, b3, b4, b5, a0, a1, a2, a3, a4, a5, rfl, rfl, hI⟩
 refine ⟨rfl, rfl, fun js => ?_⟩
 have h := hr m b6 a6 a7 a8 a9 b0 b1 b2 b3 b4 b5 a0 a1 a2 a3 a4 a5 w hI
 rw [← crc_rows_L1_eq _ _ _ _ _ _ _ _ _ _ _ _ _ _ _ _ _ _ _ _ js] at h
 exact h
def crc_rows_T (R : Value → World → Prop) (w : World) : Prop :=
 ∀ b1, w.heap.size ≤ b1 →
 ∀ b2, w.heap.size ≤ b2 →
 ∀ w39, Adv [] [b2, b1] w w39 → w39.heap[b2]? = some (.cells #[(.int .u32 0), (.int .u32 0), (.int .u32 0), (.int .u32 0), (.int .u32 0), (.int .u32 0), (.int .u32 0), (.int .u32 0), (.int .u32 0), (.int .u32 0), (.int .u32 0), (.int .u32 0), (.int .u32 0), (.int .u32 0), (.int .u32 0), (.int .u32 0)] 226) →
 loopD3 crc_rows_la1 (dnF Tryz.prog crc_rows_an (code Tryz.f165) 395 [0, 0, 1, 0, 1, 1, 1]) (kont3 Tryz.prog crc_rows_an (code Tryz.f165) [1, 1, 1, 0, 1, 0] [] (post3 Tryz.prog Tryz.f165 [] R)) (crc_rows_v1 b1 b2 0) (crc_rows_m1 b1 b2 0 0 0 0 0 0 0 0 0 0 0 0 0 0 0 0) w39
theorem crc_rows_eq (R : Value → World → Prop) (w : World) :
 dnF Tryz.prog crc_rows_an (code Tryz.f165) 400 [] (post3 Tryz.prog Tryz.f165 [] R) ⟨args0 0 [], fun _ => undef⟩ ⟨[], w, [], [], true⟩ = crc_rows_T R w := by kernel_rfl
theorem crc_rows_go {R : Value → World → Prop} {w : World} (h : crc_rows_T R w) :
 Calls Tryz.prog 165 #[] w fun e w' => ∃ v, e = .returned v ∧ R v w' :=
 calls_none Tryz.wide_mixed (f := 165) (args := []) Tryz.func165 rfl rfl (by kernel_rfl) rfl (Eq.mpr (crc_rows_eq R w) h)
def crc_More_la1 : LA := ⟨[0, 0, 1, 0, 1, 1, 1], [1, 5, 6, 12, 13], [(5, 0, 0)], 1, [0]⟩
def crc_More_an : List LA := [crc_More_la1]
def crc_More_v1 (a2 : ByteArray) (a0 : Int) (bm0 : Nat) (a3 : Int) (a1 : Int) : List Value := [(.string a2), (.pointer (some ⟨bm0, 0, none⟩)), (.int .u32 a3), (.int .i64 a0), (.int .i64 a1)]
def crc_More_m1 (bm0 : Nat) (a6 : Int) (a7 : Int) (a8 : Int) (a9 : Int) (b0 : Int) (b1 : Int) (b2 : Int) (b3 : Int) (b4 : Int) (b5 : Int) (a0 : Int) (a1 : Int) (a2 : Int) (a3 : Int) (a4 : Int) (a5 : Int) : List TB := [⟨bm0, 226, [(.int .u32 a6), (.int .u32 a7), (.int .u32 a8), (.int .u32 a9), (.int .u32 b0), (.int .u32 b1), (.int .u32 b2), (.int .u32 b3), (.int .u32 b4), (.int .u32 b5), (.int .u32 a0), (.int .u32 a1), (.int .u32 a2), (.int .u32 a3), (.int .u32 a4), (.int .u32 a5)], true⟩]
def crc_More_L1 (b9 : ByteArray) (b8 : Int) (bm0 : Nat) (a7 : Int) (a8 : Int) (a9 : Int) (b0 : Int) (b1 : Int) (b2 : Int) (b3 : Int) (b4 : Int) (b5 : Int) (b6 : Int) (a1 : Int) (a2 : Int) (a3 : Int) (a4 : Int) (a5 : Int) (a6 : Int) (a0 : Int) (b7 : Int) (K1 : Kh) (R : Value → World → Prop) (w : World) : Prop :=
 w.heap[bm0]? = some (.cells #[(.int .u32 a7), (.int .u32 a8), (.int .u32 a9), (.int .u32 b0), (.int .u32 b1), (.int .u32 b2), (.int .u32 b3), (.int .u32 b4), (.int .u32 b5), (.int .u32 b6), (.int .u32 a1), (.int .u32 a2), (.int .u32 a3), (.int .u32 a4), (.int .u32 a5), (.int .u32 a6)] 226) →
 brB (decide (b7 < b8)) (
 ixS b9 b7 fun x19 => nn 4 (nz 16 (0 ≤ (Int.tmod (bXor .u32 a0 (IntKind.wrap .u32 x19)) 16) ∧ (Int.tmod (bXor .u32 a0 (IntKind.wrap .u32 x19)) 16) < ((16 : Nat) : Int) ∧
 ldInt .u32 w (Addr.add ⟨bm0, 0, none⟩ (Int.toNat (Int.tmod (bXor .u32 a0 (IntKind.wrap .u32 x19)) 16) * 1)) fun x20 => nn 4 (nz 16 (0 ≤ (Int.tmod (bXor .u32 (Int.fdiv (bXor .u32 a0 (IntKind.wrap .u32 x19)) (2 ^ (min (Int.toNat 4) 32))) x20) 16) ∧ (Int.tmod (bXor .u32 (Int.fdiv (bXor .u32 a0 (IntKind.wrap .u32 x19)) (2 ^ (min (Int.toNat 4) 32))) x20) 16) < ((16 : Nat) : Int) ∧
 ldInt .u32 w (Addr.add ⟨bm0, 0, none⟩ (Int.toNat (Int.tmod (bXor .u32 (Int.fdiv (bXor .u32 a0 (IntKind.wrap .u32 x19)) (2 ^ (min (Int.toNat 4) 32))) x20) 16) * 1)) fun x21 =>
 K1 (crc_More_v1 b9 b8 bm0 (bXor .u32 (Int.fdiv (bXor .u32 (Int.fdiv (bXor .u32 a0 (IntKind.wrap .u32 x19)) (2 ^ (min (Int.toNat 4) 32))) x20) (2 ^ (min (Int.toNat 4) 32))) x21) (IntKind.wrap .i64 (b7 + 1))) (crc_More_m1 bm0 a7 a8 a9 b0 b1 b2 b3 b4 b5 b6 a1 a2 a3 a4 a5 a6) w)))))
 (
 R (.int .u32 (bXor .u32 4294967295 a0)) w)
theorem crc_More_L1_eq (b8 : ByteArray) (b6 : Int) (bm0 : Nat) (a6 : Int) (a7 : Int) (a8 : Int) (a9 : Int) (b0 : Int) (b1 : Int) (b2 : Int) (b3 : Int) (b4 : Int) (b5 : Int) (a0 : Int) (a1 : Int) (a2 : Int) (a3 : Int) (a4 : Int) (a5 : Int) (b9 : Int) (b7 : Int) (K1 : Kh) (js : Nat → Value) (R : Value → World → Prop) (w : World) :
 headA crc_More_la1 ((dnF Tryz.prog crc_More_an (code Tryz.f154) 395 [0, 0, 1, 0, 1, 1, 1]) (kthen3 (atA crc_More_la1 K1) (kont3 Tryz.prog crc_More_an (code Tryz.f154) [1, 1, 1, 0, 1, 0] [] (post3 Tryz.prog Tryz.f154 [] R)))) (crc_More_v1 b8 b6 bm0 b9 b7) js (crc_More_m1 bm0 a6 a7 a8 a9 b0 b1 b2 b3 b4 b5 a0 a1 a2 a3 a4 a5) w = crc_More_L1 b8 b6 bm0 a6 a7 a8 a9 b0 b1 b2 b3 b4 b5 a0 a1 a2 a3 a4 a5 b9 b7 K1 R w := by kernel_rfl
def crc_More_K1 (b9 : ByteArray) (b8 : Int) (bm0 : Nat) (a7 : Int) (a8 : Int) (a9 : Int) (b0 : Int) (b1 : Int) (b2 : Int) (b3 : Int) (b4 : Int) (b5 : Int) (b6 : Int) (a0 : Int) (a1 : Int) (a2 : Int) (a3 : Int) (a4 : Int) (a5 : Int) (I : Nat → Int → Int → World → Prop) (m : Nat) (vals : List Value) (mem : List TB) (w : World) : Prop := ∃ m', m' < m ∧ ∃ b7 a6, vals = (crc_More_v1 b9 b8 bm0 b7 a6) ∧ mem = (crc_More_m1 bm0 a7 a8 a9 b0 b1 b2 b3 b4 b5 b6 a0 a1 a2 a3 a4 a5) ∧ I m' b7 a6 w
theorem crc_More_leaf1 {b8 : ByteArray} {b6 : Int} {bm0 : Nat} {a6 : Int} {a7 : Int} {a8 : Int} {a9 : Int} {b0 : Int} {b1 : Int} {b2 : Int} {b3 : Int} {b4 : Int} {b5 : Int} {a0 : Int} {a1 : Int} {a2 : Int} {a3 : Int} {a4 : Int} {a5 : Int} {I : Nat → Int → Int → World → Prop} {m : Nat} {b9 : Int} {b7 : Int} {w : World} (m' : Nat) (h1 : m' < m) (h2 : I m' b9 b7 w) : crc_More_K1 b8 b6 bm0 a6 a7 a8 a9 b0 b1 b2 b3 b4 b5 a0 a1 a2 a3 a4 a5 I m (crc_More_v1 b8 b6 bm0 b9 b7) (crc_More_m1 bm0 a6 a7 a8 a9 b0 b1 b2 b3 b4 b5 a0 a1 a2 a3 a4 a5) w := ⟨m', h1, _, _, rfl, rfl, h2⟩
theorem crc_More_rule1 {b9 : ByteArray} {b8 : Int} {bm0 : Nat} {a7 : Int} {a8 : Int} {a9 : Int} {b0 : Int} {b1 : Int} {b2 : Int} {b3 : Int} {b4 : Int} {b5 : Int} {b6 : Int} {a0 : Int} {a1 : Int} {a2 : Int} {a3 : Int} {a4 : Int} {a5 : Int} {c1 : Int} {c0 : Int} {R : Value → World → Prop} {w0 : World} (I : Nat → Int → Int → World → Prop) (m0 : Nat) (h0 : I m0 c1 c0 w0)
 (hr : ∀ (m : Nat) (b7 : Int) (a6 : Int) (w : World), I m b7 a6 w → crc_More_L1 b9 b8 bm0 a7 a8 a9 b0 b1 b2 b3 b4 b5 b6 a0 a1 a2 a3 a4 a5 b7 a6 (crc_More_K1 b9 b8 bm0 a7 a8 a9 b0 b1 b2 b3 b4 b5 b6 a0 a1 a2 a3 a4 a5 I m) R w) :
 loopD3 crc_More_la1 (dnF Tryz.prog crc_More_an (code Tryz.f154) 395 [0, 0, 1, 0, 1, 1, 1]) (kont3 Tryz.prog crc_More_an (code Tryz.f154) [1, 1, 1, 0, 1, 0] [] (post3 Tryz.prog Tryz.f154 [] R)) (crc_More_v1 b9 b8 bm0 c1 c0) (crc_More_m1 bm0 a7 a8 a9 b0 b1 b2 b3 b4 b5 b6 a0 a1 a2 a3 a4 a5) w0 := by
 refine ⟨fun m vals mem w => ∃ b7 a6, vals = (crc_More_v1 b9 b8 bm0 b7 a6) ∧ mem = (crc_More_m1 bm0 a7 a8 a9 b0 b1 b2 b3 b4 b5 b6 a0 a1 a2 a3 a4 a5) ∧ I m b7 a6 w, m0, ⟨_, _, rfl, rfl, h0⟩, ?_⟩
 rintro m vals mem w ⟨b7, a6, rfl, rfl, hI⟩
 refine ⟨rfl, rfl, fun js => ?_⟩
 have h := hr m b7 a6 w hI
 rw [← crc_More_L1_eq _ _ _ _ _ _ _ _ _ _ _ _ _ _ _ _ _ _ _ _ _ _ js] at h
 exact h
def crc_More_T (a0 : Int) (a1 : ByteArray) (R : Value → World → Prop) (w : World) : Prop :=
 Calls Tryz.prog 165 #[] w fun e w1 => ∃ x2 : Int, ∃ x3 : Int, ∃ x4 : Int, ∃ x5 : Int, ∃ x6 : Int, ∃ x7 : Int, ∃ x8 : Int, ∃ x9 : Int, ∃ x10 : Int, ∃ x11 : Int, ∃ x12 : Int, ∃ x13 : Int, ∃ x14 : Int, ∃ x15 : Int, ∃ x16 : Int, ∃ x17 : Int, e = .returned (.agg #[(.int .u32 x2), (.int .u32 x3), (.int .u32 x4), (.int .u32 x5), (.int .u32 x6), (.int .u32 x7), (.int .u32 x8), (.int .u32 x9), (.int .u32 x10), (.int .u32 x11), (.int .u32 x12), (.int .u32 x13), (.int .u32 x14), (.int .u32 x15), (.int .u32 x16), (.int .u32 x17)]) ∧
 ∀ b18, w1.heap.size ≤ b18 →
 ∀ w22, Adv [] [b18] w1 w22 → w22.heap[b18]? = some (.cells #[(.int .u32 x2), (.int .u32 x3), (.int .u32 x4), (.int .u32 x5), (.int .u32 x6), (.int .u32 x7), (.int .u32 x8), (.int .u32 x9), (.int .u32 x10), (.int .u32 x11), (.int .u32 x12), (.int .u32 x13), (.int .u32 x14), (.int .u32 x15), (.int .u32 x16), (.int .u32 x17)] 226) →
 loopD3 crc_More_la1 (dnF Tryz.prog crc_More_an (code Tryz.f154) 395 [0, 0, 1, 0, 1, 1, 1]) (kont3 Tryz.prog crc_More_an (code Tryz.f154) [1, 1, 1, 0, 1, 0] [] (post3 Tryz.prog Tryz.f154 [] R)) (crc_More_v1 a1 (a1.size : Int) b18 (bXor .u32 4294967295 a0) 0) (crc_More_m1 b18 x2 x3 x4 x5 x6 x7 x8 x9 x10 x11 x12 x13 x14 x15 x16 x17) w22
theorem crc_More_eq (a0 : Int) (a1 : ByteArray) (R : Value → World → Prop) (w : World) :
 dnF Tryz.prog crc_More_an (code Tryz.f154) 400 [] (post3 Tryz.prog Tryz.f154 [] R) ⟨args0 0 [(.int .u32 a0), (.string a1)], fun _ => undef⟩ ⟨[], w, [], [], true⟩ = crc_More_T a0 a1 R w := by kernel_rfl
theorem crc_More_go {a0 : Int} {a1 : ByteArray} {R : Value → World → Prop} {w : World} (h : crc_More_T a0 a1 R w) :
 Calls Tryz.prog 154 #[(.int .u32 a0), (.string a1)] w fun e w' => ∃ v, e = .returned v ∧ R v w' :=
 calls_none Tryz.wide_mixed (f := 154) (args := [(.int .u32 a0), (.string a1)]) Tryz.func154 rfl rfl (by kernel_rfl) rfl (Eq.mpr (crc_More_eq a0 a1 R w) h)
def crc_Sum_an : List LA := []
def crc_Sum_T (a0 : ByteArray) (R : Value → World → Prop) (w : World) : Prop :=
 Calls Tryz.prog 154 #[(.int .u32 0), (.string a0)] w fun e w1 => ∃ x2 : Int, e = .returned (.int .u32 x2) ∧
 R (.int .u32 x2) w1
theorem crc_Sum_eq (a0 : ByteArray) (R : Value → World → Prop) (w : World) :
 dnF Tryz.prog crc_Sum_an (code Tryz.f129) 400 [] (post3 Tryz.prog Tryz.f129 [] R) ⟨args0 0 [(.string a0)], fun _ => undef⟩ ⟨[], w, [], [], true⟩ = crc_Sum_T a0 R w := by kernel_rfl
theorem crc_Sum_go {a0 : ByteArray} {R : Value → World → Prop} {w : World} (h : crc_Sum_T a0 R w) :
 Calls Tryz.prog 129 #[(.string a0)] w fun e w' => ∃ v, e = .returned v ∧ R v w' :=
 calls_none Tryz.wide_mixed (f := 129) (args := [(.string a0)]) Tryz.func129 rfl rfl (by kernel_rfl) rfl (Eq.mpr (crc_Sum_eq a0 R w) h)
def crc_laid_la1 : LA := ⟨[0, 0, 1, 0, 1, 1], [0, 3, 7, 8], [], 0, []⟩
def crc_laid_an : List LA := [crc_laid_la1]
def crc_laid_v1 (a3 : Int) (a0 : Option Addr) (a2 : Nat) (a1 : Nat) (a4 : Int) (a5 : Int) : List Value := [(.int .u32 a3), (.slice a0 a2 a1), (.int .i64 a4), (.int .i64 a5)]
def crc_laid_m1 : List TB := []
def crc_laid_L1 (a4 : Int) (a1 : Option Addr) (a2 : Nat) (a3 : Nat) (a5 : Int) (a0 : Int) (K1 : Kh) (R : Value → World → Prop) (w : World) : Prop :=
 brB (decide (a0 < a5)) (nn (IntKind.wrap .i64 (8 * a0)) (
 ixA a1 a2 a0 1 fun q5 =>
 st w q5 [(.int .u8 (IntKind.wrap .u8 (Int.fdiv a4 (2 ^ (min (Int.toNat (IntKind.wrap .i64 (8 * a0))) 32)))))] fun w6 =>
 K1 (crc_laid_v1 a4 a1 a2 a3 a5 (IntKind.wrap .i64 (a0 + 1))) (crc_laid_m1) w6))
 (
 ∃ s7 w8, Sem.run Tryz.prog (Go.convert 122 9 (.slice a1 a2 a3)) w = .ok (.string s7) w8 ∧
 R (.string s7) w8)
theorem crc_laid_L1_eq (a3 : Int) (a0 : Option Addr) (a2 : Nat) (a1 : Nat) (a4 : Int) (a5 : Int) (K1 : Kh) (js : Nat → Value) (R : Value → World → Prop) (w : World) :
 headA crc_laid_la1 ((dnF Tryz.prog crc_laid_an (code Tryz.f128) 396 [0, 0, 1, 0, 1, 1]) (kthen3 (atA crc_laid_la1 K1) (kont3 Tryz.prog crc_laid_an (code Tryz.f128) [1, 1, 0, 1, 0] [] (post3 Tryz.prog Tryz.f128 [] R)))) (crc_laid_v1 a3 a0 a2 a1 a4 a5) js (crc_laid_m1) w = crc_laid_L1 a3 a0 a2 a1 a4 a5 K1 R w := by kernel_rfl
def crc_laid_K1 (a4 : Int) (a1 : Option Addr) (a3 : Nat) (a2 : Nat) (a5 : Int) (I : Nat → Int → World → Prop) (m : Nat) (vals : List Value) (mem : List TB) (w : World) : Prop := ∃ m', m' < m ∧ ∃ a0, vals = (crc_laid_v1 a4 a1 a3 a2 a5 a0) ∧ mem = (crc_laid_m1) ∧ I m' a0 w
theorem crc_laid_leaf1 {a3 : Int} {a0 : Option Addr} {a2 : Nat} {a1 : Nat} {a4 : Int} {I : Nat → Int → World → Prop} {m : Nat} {a5 : Int} {w : World} (m' : Nat) (h1 : m' < m) (h2 : I m' a5 w) : crc_laid_K1 a3 a0 a2 a1 a4 I m (crc_laid_v1 a3 a0 a2 a1 a4 a5) (crc_laid_m1) w := ⟨m', h1, _, rfl, rfl, h2⟩
theorem crc_laid_rule1 {a4 : Int} {a1 : Option Addr} {a3 : Nat} {a2 : Nat} {a5 : Int} {a6 : Int} {R : Value → World → Prop} {w0 : World} (I : Nat → Int → World → Prop) (m0 : Nat) (h0 : I m0 a6 w0)
 (hr : ∀ (m : Nat) (a0 : Int) (w : World), I m a0 w → crc_laid_L1 a4 a1 a3 a2 a5 a0 (crc_laid_K1 a4 a1 a3 a2 a5 I m) R w) :
 loopD3 crc_laid_la1 (dnF Tryz.prog crc_laid_an (code Tryz.f128) 396 [0, 0, 1, 0, 1, 1]) (kont3 Tryz.prog crc_laid_an (code Tryz.f128) [1, 1, 0, 1, 0] [] (post3 Tryz.prog Tryz.f128 [] R)) (crc_laid_v1 a4 a1 a3 a2 a5 a6) (crc_laid_m1) w0 := by
 refine ⟨fun m vals mem w => ∃ a0, vals = (crc_laid_v1 a4 a1 a3 a2 a5 a0) ∧ mem = (crc_laid_m1) ∧ I m a0 w, m0, ⟨_, rfl, rfl, h0⟩, ?_⟩
 rintro m vals mem w ⟨a0, rfl, rfl, hI⟩
 refine ⟨rfl, rfl, fun js => ?_⟩
 have h := hr m a0 w hI
 rw [← crc_laid_L1_eq _ _ _ _ _ _ _ js] at h
 exact h
def crc_laid_T (a0 : Int) (R : Value → World → Prop) (w : World) : Prop :=
 effSl Tryz.prog (Instr.makeSlice 122 (.int .i64 4) (.int .i64 4)) w fun a1 n2 c3 w4 =>
 loopD3 crc_laid_la1 (dnF Tryz.prog crc_laid_an (code Tryz.f128) 396 [0, 0, 1, 0, 1, 1]) (kont3 Tryz.prog crc_laid_an (code Tryz.f128) [1, 1, 0, 1, 0] [] (post3 Tryz.prog Tryz.f128 [] R)) (crc_laid_v1 a0 a1 n2 c3 (n2 : Int) 0) (crc_laid_m1) w4
theorem crc_laid_eq (a0 : Int) (R : Value → World → Prop) (w : World) :
 dnF Tryz.prog crc_laid_an (code Tryz.f128) 400 [] (post3 Tryz.prog Tryz.f128 [] R) ⟨args0 0 [(.int .u32 a0)], fun _ => undef⟩ ⟨[], w, [], [], true⟩ = crc_laid_T a0 R w := by kernel_rfl
theorem crc_laid_go {a0 : Int} {R : Value → World → Prop} {w : World} (h : crc_laid_T a0 R w) :
 Calls Tryz.prog 128 #[(.int .u32 a0)] w fun e w' => ∃ v, e = .returned v ∧ R v w' :=
 calls_none Tryz.wide_mixed (f := 128) (args := [(.int .u32 a0)]) Tryz.func128 rfl rfl (by kernel_rfl) rfl (Eq.mpr (crc_laid_eq a0 R w) h)
def crc_Frame_an : List LA := []
def crc_Frame_T (a0 : ByteArray) (R : Value → World → Prop) (w : World) : Prop :=
 Calls Tryz.prog 80 #[(.string a0)] w fun e w1 => ∃ s2 : ByteArray, e = .returned (.string s2) ∧
 Calls Tryz.prog 129 #[(.string a0)] w1 fun e w3 => ∃ x4 : Int, e = .returned (.int .u32 x4) ∧
 Calls Tryz.prog 128 #[(.int .u32 x4)] w3 fun e w5 => ∃ s6 : ByteArray, e = .returned (.string s6) ∧
 catS s2 s6 fun s7 =>
 R (.string s7) w5
theorem crc_Frame_eq (a0 : ByteArray) (R : Value → World → Prop) (w : World) :
 dnF Tryz.prog crc_Frame_an (code Tryz.f79) 400 [] (post3 Tryz.prog Tryz.f79 [] R) ⟨args0 0 [(.string a0)], fun _ => undef⟩ ⟨[], w, [], [], true⟩ = crc_Frame_T a0 R w := by kernel_rfl
theorem crc_Frame_go {a0 : ByteArray} {R : Value → World → Prop} {w : World} (h : crc_Frame_T a0 R w) :
 Calls Tryz.prog 79 #[(.string a0)] w fun e w' => ∃ v, e = .returned v ∧ R v w' :=
 calls_none Tryz.wide_mixed (f := 79) (args := [(.string a0)]) Tryz.func79 rfl rfl (by kernel_rfl) rfl (Eq.mpr (crc_Frame_eq a0 R w) h)
def crc_Cut_an : List LA := []
def crc_Cut_T (a0 : ByteArray) (a2 : Int) (a1 : Int) (R : Value → World → Prop) (w : World) : Prop :=
 Calls Tryz.prog 136 #[(.string a0), (.int .i64 a2), (.int .i64 a1)] w fun e w1 => ∃ s2 : ByteArray, ∃ x3 : Int, ∃ x4 : Int, e = .returned (.tuple #[(.string s2), (.int .i64 x3), (.int .i64 x4)]) ∧
 brB (x4 != 0) (
 R (.tuple #[(.string (⟨#[]⟩ : ByteArray)), (.int .i64 0), (.int .i64 x4)]) w1)
 (
 brB (decide ((IntKind.wrap .i64 ((a0.size : Int) - x3)) < 4)) (
 R (.tuple #[(.string (⟨#[]⟩ : ByteArray)), (.int .i64 0), (.int .i64 20)]) w1)
 (
 slS a0 x3 (IntKind.wrap .i64 (x3 + 4)) fun s5 =>
 ∀ w6, Adv [] [] w1 w6 →
 Calls Tryz.prog 129 #[(.string s2)] w6 fun e w7 => ∃ x8 : Int, e = .returned (.int .u32 x8) ∧
 Calls Tryz.prog 128 #[(.int .u32 x8)] w7 fun e w9 => ∃ s10 : ByteArray, e = .returned (.string s10) ∧
 brB (!(s5.toList == s10.toList)) (
 R (.tuple #[(.string (⟨#[]⟩ : ByteArray)), (.int .i64 0), (.int .i64 21)]) w9)
 (
 R (.tuple #[(.string s2), (.int .i64 (IntKind.wrap .i64 (x3 + 4))), (.int .i64 0)]) w9)))
theorem crc_Cut_eq (a2 : ByteArray) (a1 : Int) (a0 : Int) (R : Value → World → Prop) (w : World) :
 dnF Tryz.prog crc_Cut_an (code Tryz.f88) 400 [] (post3 Tryz.prog Tryz.f88 [] R) ⟨args0 0 [(.string a2), (.int .i64 a1), (.int .i64 a0)], fun _ => undef⟩ ⟨[], w, [], [], true⟩ = crc_Cut_T a2 a1 a0 R w := by kernel_rfl
theorem crc_Cut_go {a2 : ByteArray} {a1 : Int} {a0 : Int} {R : Value → World → Prop} {w : World} (h : crc_Cut_T a2 a1 a0 R w) :
 Calls Tryz.prog 88 #[(.string a2), (.int .i64 a1), (.int .i64 a0)] w fun e w' => ∃ v, e = .returned v ∧ R v w' :=
 calls_none Tryz.wide_mixed (f := 88) (args := [(.string a2), (.int .i64 a1), (.int .i64 a0)]) Tryz.func88 rfl rfl (by kernel_rfl) rfl (Eq.mpr (crc_Cut_eq a2 a1 a0 R w) h)

end Go.Proofs.YtohgihgddknmmaaGreat

/- Sums of bytes, frames. -/
namespace Go.Proofs.YtohgihgddknmmaaGreat
open Go Go.RowKit
set_option linter.unusedVariables false
set_option linter.unusedSimpArgs false

theorem bXor_range {x y : Int} : 0 ≤ bXor .u32 x y ∧ bXor .u32 x y < 4294967296 := by
  unfold bXor
  rw [IntKind.wrap_u32]
  omega
def rowStep (c : Int) : Int := bXor .u32 (Int.fdiv c (2 ^ (min (Int.toNat 1) 32))) (bAnd .u32 3988292384 (IntKind.wrap .u32 (0 - (bAnd .u32 c 1))))
def rowIt (c : Int) : Nat → Int
  | 0 => c
  | k + 1 => rowStep (rowIt c k)
def rowC (j : Nat) : Int := rowIt (IntKind.wrap .u32 (j : Nat)) 4
theorem row_ok (c : Int) (w : World) : Calls Tryz.prog 173 #[.int .u32 c] w fun e w' => e = .returned (.int .u32 (rowIt c 4)) ∧ w' = w := by
  refine go_of (crc_rows_1_go ?_)
  refine crc_rows_1_rule1 (fun mm x y w' => ∃ k : Nat, y = k ∧ k ≤ 4 ∧ x = rowIt c k ∧ w' = w ∧ mm = 4 - k) 4 ⟨0, rfl, by omega, rfl, rfl, rfl⟩ ?_
  rintro mm x y w' ⟨k, rfl, hk, rfl, rfl, rfl⟩
  refine brB_dec (fun h => ⟨by omega, ?_⟩) fun h => ?_
  · exact crc_rows_1_leaf1 (4 - (k + 1)) (by omega) ⟨k + 1, by rw [wrap_id (by omega) (by omega)]; omega, by omega, rfl, rfl, rfl⟩
  · have hk : k = 4 := by omega
    subst hk
    exact ⟨rfl, rfl⟩
def tabA (k j : Nat) : Int := if j < k then rowC j else 0
def tabV : Value := .agg #[.int .u32 (rowC 0), .int .u32 (rowC 1), .int .u32 (rowC 2), .int .u32 (rowC 3), .int .u32 (rowC 4), .int .u32 (rowC 5), .int .u32 (rowC 6), .int .u32 (rowC 7), .int .u32 (rowC 8), .int .u32 (rowC 9), .int .u32 (rowC 10), .int .u32 (rowC 11), .int .u32 (rowC 12), .int .u32 (rowC 13), .int .u32 (rowC 14), .int .u32 (rowC 15)]
set_option maxHeartbeats 4000000 in
theorem rows_ok (w : World) : Calls Tryz.prog 165 #[] w fun e w' => e = .returned tabV ∧ Mod [] w w' := by
  refine go_of (crc_rows_go ?_)
  intro b1 f1 b2 f2 w0 A0 h0
  refine crc_rows_rule1 (fun mm x x0 x1 x2 x3 x4 x5 x6 x7 x8 x9 x10 x11 x12 x13 x14 x15 w' => ∃ k : Nat, x = k ∧ k ≤ 16 ∧ x0 = tabA k 0 ∧ x1 = tabA k 1 ∧ x2 = tabA k 2 ∧ x3 = tabA k 3 ∧ x4 = tabA k 4 ∧ x5 = tabA k 5 ∧ x6 = tabA k 6 ∧ x7 = tabA k 7 ∧ x8 = tabA k 8 ∧ x9 = tabA k 9 ∧ x10 = tabA k 10 ∧ x11 = tabA k 11 ∧ x12 = tabA k 12 ∧ x13 = tabA k 13 ∧ x14 = tabA k 14 ∧ x15 = tabA k 15 ∧ Mod [] w w' ∧ mm = 16 - k) 16 ⟨0, rfl, by omega, rfl, rfl, rfl, rfl, rfl, rfl, rfl, rfl, rfl, rfl, rfl, rfl, rfl, rfl, rfl, rfl, A0.mod, rfl⟩ ?_
  rintro mm x x0 x1 x2 x3 x4 x5 x6 x7 x8 x9 x10 x11 x12 x13 x14 x15 w1 ⟨k, rfl, hk, rfl, rfl, rfl, rfl, rfl, rfl, rfl, rfl, rfl, rfl, rfl, rfl, rfl, rfl, rfl, rfl, M1, rfl⟩ hc
  refine brB_dec (fun hlt => ?_) fun hge => ?_
  · refine (row_ok _ w1).mono ?_
    rintro e w2 ⟨rfl, rfl⟩
    refine ⟨_, rfl, Keep.of0 (Mod.refl _), _, _, _, _, _, _, _, _, _, _, _, _, _, _, _, _, hc, by omega, by omega, ?_⟩
    have hb2 : w.heap.size ≤ b2 := f2
    rw [show (⟨b2, 0, none⟩ : Addr).add (Int.toNat (k : Int) * 1) = ⟨b2, k, none⟩ by rw [addr_add]; simp]
    refine st_of (b := b2) (o := k) hc rfl (by simp; omega) fun w3 h3 M3 => ?_
    refine ⟨Keep.ofE M3 fun b hb _ he => by simpa using he, ?_⟩
    have hM : Mod [] w w3 := M1.go0 M3 (by simpa using f2)
    have ek : IntKind.wrap .i64 ((k : Int) + 1) = ((k + 1 : Nat) : Int) := by rw [wrap_id (by omega) (by omega)]; omega
    have hcs : k = 0 ∨ k = 1 ∨ k = 2 ∨ k = 3 ∨ k = 4 ∨ k = 5 ∨ k = 6 ∨ k = 7 ∨ k = 8 ∨ k = 9 ∨ k = 10 ∨ k = 11 ∨ k = 12 ∨ k = 13 ∨ k = 14 ∨ k = 15 := by omega
    rcases hcs with rfl | rfl | rfl | rfl | rfl | rfl | rfl | rfl | rfl | rfl | rfl | rfl | rfl | rfl | rfl | rfl
    · exact ⟨tabA 1 0, tabA 1 1, tabA 1 2, tabA 1 3, tabA 1 4, tabA 1 5, tabA 1 6, tabA 1 7, tabA 1 8, tabA 1 9, tabA 1 10, tabA 1 11, tabA 1 12, tabA 1 13, tabA 1 14, tabA 1 15, h3, crc_rows_leaf1 (16 - (0 + 1)) (by omega) ⟨0 + 1, ek, by omega, rfl, rfl, rfl, rfl, rfl, rfl, rfl, rfl, rfl, rfl, rfl, rfl, rfl, rfl, rfl, rfl, hM, rfl⟩⟩
    · exact ⟨tabA 2 0, tabA 2 1, tabA 2 2, tabA 2 3, tabA 2 4, tabA 2 5, tabA 2 6, tabA 2 7, tabA 2 8, tabA 2 9, tabA 2 10, tabA 2 11, tabA 2 12, tabA 2 13, tabA 2 14, tabA 2 15, h3, crc_rows_leaf1 (16 - (1 + 1)) (by omega) ⟨1 + 1, ek, by omega, rfl, rfl, rfl, rfl, rfl, rfl, rfl, rfl, rfl, rfl, rfl, rfl, rfl, rfl, rfl, rfl, hM, rfl⟩⟩
    · exact ⟨tabA 3 0, tabA 3 1, tabA 3 2, tabA 3 3, tabA 3 4, tabA 3 5, tabA 3 6, tabA 3 7, tabA 3 8, tabA 3 9, tabA 3 10, tabA 3 11, tabA 3 12, tabA 3 13, tabA 3 14, tabA 3 15, h3, crc_rows_leaf1 (16 - (2 + 1)) (by omega) ⟨2 + 1, ek, by omega, rfl, rfl, rfl, rfl, rfl, rfl, rfl, rfl, rfl, rfl, rfl, rfl, rfl, rfl, rfl, rfl, hM, rfl⟩⟩
    · exact ⟨tabA 4 0, tabA 4 1, tabA 4 2, tabA 4 3, tabA 4 4, tabA 4 5, tabA 4 6, tabA 4 7, tabA 4 8, tabA 4 9, tabA 4 10, tabA 4 11, tabA 4 12, tabA 4 13, tabA 4 14, tabA 4 15, h3, crc_rows_leaf1 (16 - (3 + 1)) (by omega) ⟨3 + 1, ek, by omega, rfl, rfl, rfl, rfl, rfl, rfl, rfl, rfl, rfl, rfl, rfl, rfl, rfl, rfl, rfl, rfl, hM, rfl⟩⟩
    · exact ⟨tabA 5 0, tabA 5 1, tabA 5 2, tabA 5 3, tabA 5 4, tabA 5 5, tabA 5 6, tabA 5 7, tabA 5 8, tabA 5 9, tabA 5 10, tabA 5 11, tabA 5 12, tabA 5 13, tabA 5 14, tabA 5 15, h3, crc_rows_leaf1 (16 - (4 + 1)) (by omega) ⟨4 + 1, ek, by omega, rfl, rfl, rfl, rfl, rfl, rfl, rfl, rfl, rfl, rfl, rfl, rfl, rfl, rfl, rfl, rfl, hM, rfl⟩⟩
    · exact ⟨tabA 6 0, tabA 6 1, tabA 6 2, tabA 6 3, tabA 6 4, tabA 6 5, tabA 6 6, tabA 6 7, tabA 6 8, tabA 6 9, tabA 6 10, tabA 6 11, tabA 6 12, tabA 6 13, tabA 6 14, tabA 6 15, h3, crc_rows_leaf1 (16 - (5 + 1)) (by omega) ⟨5 + 1, ek, by omega, rfl, rfl, rfl, rfl, rfl, rfl, rfl, rfl, rfl, rfl, rfl, rfl, rfl, rfl, rfl, rfl, hM, rfl⟩⟩
    · exact ⟨tabA 7 0, tabA 7 1, tabA 7 2, tabA 7 3, tabA 7 4, tabA 7 5, tabA 7 6, tabA 7 7, tabA 7 8, tabA 7 9, tabA 7 10, tabA 7 11, tabA 7 12, tabA 7 13, tabA 7 14, tabA 7 15, h3, crc_rows_leaf1 (16 - (6 + 1)) (by omega) ⟨6 + 1, ek, by omega, rfl, rfl, rfl, rfl, rfl, rfl, rfl, rfl, rfl, rfl, rfl, rfl, rfl, rfl, rfl, rfl, hM, rfl⟩⟩
    · exact ⟨tabA 8 0, tabA 8 1, tabA 8 2, tabA 8 3, tabA 8 4, tabA 8 5, tabA 8 6, tabA 8 7, tabA 8 8, tabA 8 9, tabA 8 10, tabA 8 11, tabA 8 12, tabA 8 13, tabA 8 14, tabA 8 15, h3, crc_rows_leaf1 (16 - (7 + 1)) (by omega) ⟨7 + 1, ek, by omega, rfl, rfl, rfl, rfl, rfl, rfl, rfl, rfl, rfl, rfl, rfl, rfl, rfl, rfl, rfl, rfl, hM, rfl⟩⟩
    · exact ⟨tabA 9 0, tabA 9 1, tabA 9 2, tabA 9 3, tabA 9 4, tabA 9 5, tabA 9 6, tabA 9 7, tabA 9 8, tabA 9 9, tabA 9 10, tabA 9 11, tabA 9 12, tabA 9 13, tabA 9 14, tabA 9 15, h3, crc_rows_leaf1 (16 - (8 + 1)) (by omega) ⟨8 + 1, ek, by omega, rfl, rfl, rfl, rfl, rfl, rfl, rfl, rfl, rfl, rfl, rfl, rfl, rfl, rfl, rfl, rfl, hM, rfl⟩⟩
    · exact ⟨tabA 10 0, tabA 10 1, tabA 10 2, tabA 10 3, tabA 10 4, tabA 10 5, tabA 10 6, tabA 10 7, tabA 10 8, tabA 10 9, tabA 10 10, tabA 10 11, tabA 10 12, tabA 10 13, tabA 10 14, tabA 10 15, h3, crc_rows_leaf1 (16 - (9 + 1)) (by omega) ⟨9 + 1, ek, by omega, rfl, rfl, rfl, rfl, rfl, rfl, rfl, rfl, rfl, rfl, rfl, rfl, rfl, rfl, rfl, rfl, hM, rfl⟩⟩
    · exact ⟨tabA 11 0, tabA 11 1, tabA 11 2, tabA 11 3, tabA 11 4, tabA 11 5, tabA 11 6, tabA 11 7, tabA 11 8, tabA 11 9, tabA 11 10, tabA 11 11, tabA 11 12, tabA 11 13, tabA 11 14, tabA 11 15, h3, crc_rows_leaf1 (16 - (10 + 1)) (by omega) ⟨10 + 1, ek, by omega, rfl, rfl, rfl, rfl, rfl, rfl, rfl, rfl, rfl, rfl, rfl, rfl, rfl, rfl, rfl, rfl, hM, rfl⟩⟩
    · exact ⟨tabA 12 0, tabA 12 1, tabA 12 2, tabA 12 3, tabA 12 4, tabA 12 5, tabA 12 6, tabA 12 7, tabA 12 8, tabA 12 9, tabA 12 10, tabA 12 11, tabA 12 12, tabA 12 13, tabA 12 14, tabA 12 15, h3, crc_rows_leaf1 (16 - (11 + 1)) (by omega) ⟨11 + 1, ek, by omega, rfl, rfl, rfl, rfl, rfl, rfl, rfl, rfl, rfl, rfl, rfl, rfl, rfl, rfl, rfl, rfl, hM, rfl⟩⟩
    · exact ⟨tabA 13 0, tabA 13 1, tabA 13 2, tabA 13 3, tabA 13 4, tabA 13 5, tabA 13 6, tabA 13 7, tabA 13 8, tabA 13 9, tabA 13 10, tabA 13 11, tabA 13 12, tabA 13 13, tabA 13 14, tabA 13 15, h3, crc_rows_leaf1 (16 - (12 + 1)) (by omega) ⟨12 + 1, ek, by omega, rfl, rfl, rfl, rfl, rfl, rfl, rfl, rfl, rfl, rfl, rfl, rfl, rfl, rfl, rfl, rfl, hM, rfl⟩⟩
    · exact ⟨tabA 14 0, tabA 14 1, tabA 14 2, tabA 14 3, tabA 14 4, tabA 14 5, tabA 14 6, tabA 14 7, tabA 14 8, tabA 14 9, tabA 14 10, tabA 14 11, tabA 14 12, tabA 14 13, tabA 14 14, tabA 14 15, h3, crc_rows_leaf1 (16 - (13 + 1)) (by omega) ⟨13 + 1, ek, by omega, rfl, rfl, rfl, rfl, rfl, rfl, rfl, rfl, rfl, rfl, rfl, rfl, rfl, rfl, rfl, rfl, hM, rfl⟩⟩
    · exact ⟨tabA 15 0, tabA 15 1, tabA 15 2, tabA 15 3, tabA 15 4, tabA 15 5, tabA 15 6, tabA 15 7, tabA 15 8, tabA 15 9, tabA 15 10, tabA 15 11, tabA 15 12, tabA 15 13, tabA 15 14, tabA 15 15, h3, crc_rows_leaf1 (16 - (14 + 1)) (by omega) ⟨14 + 1, ek, by omega, rfl, rfl, rfl, rfl, rfl, rfl, rfl, rfl, rfl, rfl, rfl, rfl, rfl, rfl, rfl, rfl, hM, rfl⟩⟩
    · exact ⟨tabA 16 0, tabA 16 1, tabA 16 2, tabA 16 3, tabA 16 4, tabA 16 5, tabA 16 6, tabA 16 7, tabA 16 8, tabA 16 9, tabA 16 10, tabA 16 11, tabA 16 12, tabA 16 13, tabA 16 14, tabA 16 15, h3, crc_rows_leaf1 (16 - (15 + 1)) (by omega) ⟨15 + 1, ek, by omega, rfl, rfl, rfl, rfl, rfl, rfl, rfl, rfl, rfl, rfl, rfl, rfl, rfl, rfl, rfl, rfl, hM, rfl⟩⟩
  · have hk : k = 16 := by omega
    subst hk
    intro w2 A2 _
    exact ⟨rfl, M1.go0 A2.mod (by simpa using f1)⟩
def crcStep (c : Int) (b : UInt8) : Int :=
  bXor .u32 (Int.fdiv (bXor .u32 (Int.fdiv (bXor .u32 c (IntKind.wrap .u32 (b.toNat : Nat))) (2 ^ (min (Int.toNat 4) 32))) (rowC (Int.tmod (bXor .u32 c (IntKind.wrap .u32 (b.toNat : Nat))) 16).toNat)) (2 ^ (min (Int.toNat 4) 32)))
    (rowC (Int.tmod (bXor .u32 (Int.fdiv (bXor .u32 c (IntKind.wrap .u32 (b.toNat : Nat))) (2 ^ (min (Int.toNat 4) 32))) (rowC (Int.tmod (bXor .u32 c (IntKind.wrap .u32 (b.toNat : Nat))) 16).toNat)) 16).toNat)
theorem tab_cell {w : World} {b : Nat} {T : TypeId} (h : w.heap[b]? = some (.cells #[.int .u32 (rowC 0), .int .u32 (rowC 1), .int .u32 (rowC 2), .int .u32 (rowC 3), .int .u32 (rowC 4), .int .u32 (rowC 5), .int .u32 (rowC 6), .int .u32 (rowC 7), .int .u32 (rowC 8), .int .u32 (rowC 9), .int .u32 (rowC 10), .int .u32 (rowC 11), .int .u32 (rowC 12), .int .u32 (rowC 13), .int .u32 (rowC 14), .int .u32 (rowC 15)] T)) {i : Nat} (hi : i < 16) : w.cell? ((⟨b, 0, none⟩ : Addr).add (i * 1)) = some (.int .u32 (rowC i)) := by
  rw [addr_add, Nat.zero_add, Nat.mul_one, cell_at h]
  have e : i = 0 ∨ i = 1 ∨ i = 2 ∨ i = 3 ∨ i = 4 ∨ i = 5 ∨ i = 6 ∨ i = 7 ∨ i = 8 ∨ i = 9 ∨ i = 10 ∨ i = 11 ∨ i = 12 ∨ i = 13 ∨ i = 14 ∨ i = 15 := by omega
  rcases e with rfl | rfl | rfl | rfl | rfl | rfl | rfl | rfl | rfl | rfl | rfl | rfl | rfl | rfl | rfl | rfl <;> rfl
theorem tmod16 {x : Int} (h : 0 ≤ x) : 0 ≤ Int.tmod x 16 ∧ Int.tmod x 16 < ((16 : Nat) : Int) := by
  rw [Int.tmod_eq_emod_of_nonneg h]; omega
def crcM (c : Int) (l : List UInt8) : Int := bXor .u32 4294967295 (l.foldl crcStep (bXor .u32 4294967295 c))
theorem More_ok (c : Int) (s : ByteArray) (hs : s.size ≤ 1000000000000) (w : World) : Calls Tryz.prog 154 #[.int .u32 c, .string s] w fun e w' => e = .returned (.int .u32 (crcM c s.data.toList)) ∧ Mod [] w w' := by
  refine go_of (crc_More_go ?_)
  refine (rows_ok w).mono ?_
  rintro e w1 ⟨rfl, M1⟩
  refine ⟨_, _, _, _, _, _, _, _, _, _, _, _, _, _, _, _, rfl, ?_⟩
  intro b2 f2 w2 A2 h2
  have N2 := M1.go0 A2.mod (by simp)
  refine crc_More_rule1 (fun mm x y w' => ∃ k : Nat, y = k ∧ k ≤ s.size ∧ x = (s.data.toList.take k).foldl crcStep (bXor .u32 4294967295 c) ∧ w' = w2 ∧ mm = s.size - k) s.size ⟨0, rfl, by omega, by simp, rfl, rfl⟩ ?_
  rintro mm x y w3 ⟨k, rfl, hk, rfl, rfl, rfl⟩ _
  refine brB_dec (fun hlt => ?_) fun hge => ?_
  · have hk' : k < s.size := by omega
    obtain ⟨b, hb, hv⟩ := byteAt_mem hk'
    refine ⟨by omega, by omega, ?_⟩
    rw [Int.toNat_natCast, hv]
    have t1 := tmod16 (x := bXor .u32 ((s.data.toList.take k).foldl crcStep (bXor .u32 4294967295 c)) (IntKind.wrap .u32 (b.toNat : Nat))) bXor_range.1
    refine ⟨by omega, by omega, t1.1, t1.2, ldInt_of (tab_cell h2 (by omega)) ?_⟩
    have t2 := tmod16 (x := bXor .u32 (Int.fdiv (bXor .u32 ((s.data.toList.take k).foldl crcStep (bXor .u32 4294967295 c)) (IntKind.wrap .u32 (b.toNat : Nat))) (2 ^ (min (Int.toNat 4) 32))) (rowC (Int.tmod (bXor .u32 ((s.data.toList.take k).foldl crcStep (bXor .u32 4294967295 c)) (IntKind.wrap .u32 (b.toNat : Nat))) 16).toNat)) bXor_range.1
    refine ⟨by omega, by omega, t2.1, t2.2, ldInt_of (tab_cell h2 (by omega)) ?_⟩
    refine crc_More_leaf1 (s.size - (k + 1)) (by omega) ⟨k + 1, by rw [wrap_id (by omega) (by omega)]; omega, by omega, ?_, rfl, rfl⟩
    rw [List.take_add_one, hb]
    simp [crcStep]
  · have hk : k = s.size := by omega
    subst hk
    rw [List.take_of_length_le (by simp)]
    exact ⟨rfl, N2⟩
def crcN (l : List UInt8) : Int := crcM 0 l
theorem Sum_ok (s : ByteArray) (hs : s.size ≤ 1000000000000) (w : World) : Calls Tryz.prog 129 #[.string s] w fun e w' => e = .returned (.int .u32 (crcN s.data.toList)) ∧ Mod [] w w' := by
  refine go_of (crc_Sum_go ?_)
  refine (More_ok 0 s hs w).mono ?_
  rintro e w1 ⟨rfl, M1⟩
  exact ⟨_, rfl, rfl, M1⟩

/-! ### a sum in four bytes -/
def lbI (n : Int) (k : Nat) : Int := IntKind.wrap .u8 (Int.fdiv n (2 ^ (min (Int.toNat ((8 * k : Nat) : Int)) 32)))
def lb (n : Int) (k : Nat) : UInt8 := UInt8.ofNat (lbI n k).toNat
theorem lb_int (n : Int) (k : Nat) : ((lb n k).toNat : Int) = lbI n k := by
  have h : 0 ≤ lbI n k ∧ lbI n k < 256 := by unfold lbI; rw [IntKind.wrap_u8]; omega
  have : (lb n k).toNat = (lbI n k).toNat := by simp [lb]; omega
  omega
theorem made4 : madeCells #[Value.int .u8 0] 4 = #[.int .u8 0, .int .u8 0, .int .u8 0, .int .u8 0] := by kernel_rfl
def laidB (n : Int) : List UInt8 := [lb n 0, lb n 1, lb n 2, lb n 3]
theorem laid_ok (n : Int) (w : World) : Calls Tryz.prog 128 #[.int .u32 n] w fun e w' => e = .returned (.string (bs (laidB n))) ∧ Mod [] w w' := by
  refine go_of (crc_laid_go ?_)
  obtain ⟨i0, hi, hz0, hz1, hz2⟩ := info_parts infoU8
  have hmk : (Instr.makeSlice 122 (.int .i64 4) (.int .i64 4)).run Tryz.prog w = .ok (.slice (some ⟨w.heap.size, 0, none⟩) 4 4) (w.alloc (.cells (madeCells #[Value.int .u8 0] 4) 5)) := by
    have h := run_makeSlice (P := Tryz.prog) w 122 5 i0 (.int .u8 0) Tryz.underlying122 hi hz0 .i64 .i64 4 4 (by omega) (by omega) (by rw [hz1]; decide) (by rw [hz2]; decide) (by decide)
    rw [hz1] at h
    exact h
  refine ⟨_, _, _, _, hmk, ?_⟩
  have M1 : Mod [] w (w.alloc (.cells (madeCells #[Value.int .u8 0] 4) 5)) := Mod.of_below ((Below.refl _ _).alloc (Nat.le_refl _) _)
  have h1 : (w.alloc (.cells (madeCells #[Value.int .u8 0] 4) 5)).heap[w.heap.size]? = some (.cells #[.int .u8 0, .int .u8 0, .int .u8 0, .int .u8 0] 5) := by
    have := World.alloc_heap_new w (.cells (madeCells #[Value.int .u8 0] 4) 5)
    rw [this, made4]
  obtain ⟨f, hf⟩ : ∃ f : Nat → Nat → Value, f = fun k j => if j < k then .int .u8 (lbI n j) else .int .u8 0 := ⟨_, rfl⟩
  refine crc_laid_rule1 (fun mm x w' => ∃ k : Nat, x = k ∧ k ≤ 4 ∧ w'.heap[w.heap.size]? = some (.cells #[f k 0, f k 1, f k 2, f k 3] 5) ∧ Mod [] w w' ∧ mm = 4 - k) 4 ⟨0, rfl, by omega, by rw [hf]; exact h1, M1, rfl⟩ ?_
  rintro mm x w2 ⟨k, rfl, hk, h2, M2, rfl⟩
  have e8 : k ≤ 3 → IntKind.wrap .i64 (8 * (k : Int)) = ((8 * k : Nat) : Int) := fun _ => by rw [wrap_id (by omega) (by omega)]; omega
  refine brB_dec (fun hlt => ⟨by rw [e8 (by omega)]; omega, ?_⟩) fun hge => ?_
  · rw [e8 (by omega)]
    refine ⟨_, rfl, by omega, by omega, ?_⟩
    rw [show (⟨w.heap.size, 0, none⟩ : Addr).add (Int.toNat (k : Int) * 1) = ⟨w.heap.size, k, none⟩ by rw [addr_add]; simp]
    have ek : IntKind.wrap .i64 ((k : Int) + 1) = ((k + 1 : Nat) : Int) := by rw [wrap_id (by omega) (by omega)]; omega
    refine st_of (o := k) h2 rfl (by simp; omega) fun w3 h3 M3 => ?_
    have hM : Mod [] w w3 := M2.go0 M3 (by simp)
    refine crc_laid_leaf1 (4 - (k + 1)) (by omega) ⟨k + 1, ek, by omega, ?_, hM, rfl⟩
    rw [h3]
    have hcs : k = 0 ∨ k = 1 ∨ k = 2 ∨ k = 3 := by omega
    subst hf
    rcases hcs with rfl | rfl | rfl | rfl <;> rfl
  · have hk : k = 4 := by omega
    subst hk
    refine ⟨_, _, run_convert_bytes_back w2 _ _ 5 ⟨w.heap.size, 0, none⟩ 4 (laidB n) Tryz.underlying122 Tryz.underlying5 Tryz.underlying9 fun j hj => ?_, rfl, M2⟩
    rw [addr_add, Nat.zero_add, cell_at h2]
    subst hf
    have hj : j < 4 := hj
    match j, hj with
    | 0, _ => simp [laidB, lb_int]
    | 1, _ => simp [laidB, lb_int]
    | 2, _ => simp [laidB, lb_int]
    | 3, _ => simp [laidB, lb_int]
def frameB (s : ByteArray) : List UInt8 := putT s ++ laidB (crcN s.data.toList)
theorem Frame_ok (s : ByteArray) (hs : s.size ≤ 1000000000000) (w : World) : Calls Tryz.prog 79 #[.string s] w fun e w' => e = .returned (.string (bs (frameB s))) ∧ Mod [] w w' := by
  refine go_of (crc_Frame_go ?_)
  refine (PutText_ok s (by omega) w).mono ?_
  rintro e w1 ⟨rfl, M1⟩
  refine ⟨_, rfl, ?_⟩
  refine (Sum_ok s hs w1).mono ?_
  rintro e w2 ⟨rfl, M2⟩
  refine ⟨_, rfl, ?_⟩
  refine (laid_ok _ w2).mono ?_
  rintro e w3 ⟨rfl, M3⟩
  have := putT_len s (by omega)
  refine ⟨_, rfl, by rw [bs_size, bs_size]; simp [laidB]; omega, ?_⟩
  exact ⟨by rw [bs_app]; rfl, (M1.go0 M2 (by simp)).go0 M3 (by simp)⟩
end Go.Proofs.YtohgihgddknmmaaGreat

/- What stands at a place: numbers, texts, frames. -/
namespace Go.Proofs.YtohgihgddknmmaaGreat
open Go Go.RowKit
set_option linter.unusedVariables false
set_option linter.unusedSimpArgs false

/-- The number ahead in some bytes, of which so many stood ahead; how many bytes it has. -/
def vg : Nat → List UInt8 → Option (Nat × Nat)
  | _, [] => none
  | k, c :: r => if (k = 9 ∧ 1 < c.toNat) ∨ (0 < k ∧ c.toNat = 0) then none
    else if c.toNat < 128 then some (c.toNat, 1)
    else (vg (k + 1) r).map fun p => (c.toNat % 128 + 128 * p.1, p.2 + 1)
theorem vg_cons (k : Nat) (c : UInt8) (r : List UInt8) : vg k (c :: r) = if (k = 9 ∧ 1 < c.toNat) ∨ (0 < k ∧ c.toNat = 0) then none
    else if c.toNat < 128 then some (c.toNat, 1)
    else (vg (k + 1) r).map fun p => (c.toNat % 128 + 128 * p.1, p.2 + 1) := rfl
theorem vg_len : ∀ (l : List UInt8) {k n m : Nat}, vg k l = some (n, m) → 1 ≤ m ∧ m ≤ l.length
  | [], k, n, m, h => by simp [vg] at h
  | c :: r, k, n, m, h => by
    unfold vg at h
    split at h
    · simp at h
    split at h
    · simp at h; simp; omega
    cases hr : vg (k + 1) r with
    | none => simp [hr] at h
    | some p =>
      have := vg_len r (n := p.1) (m := p.2) hr
      simp [hr] at h; simp; omega
theorem vg_lt : ∀ (l : List UInt8) {k n m : Nat}, k ≤ 9 → vg k l = some (n, m) → n < 2 ^ (64 - 7 * k)
  | [], k, n, m, _, h => by simp [vg] at h
  | c :: r, k, n, m, hk, h => by
    unfold vg at h
    split at h
    · simp at h
    rename_i hl
    split at h
    · simp at h
      rename_i hc
      have h2 : 2 ^ 8 ≤ 2 ^ (64 - 7 * k) ∨ k = 9 := by
        by_cases k = 9
        · exact .inr ‹_›
        · exact .inl (Nat.pow_le_pow_right (by omega) (by omega))
      rcases h2 with h2 | rfl
      · omega
      · simp; omega
    cases hr : vg (k + 1) r with
    | none => simp [hr] at h
    | some p =>
      have hk9 : k ≠ 9 := by omega
      have := vg_lt r (n := p.1) (m := p.2) (by omega) hr
      have e : 64 - 7 * k = (64 - 7 * (k + 1)) + 7 := by omega
      rw [e, Nat.pow_add]
      simp [hr] at h
      omega
theorem vg_put : ∀ (j k n : Nat) (r : List UInt8), j + k = 9 → n < 2 ^ (64 - 7 * k) → (0 < k → 0 < n) → vg k (vPutL n ++ r) = some (n, (vPutL n).length)
  | j, k, n, r, hj, hn, h0 => by
    unfold vPutL
    by_cases hs : n < 128
    · have e : (UInt8.ofNat n).toNat = n := by simp; omega
      rw [sevL_small hs]
      simp only [List.map_cons, List.map_nil, Bool.false_eq_true, if_false, List.cons_append, List.nil_append, vg, e, List.length_cons, List.length_nil]
      rw [if_neg, if_pos hs]
      rintro (⟨rfl, h⟩ | ⟨h1, h2⟩)
      · simp at hn; omega
      · omega
    · have e : (UInt8.ofNat (n % 128 + 128)).toNat = n % 128 + 128 := by simp; omega
      have hk9 : k ≠ 9 := by rintro rfl; simp at hn; omega
      obtain ⟨j, rfl⟩ : ∃ i, j = i + 1 := ⟨j - 1, by omega⟩
      have e2 : 64 - 7 * k = (64 - 7 * (k + 1)) + 7 := by omega
      rw [e2, Nat.pow_add] at hn
      have ih := vg_put j (k + 1) (n / 128) r (by omega) (by omega) (by omega)
      unfold vPutL at ih
      rw [sevL_big hs]
      simp only [List.map_cons, if_true, List.cons_append, vg, e, List.length_cons]
      rw [if_neg (by omega), if_neg (by omega), ih]
      simp; omega
  termination_by j => j

theorem bOr64 (a b : Nat) (ha : a < 18446744073709551616) (hb : b < 18446744073709551616) : bOr .u64 a b = ((a ||| b : Nat) : Int) := by
  have h : a ||| b < 2 ^ 64 := Nat.or_lt_two_pow ha hb
  unfold bOr
  rw [IntKind.wrap_u64]
  simp only [BitVec.toNat_or, BitVec.toNat_ofInt]
  have e1 : ((a : Int) % ((2 ^ IntKind.bits .u64 : Nat) : Int)).toNat = a := by
    show ((a : Int) % ((2 ^ 64 : Nat) : Int)).toNat = a
    omega
  have e2 : ((b : Int) % ((2 ^ IntKind.bits .u64 : Nat) : Int)).toNat = b := by
    show ((b : Int) % ((2 ^ 64 : Nat) : Int)).toNat = b
    omega
  rw [e1, e2]
  omega
theorem bAnd127 : ∀ c : Fin 256, bAnd .u8 ((c.val : Nat) : Int) 127 = ((c.val % 128 : Nat) : Int) := by decide +kernel
theorem vstep {acc k c : Nat} (hk : k ≤ 9) (ha : acc < 2 ^ (7 * k)) (hc : c < 256) (h9 : k = 9 → c ≤ 1) :
    bOr .u64 (acc : Int) (IntKind.wrap .u64 ((IntKind.wrap .u64 (bAnd .u8 (c : Nat) 127)) * 2 ^ (min (Int.toNat (IntKind.wrap .i64 (7 * (k : Nat)))) 64))) = ((acc + 2 ^ (7 * k) * (c % 128) : Nat) : Int) := by
  have e0 := bAnd127 ⟨c, hc⟩
  have e1 : min (Int.toNat (IntKind.wrap .i64 (7 * (k : Nat)))) 64 = 7 * k := by rw [wrap_id (by omega) (by omega)]; omega
  rw [e0, e1, wrapU (by omega)]
  have hp : 2 ^ (7 * k) * (c % 128) < 2 ^ 64 := by
    have hcs : k = 0 ∨ k = 1 ∨ k = 2 ∨ k = 3 ∨ k = 4 ∨ k = 5 ∨ k = 6 ∨ k = 7 ∨ k = 8 ∨ k = 9 := by omega
    rcases hcs with rfl | rfl | rfl | rfl | rfl | rfl | rfl | rfl | rfl | rfl <;> simp <;> omega
  have e2 : (((c % 128 : Nat) : Int) * 2 ^ (7 * k)) = ((2 ^ (7 * k) * (c % 128) : Nat) : Int) := by
    rw [Int.natCast_mul, Int.natCast_pow, Int.mul_comm]; rfl
  rw [e2, wrapU (by omega)]
  have hp2 : 2 ^ (7 * k) ≤ 2 ^ 63 := Nat.pow_le_pow_right (by omega) (by omega)
  rw [bOr64 _ _ (by omega) (by omega)]
  congr 1
  rw [Nat.or_comm, ← Nat.two_pow_add_eq_or_of_lt ha, Nat.add_comm]

/-- What is told of a number at a place. -/
def GetV (at_ : Nat) : Option (Nat × Nat) → Value → Prop
  | some (n, m), v => v = .tuple #[.int .u64 (n : Nat), .int .i64 ((at_ + m : Nat) : Int), .int .i64 0]
  | none, v => ∃ e : Int, e ≠ 0 ∧ v = .tuple #[.int .u64 0, .int .i64 0, .int .i64 e]
set_option maxRecDepth 20000 in
theorem GetN_ok (s : ByteArray) (a : Nat) (hs : s.size ≤ 1000000000000) (ha : a ≤ s.size) (w : World) :
    Calls Tryz.prog 87 #[.string s, .int .i64 (a : Nat)] w fun e w' => ∃ v, e = .returned v ∧ GetV a (vg 0 (s.data.toList.drop a)) v ∧ w' = w := by
  refine varint_Get_go ?_
  refine brB_dec (fun h => by omega) fun _ => brB_dec (fun h => by omega) fun _ => ?_
  refine varint_Get_rule1 (fun mm x y w' => ∃ k acc : Nat, y = k ∧ x = acc ∧ k ≤ 9 ∧ acc < 2 ^ (7 * k) ∧ w' = w ∧ a + k ≤ s.size ∧
    vg 0 (s.data.toList.drop a) = (vg k (s.data.toList.drop (a + k))).map (fun p => (acc + 2 ^ (7 * k) * p.1, k + p.2)) ∧ mm = 9 - k) 9 ⟨0, 0, rfl, rfl, by omega, by simp, rfl, by omega, by simp, rfl⟩ ?_
  rintro mm x y w1 ⟨k, acc, rfl, rfl, hk, hacc, rfl, hak, hv, rfl⟩
  have e1 : IntKind.wrap .i64 ((a : Int) + (k : Int)) = ((a + k : Nat) : Int) := by rw [wrap_id (by omega) (by omega)]; omega
  unfold varint_Get_L1
  rw [e1]
  refine brB_dec (fun hge => ?_) fun hlt => ?_
  · refine ⟨?_, rfl⟩
    rw [hv, List.drop_eq_nil_of_le (by simp; omega)]
    exact ⟨10, by decide, rfl⟩
  have hlt' : a + k < s.size := by omega
  obtain ⟨c, hc, hcv⟩ := byteAt_mem hlt'
  refine ⟨by omega, by omega, ?_⟩
  rw [Int.toNat_natCast, hcv]
  have hdr : s.data.toList.drop (a + k) = c :: s.data.toList.drop (a + (k + 1)) := by
    obtain ⟨hl, he⟩ := List.getElem?_eq_some_iff.1 hc
    rw [List.drop_eq_getElem_cons hl, he]; rfl
  have hc8 := c.toNat_lt
  have hlong : Calls Tryz.prog 135 #[.int .u8 (c.toNat : Nat), .int .i64 (k : Nat)] w1 fun e w' => e = .returned (.bool (decide ((k = 9 ∧ 1 < c.toNat) ∨ (0 < k ∧ c.toNat = 0)))) ∧ w' = w1 := by
    refine go_of (varint_long_go ?_)
    have tail : brB (decide ((k : Int) > 0)) (Value.bool ((c.toNat : Int) == 0) = Value.bool (decide ((k = 9 ∧ 1 < c.toNat) ∨ (0 < k ∧ c.toNat = 0))) ∧ w1 = w1) (Value.bool false = Value.bool (decide ((k = 9 ∧ 1 < c.toNat) ∨ (0 < k ∧ c.toNat = 0))) ∧ w1 = w1) ∨ (k = 9 ∧ 1 < c.toNat) := by
      by_cases h9 : k = 9 ∧ 1 < c.toNat
      · exact .inr h9
      refine .inl (brB_dec (fun hp => ⟨?_, rfl⟩) fun hn => ⟨?_, rfl⟩)
      · congr 1
        rw [Bool.eq_iff_iff]; simp; omega
      · congr 1
        symm
        rw [decide_eq_false_iff_not]; omega
    refine brB_of (fun h => ?_) fun h => ?_
    · have h : (k : Int) = 9 := by simpa using h
      refine brB_dec (fun h1 => ⟨?_, rfl⟩) fun h1 => ?_
      · congr 1
        symm
        rw [decide_eq_true_iff]; omega
      · rcases tail with t | t
        · exact t
        · omega
    · have h : ¬ (k : Int) = 9 := by simpa using h
      rcases tail with t | t
      · exact t
      · omega
  refine hlong.mono ?_
  rintro e w2 ⟨rfl, rfl⟩
  refine ⟨_, rfl, ?_⟩
  rw [hdr, vg_cons] at hv
  refine brB_dec (fun hb => ?_) fun hb => ?_
  · refine ⟨?_, rfl⟩
    rw [hv, if_pos hb]
    exact ⟨11, by decide, rfl⟩
  rw [if_neg hb] at hv
  have hst := vstep (acc := acc) (k := k) (c := c.toNat) hk hacc (by omega) (by omega)
  refine ⟨by rw [wrap_id (by omega) (by omega)]; omega, ?_⟩
  rw [hst]
  refine brB_dec (fun hsm => ?_) fun hbg => ?_
  · have hsm : c.toNat < 128 := by omega
    rw [if_pos hsm] at hv
    refine ⟨?_, rfl⟩
    rw [hv, wrap_id (by omega) (by omega)]
    have e4 : c.toNat % 128 = c.toNat := by omega
    simp only [Option.map_some, GetV, e4]
    congr 3
  · have hbg : ¬ c.toNat < 128 := by omega
    rw [if_neg hbg] at hv
    refine varint_Get_leaf1 (9 - (k + 1)) (by omega) ⟨k + 1, acc + 2 ^ (7 * k) * (c.toNat % 128), by rw [wrap_id (by omega) (by omega)]; omega, rfl, by omega, ?_, rfl, by omega, ?_, rfl⟩
    · have e : 7 * (k + 1) = 7 * k + 7 := by omega
      rw [e, Nat.pow_add]
      have h5 : c.toNat % 128 ≤ 127 := by omega
      have := Nat.mul_le_mul_left (2 ^ (7 * k)) h5
      omega
    · rw [hv, Option.map_map]
      congr 1
      funext p
      have e : 7 * (k + 1) = 7 * k + 7 := by omega
      simp only [Function.comp]
      rw [e, Nat.pow_add, Nat.mul_add, ← Nat.mul_assoc]
      congr 1
      · rw [Nat.add_assoc]
      · omega
/-- The text ahead in some bytes, how many bytes it has. -/
def tg (lim : Nat) (l : List UInt8) : Option (ByteArray × Nat) := match vg 0 l with
  | none => none
  | some (n, m) => if n ≤ lim ∧ n ≤ l.length - m then some (bs ((l.drop m).take n), m + n) else none
def TextV (at_ : Nat) : Option (ByteArray × Nat) → Value → Prop
  | some (t, m), v => v = .tuple #[.string t, .int .i64 ((at_ + m : Nat) : Int), .int .i64 0]
  | none, v => ∃ e : Int, e ≠ 0 ∧ v = .tuple #[.string ⟨#[]⟩, .int .i64 0, .int .i64 e]
theorem bs_toList (s : ByteArray) : bs s.data.toList = s := by
  apply ByteArray.ext; simp [bs]
theorem bs_inj {a b : List UInt8} (h : bs a = bs b) : a = b := by
  have := congrArg (fun s : ByteArray => s.data.toList) h
  simpa [bs] using this
theorem bs_data (l : List UInt8) : (bs l).data.toList = l := by simp [bs]
theorem ext_bs (s : ByteArray) (a n : Nat) (h : a + n ≤ s.size) : s.extract a (a + n) = bs ((s.data.toList.drop a).take n) := by
  apply ByteArray.ext
  rw [ByteArray.data_extract]
  apply Array.ext'
  rw [Array.toList_extract]
  simp [bs, List.extract_eq_take_drop]
theorem tg_len {lim : Nat} {l : List UInt8} {t : ByteArray} {m : Nat} (h : tg lim l = some (t, m)) : 1 ≤ m ∧ m ≤ l.length ∧ t.size ≤ lim ∧ t.size + 1 ≤ m := by
  unfold tg at h
  split at h
  · cases h
  rename_i n k hv
  have := vg_len l hv
  split at h
  · simp only [Option.some.injEq, Prod.mk.injEq] at h
    obtain ⟨rfl, rfl⟩ := h
    rw [bs_size, List.length_take, List.length_drop]
    omega
  · cases h
theorem tg_put {lim : Nat} (s : ByteArray) (r : List UInt8) (h : s.size ≤ lim) (hs : s.size < 18446744073709551616) : tg lim (putT s ++ r) = some (s, (putT s).length) := by
  have hv := vg_put 9 0 s.size (s.data.toList ++ r) rfl (by simpa using hs) (by omega)
  unfold tg putT
  rw [List.append_assoc, hv]
  have e : s.data.toList.length = s.size := by simp
  simp only [List.length_append, List.drop_left']
  rw [if_pos (by simp; omega)]
  simp only [Option.some.injEq, Prod.mk.injEq]
  refine ⟨?_, by rw [e]⟩
  rw [← e, List.take_left', bs_toList]
  rfl
set_option maxRecDepth 20000 in
theorem GetText_ok (s : ByteArray) (a : Nat) (lim : Nat) (hs : s.size ≤ 1000000000000) (ha : a ≤ s.size) (hl : lim ≤ 1000000000000) (w : World) :
    Calls Tryz.prog 136 #[.string s, .int .i64 (a : Nat), .int .i64 (lim : Nat)] w fun e w' => ∃ v, e = .returned v ∧ TextV a (tg lim (s.data.toList.drop a)) v ∧ w' = w := by
  refine varint_GetText_go ?_
  refine (GetN_ok s a hs ha w).mono ?_
  rintro e w1 ⟨v, rfl, hv, rfl⟩
  cases hg : vg 0 (s.data.toList.drop a) with
  | none =>
    rw [hg] at hv
    obtain ⟨e, he, rfl⟩ := hv
    refine ⟨_, _, _, rfl, ?_⟩
    rw [show (e != 0) = true by simpa using he]
    refine ⟨?_, rfl⟩
    unfold tg; rw [hg]
    exact ⟨e, he, rfl⟩
  | some p =>
    obtain ⟨n, m⟩ := p
    rw [hg] at hv
    have hv : v = .tuple #[.int .u64 (n : Nat), .int .i64 ((a + m : Nat) : Int), .int .i64 0] := hv
    subst hv
    have hm := vg_len _ hg
    have hn := vg_lt _ (by omega) hg
    have el : (s.data.toList.drop a).length = s.size - a := by simp
    have et : tg lim (s.data.toList.drop a) = if n ≤ lim ∧ n ≤ (s.data.toList.drop a).length - m then some (bs (((s.data.toList.drop a).drop m).take n), m + n) else none := by
      unfold tg; rw [hg]
    rw [el] at hm et
    refine ⟨_, _, _, rfl, ?_⟩
    rw [show ((0 : Int) != 0) = false from rfl, brB_false]
    refine brB_dec (fun h => by omega) fun _ => ?_
    have e1 : IntKind.wrap .i64 ((s.size : Int) - ((a + m : Nat) : Int)) = ((s.size - (a + m) : Nat) : Int) := by rw [wrap_id (by omega) (by omega)]; omega
    rw [wrapU (by omega), e1, wrapU (by omega)]
    refine brB_dec (fun h => ?_) fun h => ?_
    · refine ⟨?_, rfl⟩
      rw [et, if_neg (by omega)]
      exact ⟨2, by decide, rfl⟩
    refine brB_dec (fun h2 => ?_) fun h2 => ?_
    · refine ⟨?_, rfl⟩
      rw [et, if_neg (by omega)]
      exact ⟨10, by decide, rfl⟩
    have e2 : IntKind.wrap .i64 ((n : Nat) : Int) = ((n : Nat) : Int) := wrap_id (by omega) (by omega)
    have e3 : IntKind.wrap .i64 (((a + m : Nat) : Int) + ((n : Nat) : Int)) = ((a + m + n : Nat) : Int) := by rw [wrap_id (by omega) (by omega)]; omega
    rw [e2, e3]
    refine ⟨by omega, by omega, by omega, ?_, rfl⟩
    rw [et, if_pos (by omega), Int.toNat_natCast, Int.toNat_natCast, ext_bs s (a + m) n (by omega), List.drop_drop]
    show _ = _
    congr 5
    omega
/-- The frame's bytes ahead in some bytes. -/
def cg (lim : Nat) (l : List UInt8) : Option (ByteArray × Nat) := match tg lim l with
  | none => none
  | some (t, m) => if 4 ≤ l.length - m ∧ (l.drop m).take 4 = laidB (crcN t.data.toList) then some (t, m + 4) else none
theorem cg_len {lim : Nat} {l : List UInt8} {t : ByteArray} {m : Nat} (h : cg lim l = some (t, m)) : 1 ≤ m ∧ m ≤ l.length ∧ t.size ≤ lim ∧ t.size + 1 ≤ m := by
  unfold cg at h
  split at h
  · cases h
  rename_i n k hv
  have := tg_len hv
  split at h
  · simp only [Option.some.injEq, Prod.mk.injEq] at h
    obtain ⟨rfl, rfl⟩ := h
    omega
  · cases h
theorem frameB_len (s : ByteArray) : (frameB s).length = (putT s).length + 4 := by simp [frameB, laidB]
theorem cg_put {lim : Nat} (s : ByteArray) (r : List UInt8) (h : s.size ≤ lim) (hs : s.size < 18446744073709551616) : cg lim (frameB s ++ r) = some (s, (frameB s).length) := by
  unfold cg
  rw [show frameB s ++ r = putT s ++ (laidB (crcN s.data.toList) ++ r) by simp [frameB], tg_put s _ h hs]
  simp only [List.length_append, List.drop_left']
  rw [if_pos ⟨by simp [laidB], by simp [laidB]⟩, frameB_len]
set_option maxRecDepth 20000 in
theorem CrcCut_ok (s : ByteArray) (a : Nat) (lim : Nat) (hs : s.size ≤ 1000000000000) (ha : a ≤ s.size) (hl : lim ≤ 1000000000000) (w : World) :
    Calls Tryz.prog 88 #[.string s, .int .i64 (a : Nat), .int .i64 (lim : Nat)] w fun e w' => ∃ v, e = .returned v ∧ TextV a (cg lim (s.data.toList.drop a)) v ∧ Mod [] w w' := by
  refine crc_Cut_go ?_
  refine (GetText_ok s a lim hs ha hl w).mono ?_
  rintro e w1 ⟨v, rfl, hv, rfl⟩
  cases hg : tg lim (s.data.toList.drop a) with
  | none =>
    rw [hg] at hv
    obtain ⟨e, he, rfl⟩ := hv
    refine ⟨_, _, _, rfl, ?_⟩
    rw [show (e != 0) = true by simpa using he]
    refine ⟨?_, Mod.refl _⟩
    unfold cg; rw [hg]
    exact ⟨e, he, rfl⟩
  | some p =>
    obtain ⟨t, m⟩ := p
    rw [hg] at hv
    have hv : v = .tuple #[.string t, .int .i64 ((a + m : Nat) : Int), .int .i64 0] := hv
    subst hv
    have hm := tg_len hg
    have el : (s.data.toList.drop a).length = s.size - a := by simp
    have et : cg lim (s.data.toList.drop a) = if 4 ≤ (s.data.toList.drop a).length - m ∧ ((s.data.toList.drop a).drop m).take 4 = laidB (crcN t.data.toList) then some (t, m + 4) else none := by
      unfold cg; rw [hg]
    rw [el] at hm et
    refine ⟨_, _, _, rfl, ?_⟩
    have e1 : IntKind.wrap .i64 ((s.size : Int) - ((a + m : Nat) : Int)) = ((s.size - (a + m) : Nat) : Int) := by rw [wrap_id (by omega) (by omega)]; omega
    have e2 : IntKind.wrap .i64 (((a + m : Nat) : Int) + 4) = ((a + m + 4 : Nat) : Int) := by rw [wrap_id (by omega) (by omega)]; omega
    rw [show ((0 : Int) != 0) = false from rfl, brB_false]
    rw [e1, e2]
    refine brB_dec (fun h => ?_) fun h => ?_
    · refine ⟨?_, Mod.refl _⟩
      rw [et, if_neg (by omega)]
      exact ⟨20, by decide, rfl⟩
    refine ⟨by omega, by omega, by omega, fun w2 A2 => ?_⟩
    refine (Sum_ok t (by omega) w2).mono ?_
    rintro e w3 ⟨rfl, M3⟩
    refine ⟨_, rfl, ?_⟩
    refine (laid_ok _ w3).mono ?_
    rintro e w4 ⟨rfl, M4⟩
    have hM : Mod [] w1 w4 := (A2.mod.go0 M3 (by simp)).go0 M4 (by simp)
    refine ⟨_, rfl, ?_⟩
    rw [Int.toNat_natCast, Int.toNat_natCast, ext_bs s (a + m) 4 (by omega)]
    have hbe : ((bs (List.take 4 (List.drop (a + m) s.data.toList))).toList == (bs (laidB (crcN t.data.toList))).toList) = decide (List.take 4 (List.drop (a + m) s.data.toList) = laidB (crcN t.data.toList)) := by
      rw [Bool.eq_iff_iff, beq_iff_eq, decide_eq_true_iff]
      constructor
      · intro h; exact bs_inj (toList_inj.1 h)
      · intro h; rw [h]
    rw [hbe]
    rw [List.drop_drop] at et
    refine brB_of (fun h => ?_) fun h => ?_
    · have h : ¬ List.take 4 (List.drop (a + m) s.data.toList) = laidB (crcN t.data.toList) := by simpa using h
      refine ⟨?_, hM⟩
      rw [et, if_neg (fun hh => h hh.2)]
      exact ⟨21, by decide, rfl⟩
    · have h : List.take 4 (List.drop (a + m) s.data.toList) = laidB (crcN t.data.toList) := by simpa using h
      refine ⟨?_, hM⟩
      rw [et, if_pos ⟨by omega, h⟩]
      show _ = _
      congr 5
end Go.Proofs.YtohgihgddknmmaaGreat

/- Slices that are cut, rows that are written. -/
namespace Go.Proofs.YtohgihgddknmmaaGreat
open Go Go.RowKit
set_option linter.unusedVariables false
set_option linter.unusedSimpArgs false

theorem SlAt.ixW {α : Type} {w : World} {sz : Nat} {enc : α → List Value} {a : Option Addr} {n : Nat} {l : List α} {i : Nat} {x : α} {F : Addr → Prop} (h : SlAt w sz enc a n l) (hx : l[i]? = some x)
    (hF : ∀ q, (∀ w', Mod [] w w' → ∀ j v, (enc x)[j]? = some v → w'.cell? (q.add j) = some v) → F q) : ixA a n (i : Int) sz F := by
  obtain ⟨ad, ha, hc⟩ := h.2 i x hx
  have hl := (List.getElem?_eq_some_iff.1 hx).1
  refine ⟨ad, ha, by omega, by rw [h.1]; omega, hF _ fun w' M j v hj => ?_⟩
  obtain ⟨ad', ha', hc'⟩ := (h.keep0 M).2 i x hx
  rw [ha] at ha'; cases ha'
  simpa using hc' j v hj
theorem SlAt.take {α : Type} {w : World} {sz : Nat} {enc : α → List Value} {a : Option Addr} {n : Nat} {l : List α} (h : SlAt w sz enc a n l) {k : Nat} (hk : k ≤ n) : SlAt w sz enc a k (l.take k) := by
  refine ⟨by rw [List.length_take, ← h.1]; omega, fun i x hx => ?_⟩
  rw [List.getElem?_take] at hx
  split at hx
  · exact h.2 i x hx
  · cases hx
theorem SlAt.drop {α : Type} {w : World} {sz : Nat} {enc : α → List Value} {ad : Addr} {n : Nat} {l : List α} (h : SlAt w sz enc (some ad) n l) {k : Nat} (hk : k ≤ n) : SlAt w sz enc (some (ad.add (k * sz))) (n - k) (l.drop k) := by
  refine ⟨by rw [List.length_drop, ← h.1], fun i x hx => ?_⟩
  rw [List.getElem?_drop] at hx
  obtain ⟨ad', ha, hc⟩ := h.2 _ x hx
  cases ha
  refine ⟨_, rfl, fun j v hj => ?_⟩
  have := hc j v hj
  rw [add_add] at this ⊢
  rw [add_add]
  rw [show k * sz + (i * sz + j) = (k + i) * sz + j by rw [Nat.add_mul, Nat.add_assoc]]
  exact this
theorem slV_drop {α : Type} {w : World} {sz : Nat} {enc : α → List Value} {a : Option Addr} {n c : Nat} {l : List α} {k : Nat} {F : Option Addr → Nat → Nat → Prop} (h : SlAt w sz enc a n l) (hk : k ≤ n) (hc : n ≤ c) (hF : ∀ a' c', SlAt w sz enc a' (n - k) (l.drop k) → F a' (n - k) c') : slV a c (k : Int) (n : Int) (c : Int) sz F := by
  refine ⟨by omega, by omega, by omega, by omega, ?_⟩
  have e1 : ((n : Int) - k).toNat = n - k := by omega
  rw [e1]
  refine hF _ _ ?_
  split
  · rename_i e
    have e : n = k := by omega
    subst e
    have hl : l.drop n = [] := List.drop_of_length_le (by rw [h.1]; omega)
    rw [hl, Nat.sub_self]
    exact ⟨rfl, fun i x hx => by cases hx⟩
  · rename_i e
    cases a with
    | none =>
      have hl : l = [] := by
        cases l with
        | nil => rfl
        | cons x r => obtain ⟨ad, ha, _⟩ := h.2 0 x rfl; cases ha
      subst hl
      have := h.1
      exact ⟨by simp at this; simp; omega, fun i x hx => by simp at hx⟩
    | some ad => simpa using h.drop hk
theorem Row.cap {α : Type} {w : World} {base T sz : Nat} {enc : α → List Value} {a : Option Addr} {n c : Nat} {l : List α} (h : Row w base T sz enc a n c l) : n ≤ c := by
  obtain ⟨hn, hl, ho⟩ := h
  rcases ho with ⟨ho, he⟩ | ⟨g, cap, cur, hv, hb, hh, r⟩
  · simp only [Value.slice.injEq] at ho; omega
  · simp only [Value.slice.injEq] at hv
    have := r.1
    omega
end Go.Proofs.YtohgihgddknmmaaGreat

/- Commands, calls, messages as data. -/
namespace Go.Proofs.YtohgihgddknmmaaGreat
open Go Go.RowKit
set_option linter.unusedVariables false
set_option linter.unusedSimpArgs false

structure PBatch where
  prod : Int
  epoch : Int
  seq : Int
  recs : List PRec
  deriving DecidableEq
structure POp where
  kind : Int
  part : PPart
  n : Int
  off : Int
  b : PBatch
  g : ByteArray
  m : ByteArray
  gen : Int
  robin : Bool
  topics : List ByteArray
  deriving DecidableEq
structure PCall where
  c : Int
  n : Int
  op : POp
  deriving DecidableEq
def encR (r : PRec) : List Value := [.bool r.hk, .string r.key, .bool r.tomb, .string r.val]
def encS (s : ByteArray) : List Value := [.string s]
theorem encR_len (r : PRec) : (encR r).length = 4 := rfl
theorem encS_len (s : ByteArray) : (encS s).length = 1 := rfl
theorem encR_one (x : PRec) : ∀ u ∈ encR x, u.oneCell' = true := by simp [encR, Value.oneCell']
theorem encS_one (x : ByteArray) : ∀ u ∈ encS x, u.oneCell' = true := by simp [encS, Value.oneCell']
def POp.cs (o : POp) (rs ts : Sl) : List Value := [.int .i64 o.kind, .string o.part.t, .int .i64 o.part.n, .int .i64 o.n, .int .i64 o.off, .int .i64 o.b.prod, .int .i64 o.b.epoch, .int .i64 o.b.seq, .slice rs.a rs.n rs.c, .string o.g, .string o.m, .int .i64 o.gen, .bool o.robin, .slice ts.a ts.n ts.c]
def POp.v (o : POp) (rs ts : Sl) : Value := .agg #[.int .i64 o.kind, .string o.part.t, .int .i64 o.part.n, .int .i64 o.n, .int .i64 o.off, .int .i64 o.b.prod, .int .i64 o.b.epoch, .int .i64 o.b.seq, .slice rs.a rs.n rs.c, .string o.g, .string o.m, .int .i64 o.gen, .bool o.robin, .slice ts.a ts.n ts.c]
def batch0 : PBatch := ⟨0, 0, 0, []⟩
def op0 : POp := ⟨0, ⟨⟨#[]⟩, 0⟩, 0, 0, batch0, ⟨#[]⟩, ⟨#[]⟩, 0, false, []⟩
/-- What its slices read as. -/
structure OpAt (w : World) (o : POp) (rs ts : Sl) : Prop where
  recs : SlAt w 4 encR rs.a rs.n o.b.recs
  topics : SlAt w 1 encS ts.a ts.n o.topics
  lr : o.b.recs.length ≤ 1000000
  lt : o.topics.length ≤ 1000000
structure OpOwn (w : World) (base : Nat) (o : POp) (rs ts : Sl) : Prop where
  recs : Row w base 149 4 encR rs.a rs.n rs.c o.b.recs
  topics : Row w base 9 1 encS ts.a ts.n ts.c o.topics
  lr : o.b.recs.length ≤ 1000000
  lt : o.topics.length ≤ 1000000
theorem OpOwn.at {w : World} {base : Nat} {o : POp} {rs ts : Sl} (h : OpOwn w base o rs ts) : OpAt w o rs ts := ⟨h.recs.sl encR_len, h.topics.sl encS_len, h.lr, h.lt⟩
theorem OpAt.keep0 {w w' : World} {o : POp} {rs ts : Sl} (h : OpAt w o rs ts) (M : Mod [] w w') : OpAt w' o rs ts := ⟨h.recs.keep0 M, h.topics.keep0 M, h.lr, h.lt⟩
theorem OpOwn.keep0 {w w' : World} {base : Nat} {o : POp} {rs ts : Sl} (h : OpOwn w base o rs ts) (M : Mod [] w w') : OpOwn w' base o rs ts := ⟨h.recs.keep0 M, h.topics.keep0 M, h.lr, h.lt⟩
theorem OpOwn.rebase {w : World} {base base' : Nat} {o : POp} {rs ts : Sl} (h : OpOwn w base o rs ts) (hb : base' ≤ base) : OpOwn w base' o rs ts := ⟨h.recs.rebase hb, h.topics.rebase hb, h.lr, h.lt⟩
theorem op0_own (w : World) (base : Nat) : OpOwn w base op0 ⟨none, 0, 0⟩ ⟨none, 0, 0⟩ := ⟨Row.nil .., Row.nil .., by simp [op0, batch0], by simp [op0]⟩

/-! ### what may be -/
def batchE (b : PBatch) : Int :=
  if (num b.prod && num b.epoch && num b.seq) = false then 1 else if b.recs.length = 0 then 30 else if b.recs.length > 16 then 2 else
    match b.recs.find? fun r => recE r ≠ 0 with
    | none => 0
    | some r => recE r
/-- What a kind has, by letters' numbers. -/
def hasL (k : Int) : List Nat :=
  if k = 0 then [116, 110] else if k = 1 then [110] else if k = 2 then [112, 98] else if k = 3 then [112, 111, 110] else if k = 4 then [112, 111] else if k = 5 then [112]
  else if k = 6 then [103, 109, 110, 114, 108] else if k = 7 then [103, 109, 101] else if k = 8 then [103, 109, 101] else if k = 9 then [103, 109, 101] else if k = 10 then [103, 109, 101, 112, 111] else if k = 11 then [103, 112] else [110]
def ha (k : Int) (c : Nat) : Bool := (hasL k).contains c
def emptyB (s : ByteArray) : Bool := decide (s.size = 0)
/-- Does a text stand ahead of another one? -/
def lessB (s t : ByteArray) : Bool := Op.bytesLess s.toList t.toList
def riseB : List ByteArray → Bool
  | s :: t :: r => lessB s t && riseB (t :: r)
  | _ => true
def namesB (l : List ByteArray) : Bool := decide (1 ≤ l.length ∧ l.length ≤ 8) && l.all nameB && riseB l
def onlyB (o : POp) : Bool :=
  (ha o.kind 112 || ha o.kind 116 || emptyB o.part.t) && (ha o.kind 112 || decide (o.part.n = 0)) && (ha o.kind 110 || decide (o.n = 0)) && (ha o.kind 111 || decide (o.off = 0)) &&
  (ha o.kind 98 || decide (o.b = batch0)) && (ha o.kind 103 || emptyB o.g) && (ha o.kind 109 || emptyB o.m) && (ha o.kind 101 || decide (o.gen = 0)) && (ha o.kind 114 || (!o.robin && decide (o.topics = [])))
def formB (o : POp) : Bool :=
  onlyB o && (!(ha o.kind 112 || ha o.kind 116) || nameB o.part.t) && (!ha o.kind 103 || nameB o.g) && (!ha o.kind 109 || nameB o.m) && (!ha o.kind 108 || namesB o.topics)
def opE (o : POp) : Int :=
  if o.kind < 0 ∨ o.kind > 12 then 41 else if formB o = false then 40 else if (num o.part.n && num o.n && num o.off && num o.gen) = false then 1 else if o.kind = 2 then batchE o.b else 0
end Go.Proofs.YtohgihgddknmmaaGreat

/- Whether a command may be: what the checker's visit comes to, and what the document says, are the same. -/
namespace Go.Proofs.YtohgihgddknmmaaGreat
open Go Go.RowKit
set_option linter.unusedVariables false
set_option linter.unusedSimpArgs false

/-- What the checker's visit leaves: is a form odd, a number; the batch's error; the command. -/
def chF (o : POp) : Bool := (ha o.kind 103 && !nameB o.g) || (ha o.kind 109 && !nameB o.m) || ((ha o.kind 112 || ha o.kind 116) && !nameB o.part.t) || (ha o.kind 108 && !namesB o.topics)
def chA (o : POp) : Bool := (ha o.kind 112 && !num o.part.n) || (ha o.kind 110 && !num o.n) || (ha o.kind 111 && !num o.off) || (ha o.kind 101 && !num o.gen)
def chE (o : POp) : Int := if ha o.kind 98 then batchE o.b else 0
def es : ByteArray := ⟨#[]⟩
def chO (o : POp) : POp := ⟨o.kind, ⟨if ha o.kind 112 || ha o.kind 116 then es else o.part.t, if ha o.kind 112 then 0 else o.part.n⟩, if ha o.kind 110 then 0 else o.n, if ha o.kind 111 then 0 else o.off,
  if ha o.kind 98 then batch0 else o.b, if ha o.kind 103 then es else o.g, if ha o.kind 109 then es else o.m, if ha o.kind 101 then 0 else o.gen, if ha o.kind 114 then false else o.robin, if ha o.kind 114 then [] else o.topics⟩
theorem empty_iff (s : ByteArray) : emptyB s = decide (s = es) := by
  unfold emptyB es
  by_cases h : s.size = 0
  · rw [decide_eq_true h, decide_eq_true ((size0 s).2 h)]
  · rw [decide_eq_false h, decide_eq_false fun e => h ((size0 s).1 e)]
theorem ite_key {α : Type} (p : Bool) (x d : α) : ((if p = true then d else x) = d) ↔ (p = true ∨ x = d) := by cases p <;> simp
theorem ite_key2 {α : Type} (p t : Bool) (x d : α) : ((if p = true ∨ t = true then d else x) = d) ↔ (p = true ∨ t = true ∨ x = d) := by cases p <;> cases t <;> simp
theorem chO_only (o : POp) : decide ({ chO o with kind := 0 } = op0) = onlyB o := by
  rw [Bool.eq_iff_iff, decide_eq_true_iff]
  unfold onlyB
  rw [empty_iff, empty_iff, empty_iff]
  unfold chO op0
  simp only [POp.mk.injEq, PPart.mk.injEq, true_and, Bool.and_eq_true, decide_eq_true_iff, ite_key2, show (⟨#[]⟩ : ByteArray) = es from rfl, ite_key, Bool.or_eq_true, or_and_left, Bool.not_eq_true', and_assoc, or_assoc]
theorem num0 {p : Bool} {x : Int} (h : (p || decide (x = 0)) = true) : num x = !(p && !num x) := by
  cases p
  · have : x = 0 := by simpa using h
    subst this; rfl
  · simp
theorem ha98 {k : Int} (h0 : ¬ (k < 0 ∨ k > 12)) : ha k 98 = decide (k = 2) := by
  have : k = 0 ∨ k = 1 ∨ k = 2 ∨ k = 3 ∨ k = 4 ∨ k = 5 ∨ k = 6 ∨ k = 7 ∨ k = 8 ∨ k = 9 ∨ k = 10 ∨ k = 11 ∨ k = 12 := by omega
  rcases this with rfl | rfl | rfl | rfl | rfl | rfl | rfl | rfl | rfl | rfl | rfl | rfl | rfl <;> decide
theorem check_law (o : POp) (h0 : ¬ (o.kind < 0 ∨ o.kind > 12)) : opE o = if (chF o || !decide ({ chO o with kind := 0 } = op0)) = true then 40 else if chA o = true then 1 else chE o := by
  rw [chO_only, opE, if_neg h0]
  have hf : formB o = !(chF o || !onlyB o) := by
    unfold formB chF
    generalize onlyB o = a
    generalize ha o.kind 103 = b1
    generalize ha o.kind 109 = b2
    generalize (ha o.kind 112 || ha o.kind 116) = b3
    generalize ha o.kind 108 = b4
    cases a <;> cases b1 <;> cases b2 <;> cases b3 <;> cases b4 <;> simp [Bool.and_comm, Bool.and_assoc, Bool.and_left_comm]
  rw [hf]
  cases h : (chF o || !onlyB o)
  · simp only [Bool.not_false, Bool.true_eq_false, if_false, Bool.false_eq_true]
    have ho : onlyB o = true := by cases hh : onlyB o; rw [hh] at h; simp at h; rfl
    unfold onlyB at ho
    simp only [Bool.and_eq_true] at ho
    obtain ⟨⟨⟨⟨⟨⟨⟨⟨_, h1⟩, h2⟩, h3⟩, _⟩, _⟩, _⟩, h4⟩, _⟩ := ho
    have e : (num o.part.n && num o.n && num o.off && num o.gen) = !chA o := by
      rw [num0 h1, num0 h2, num0 h3, num0 h4]
      unfold chA
      simp only [Bool.not_or, Bool.and_assoc]
    rw [e, chE, ha98 h0]
    cases chA o <;> simp
  · simp
end Go.Proofs.YtohgihgddknmmaaGreat
