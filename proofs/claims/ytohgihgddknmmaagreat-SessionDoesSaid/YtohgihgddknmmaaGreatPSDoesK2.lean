/- Part 2 of the proof of PSDoes. -/
import Derived.WalkKit
import Derived.WalkSpells
import Derived.WalkLawsBesides
import Derived.Deep.Quiet
import Derived.Test.YtohgihgddknmmaaGreatRows
import Derived.KernelRfl
import Derived.Maps.Keyed
import Derived.Maps.RangeRun
import Derived.DeepKeys4
import Derived.Lib.Strings
import Derived.Shelf.RegionOpenPlain
import Derived.Lib.Slices
import Derived.Lib.Walk
import Derived.Lib.Builder
import Derived.Lib.FrozenHead
import Derived.Lib.OthersKept
import Derived.Lib.AppendStr
import Derived.Lib.UnsafeStr
import Derived.Lib.MakeNoZero
import Derived.Laws.Externs
import Derived.Laws.IdiomCopy
import Derived.Laws.BitsLemmas
import Derived.RangeFuncBox
import Derived.RangeFuncLeaves
import Derived.RangeFuncNested
import Derived.Shelf.Abstract
import Derived.OwnWalkIn
import Derived.TacticsInMore
import Derived.LoopNIn
import Derived.LoopIn
import Derived.Maps.AppendAt
import Derived.Sort.LoopGhostIn
import Derived.Laws.Bits64b
import Derived.Laws.IdiomStrings
import Derived.Test.YtohgihgddknmmaaGreatProg
import Derived.Shelf.Lay
import Derived.Shelf.Strings.FuncGrows
import Derived.Laws.RangeAny
import Derived.Ground.GgwProg
import Derived.Ground.NamesProg
import Derived.Test.YtohgihgddknmmaaGreatPSDoesK1
/- A range over a function whose iterator keeps its state in a cell of its own: a law, out of the kit's laws on one round. -/
namespace Go.Proofs.YtohgihgddknmmaaGreat
open Go Go.RowKit
set_option linter.unusedVariables false
set_option linter.unusedSimpArgs false

/-- The iterator's contract: whatever the caller says of its own (J), which does not hang on the block C. -/
def SeqCell {α : Type} (P : Program) (gf : FuncId) (lb : Array Value) (encs : α → Array Value) (C N : Nat) (o0 : Obj) (xs : List α) : Prop :=
  ∀ (l : Nat) (J : List α → World → Prop) (W : World),
    (∀ pre W v, J pre W → J pre (W.setCell ⟨C, 0, none⟩ v)) → (∀ pre W, J pre W → J pre W.drew) →
    (∀ pre x W1, J pre W1 → pre.length < N → YieldAt Fence.wide 0 P l (encs x) W1 fun e W' => e = .returned (.bool true) ∧ J (pre ++ [x]) W' ∧ W'.heap[C]? = W1.heap[C]?) →
    J [] W → W.heap[C]? = some o0 → CallsIn Fence.wide 1 P gf (#[.func (.yield l) #[] #[]] ++ lb) W fun e W' => (∃ v, e = .returned v) ∧ J xs W'

theorem wpIn_range_cell {α : Type} {P : Program} {g : Operand} {ps : Array Tmp} {assign body : Code} {Q : Exit → Act → World → Prop} {a : Act} {w : World}
    {gf : Nat} {lb : Array Value} (hg : a.eval g = .func (.func gf) #[] lb) (eg : ∀ args w, (callFunc gf args).run P w = .ok (.enter gf args) w)
    {encs : α → Array Value} {C N : Nat} {o0 : Obj} {xs : List α} (hC : C < w.heap.size) (hoC : w.heap[C]? = some o0) (hoc : o0.isCells = true) (hseq : SeqCell P gf lb encs C N o0 xs) (hps : ∀ x, (encs x).size = ps.size)
    (I : List α → World → Prop) (hIa : ∀ s W o, I s W → I s (W.alloc o)) (hIp : ∀ s W l o o', w.heap.size ≤ l → W.heap[l]? = some o → o.isCells = false → I s W → I s (W.putObj l o'))
    (hIc : ∀ s W v, I s W → I s (W.setCell ⟨C, 0, none⟩ v)) (hId : ∀ s W, I s W → I s W.drew) (h0 : I [] w) (a₁ : α → Act)
    (hassign : ∀ (l : Nat) (x : α) (W : World) (K : Act → World → Prop), K (a₁ x) W →
      assign.wpIn (Fence.wide.inRound l) 0 P (Exit.then K (fun _ _ _ => False)) { tmps := (ps.zip (encs x)).foldl (fun t (p, v) => t.setIfInBounds p v) a.tmps, defers := [] } W)
    (hbody : ∀ (l : Nat) (pre : List α) (x : α) (W : World), I pre W → pre.length < N → C < W.heap.size → body.wpIn (Fence.wide.inRound l) 0 P (fun e a' W' => e = .normal ∧ KeepsFrom w.heap.size W W' ∧ W'.heap[C]? = W.heap[C]? ∧ I (pre ++ [x]) W') (a₁ x) W)
    (hdone : ∀ (D : Nat) (W : World), w.heap.size ≤ D → I xs W → W.heap[D]? = some (.deferred (some [])) → Q .normal { a with defers := { target := .collected D, args := #[] } :: a.defers } W) :
    (Code.rangeFunc g ps assign body).wpIn Fence.wide 2 P Q a w := by
  refine wpIn_rangeFunc ?_
  intro fn hfn
  have hro : Fence.wide.round = none := rfl
  rw [hro]
  obtain ⟨rec, hrec⟩ : ∃ rec : LoopState → Option Code → Loop, rec = fun st pe => { state := st, pending := pe, fn, tmps := a.tmps, params := ps, assign, body, defers := w.heap.size } := ⟨_, rfl⟩
  obtain ⟨W1, hW1⟩ : ∃ W1, (w.alloc (.deferred (some []))).alloc (.loop (rec .ready none)) = W1 := ⟨_, rfl⟩
  have hL1 : W1.heap[w.heap.size + 1]? = some (.loop (rec .ready none)) := by
    rw [← hW1]; have := World.alloc_heap_new (w.alloc (.deferred (some []))) (.loop (rec .ready none)); rwa [World.size_alloc] at this
  have hK1 : W1.heap[w.heap.size]? = some (.deferred (some [])) := by
    rw [← hW1]; exact (Below.heap_alloc _ _ _ (by simp)).trans (World.alloc_heap_new w _)
  have hI1 : I [] W1 := by rw [← hW1]; exact hIa _ _ _ (hIa _ _ _ h0)
  have hC1 : W1.heap[C]? = some o0 := by
    rw [← hW1]; exact ((Below.heap_alloc _ _ _ (by simp; omega)).trans (Below.heap_alloc _ _ _ hC)).trans hoC
  refine ⟨w.heap.size + 1, [{ target := .collected w.heap.size, args := #[] }], W1, { target := .fn (.func gf) lb, args := #[.func (.yield (w.heap.size + 1)) #[] #[]] }, W1, gf,
    #[.func (.yield (w.heap.size + 1)) #[] #[]] ++ lb, W1, ?_, ?_, fun _ _ => trivial, ?_, fun h => (by simp [Fence.wide] at h), ?_⟩
  · rw [← hW1, hrec]; exact run_enterLoop_outer _ _ _ _ _
  · simp only [resolve, hg]
    simp [go_sem]
  · simp [invoke, go_sem, eg]
  · refine (hseq (w.heap.size + 1)
      (fun pre W => I pre W ∧ W.heap[w.heap.size + 1]? = some (.loop (rec .ready none)) ∧ W.heap[w.heap.size]? = some (.deferred (some [])) ∧ C < W.heap.size)
      W1 ?_ ?_ ?_ ⟨hI1, hL1, hK1, lt_of_block hC1⟩ hC1).mono ?_
    · rintro pre W v ⟨hi, hl, hk, hc⟩
      have hko := KeepsOthers.setCell W ⟨C, 0, none⟩ v
      exact ⟨hIc _ _ _ hi, hko.same _ _ hl rfl, hko.same _ _ hk rfl, Nat.lt_of_lt_of_le hc hko.size⟩
    · rintro pre W ⟨hi, hl, hk, hc⟩
      exact ⟨hId _ _ hi, hl, hk, hc⟩
    · rintro pre x W ⟨hi, hl, hk, hc⟩ hlen
      have hlt := lt_of_block hl
      have hy := run_yield (P := P) (args := encs x) hl (by rw [hrec]; exact hps x)
      rw [hrec] at hy
      refine ⟨fn, _, assign, body, hy, roundIn_of_wpIn trivial (hassign _ x W _ ⟨_, run_beginRound hl (by rw [hrec]), ?_⟩)⟩
      have hl2 : (W.putObj (w.heap.size + 1) (.loop { rec .ready none with state := .busy })).heap[w.heap.size + 1]? = some (.loop { rec .ready none with state := .busy }) := World.putObj_heap_same hlt
      have hk2 : (W.putObj (w.heap.size + 1) (.loop { rec .ready none with state := .busy })).heap[w.heap.size]? = some (.deferred (some [])) := (World.putObj_heap_other (by omega)).trans hk
      refine wpIn_mono (hbody _ pre x _ (hIp _ _ _ _ _ (by omega) hl rfl hi) hlen (by simpa [World.putObj] using hc)) ?_
      rintro e a3 W3 ⟨rfl, hk3, hC3, hi3⟩
      have hl3 := hk3.same _ _ (by omega) hl2 rfl
      have hr := run_endRound (P := P) none hl3
      have hlt3 := lt_of_block hl3
      refine ⟨_, _, hr, rfl, ⟨hIp _ _ _ _ _ (by omega) hl3 rfl hi3, ?_, ?_, ?_⟩, ?_⟩
      · rw [World.putObj_heap_same hlt3, hrec]; rfl
      · exact (World.putObj_heap_other (by omega)).trans (hk3.same _ _ (Nat.le_refl _) hk2 rfl)
      · have := hk3.size; simp [World.putObj] at this ⊢; omega
      · rw [World.putObj_heap_other (by omega), hC3, World.putObj_heap_other (by omega)]
    · rintro e W2 ⟨⟨v, rfl⟩, hi, hl, hk, hc⟩
      exact ⟨none, _, by have := run_endLoop (P := P) hl (by rw [hrec]; simp); rw [hrec] at this; exact this, hdone _ _ (Nat.le_refl _) (hIp _ _ _ _ _ (by omega) hl rfl hi) ((World.putObj_heap_other (by omega)).trans hk)⟩
end Go.Proofs.YtohgihgddknmmaaGreat

/- varint's numbers. -/
namespace Go.Proofs.YtohgihgddknmmaaGreat
open Go Go.RowKit Go.Shelf
set_option linter.unusedVariables false
set_option linter.unusedSimpArgs false
attribute [local go_sem] Oper.semAt_some

def sevL (n : Nat) : List (Nat × Bool) := if h : n < 128 then [(n, false)] else (n % 128, true) :: sevL (n / 128)
termination_by n
decreasing_by omega
theorem sevL_small {n : Nat} (h : n < 128) : sevL n = [(n, false)] := by rw [sevL, dif_pos h]
theorem sevL_big {n : Nat} (h : ¬ n < 128) : sevL n = (n % 128, true) :: sevL (n / 128) := by rw [sevL, dif_neg h]
theorem sevL_len : ∀ (k n : Nat), n < 128 ^ (k + 1) → 1 ≤ (sevL n).length ∧ (sevL n).length ≤ k + 1
  | 0, n, h => by rw [sevL_small (by simpa using h)]; simp
  | k + 1, n, h => by
    by_cases h1 : n < 128
    · rw [sevL_small h1]; simp
    · rw [sevL_big h1]
      have := sevL_len k (n / 128) (by rw [Nat.pow_succ] at h; omega)
      simp; omega

set_option maxRecDepth 100000 in
set_option maxHeartbeats 2000000 in
theorem sevens1_ok (C n : Nat) (hn : n < 18446744073709551616) :
    SeqCell Tryz.prog 153 #[.pointer (some ⟨C, 0, none⟩)] (fun x : Nat × Bool => #[.int .u8 (x.1 : Nat), .bool x.2]) C 10 (.cells #[.int .u64 (n : Nat)] 130) (sevL n) := fun l J W hset hdrew hY h0 hC => by
  have hro : Fence.wide.round = none := rfl
  refine callsIn_of_wp Tryz.func153 rfl trivial ?_ hro
  simp only [Tryz.ntmps153, List.size_toArray, List.length_cons, List.length_nil, Nat.reduceAdd, Nat.reduceSub, Array.replicate_succ, Array.replicate_zero, List.push_toArray, List.append_toArray, List.nil_append, List.cons_append]
  have hcellOf : ∀ {wr : World} {m : Nat}, wr.heap[C]? = some (.cells #[.int .u64 (m : Nat)] 130) → wr.cell? ⟨C, 0, none⟩ = some (.int .u64 (m : Nat)) ∧ wr.frozen? ⟨C, 0, none⟩ = false := fun h => ⟨by rw [cell_at h]; rfl, frozen_at h⟩
  gi_wp2
  gi_loopg [] n (fun k wr => ∃ pre, k < 18446744073709551616 ∧ sevL n = pre ++ sevL k ∧ wr.heap[C]? = some (.cells #[.int .u64 (k : Nat)] 130) ∧ J pre wr)
  case atStart => exact ⟨[], hn, rfl, hC, h0⟩
  case round =>
    obtain ⟨pre, hk, hs, hCw, hJ⟩ := hrel
    obtain ⟨hc, hf⟩ := hcellOf hCw
    have hlen := (sevL_len 9 n (by omega)).2
    rw [hs] at hlen
    have hk1 := (sevL_len 9 gk (by omega)).1
    rw [List.length_append] at hlen
    by_cases hb : gk < 128
    · have hb' : ¬ (128 : Int) ≤ (gk : Int) := by omega
      obtain ⟨fn, tmps, assign, body, hy, hR⟩ := hY pre (gk, false) wr hJ (by omega)
      dsimp only at hy
      gi_wp2
      refine hR.mono ?_
      rintro e W3 ⟨rfl, hJ3, hC3⟩
      gi_wp2
      go_end0
      refine ⟨⟨_, rfl⟩, ?_⟩
      rw [hs, sevL_small hb]
      exact hJ3
    · have hb' : (128 : Int) ≤ (gk : Int) := by omega
      have e7 : bits .and .u64 (gk : Int) 127 % 256 = (gk : Int) % 128 := by
        have h := bits_and_u64_nat gk 127 (by omega) (by omega)
        have h2 : (gk &&& 127 : Nat) = gk % 128 := Nat.and_two_pow_sub_one_eq_mod gk 7
        rw [h2] at h
        have h3 : bits .and .u64 (gk : Int) 127 = ((gk % 128 : Nat) : Int) := h
        rw [h3]; omega
      obtain ⟨fn, tmps, assign, body, hy, hR⟩ := hY pre (gk % 128, true) wr hJ (by omega)
      dsimp only at hy
      have e8 : ((gk % 128 : Nat) : Int) = (gk : Int) % 128 := by omega
      rw [e8] at hy
      gi_wp2
      refine hR.mono ?_
      rintro e W3 ⟨rfl, hJ3, hC3⟩
      obtain ⟨hc3, hf3⟩ := hcellOf (hC3.trans hCw)
      gi_wp2
      gi_roundg (gk / 128)
      case rel =>
        refine ⟨pre ++ [(gk % 128, true)], by omega, by rw [hs, sevL_big hb]; simp, ?_, hset _ _ _ hJ3⟩
        rw [setCell_heap (hC3.trans hCw)]
        rfl
      case measure => omega

theorem sevens_in (n : Int) (w : World) :
    CallsIn Fence.wide 1 Tryz.prog 126 #[.int .u64 n] w fun e w' => e = .returned (.func (.func 153) #[] #[.pointer (some ⟨w.heap.size, 0, none⟩)]) ∧ w' = w.alloc (.cells #[.int .u64 n] 130) := by
  refine callsIn_of_wp Tryz.func126 rfl trivial ?_ rfl
  simp only [Tryz.ntmps126, List.size_toArray, List.length_cons, List.length_nil, Nat.reduceAdd, Nat.reduceSub, Array.replicate_succ, Array.replicate_zero, List.push_toArray, List.append_toArray, List.nil_append, List.cons_append]
  gi_wp2
  go_ret
  exact ⟨rfl, rfl⟩

/-- A seven, as a byte. -/
def sevC (p : Nat × Bool) : Int := if p.2 then bits .or .u8 (p.1 : Nat) 128 else (p.1 : Nat)
def vPutL (n : Nat) : List UInt8 := (sevL n).map fun p => UInt8.ofNat (if p.2 then p.1 + 128 else p.1)
def vPut (n : Nat) : ByteArray := ⟨(vPutL n).toArray⟩
theorem or128 : ∀ x : Fin 128, bits .or .u8 ((x.val : Nat) : Int) 128 = ((x.val + 128 : Nat) : Int) := by decide
theorem sevC_cells : ∀ (n : Nat), (sevL n).map (fun p => Value.int .u8 (sevC p)) = (vPutL n).map fun b => Value.int .u8 (b.toNat : Int) := by
  intro n
  induction n using Nat.strongRecOn with
  | ind n ih =>
    by_cases h : n < 128
    · have e : (UInt8.ofNat n).toNat = n := by simp; omega
      simp [vPutL, sevL_small h, sevC]; omega
    · have e := or128 ⟨n % 128, by omega⟩
      have ih := ih (n / 128) (by omega)
      unfold vPutL at ih ⊢
      rw [sevL_big h, List.map_cons, List.map_cons, List.map_cons, ih]
      simp only [sevC, if_true]
      rw [e]
      simp; omega
theorem infoU8 : (Tryz.prog.info? 5).map (fun i => (i.zero, i.size, i.bytes)) = some (some (.int .u8 0), 1, 1) := by kernel_rfl
set_option maxRecDepth 100000 in
set_option maxHeartbeats 2000000 in
theorem Put_in (n : Nat) (hn : n < 18446744073709551616) (w : World) :
    CallsIn Fence.wide 2 Tryz.prog 77 #[.int .u64 (n : Nat)] w fun e w' => e = .returned (.string (vPut n)) ∧ Below w.heap.size w w' := by
  have hro : Fence.wide.round = none := rfl
  obtain ⟨i0, hi, hz0, hz1, hz2⟩ := info_parts infoU8
  refine callsIn_of_wp_marks Tryz.func77 rfl trivial ?_ hro
  simp only [Tryz.ntmps77, List.size_toArray, List.length_cons, List.length_nil, Nat.reduceAdd, Nat.reduceSub, Array.replicate_succ, Array.replicate_zero, List.push_toArray, List.append_toArray, List.nil_append, List.cons_append]
  have hmk : ∀ W : World, (Instr.makeSlice 122 (.int .i64 0) (.int .i64 10)).run Tryz.prog W = .ok (.slice (some ⟨W.heap.size, 0, none⟩) 0 10) (W.alloc (.cells (madeCells #[Value.int .u8 0] 10) 5)) := fun W => by
    have h := run_makeSlice (P := Tryz.prog) W 122 5 i0 (.int .u8 0) Tryz.underlying122 hi hz0 .i64 .i64 0 10 (by omega) (by omega) (by rw [hz1]; decide) (by rw [hz2]; decide) (by decide)
    rw [hz1] at h
    exact h
  gi_wp2_with (refine ⟨trivial, ?_⟩; gi_at_call 126; refine (sevens_in _ _).mono ?_; rintro e w' ⟨rfl, rfl⟩)
  obtain ⟨W0, hW0⟩ : ∃ W0, (((w.alloc (Obj.cells (madeCells #[Value.int IntKind.u8 0] 10) 5)).alloc (Obj.cells #[Value.slice (some { block := w.heap.size, off := 0 }) 0 10] 122)).alloc (Obj.cells #[Value.int IntKind.u64 (n : Nat)] 130)) = W0 := ⟨_, rfl⟩
  have hsz : W0.heap.size = w.heap.size + 3 := by rw [← hW0]; simp
  have bO : Boxed W0 (w.heap.size + 1) 122 (.slice (some ⟨w.heap.size, 0, none⟩) 0 10) := by
    rw [← hW0]
    have := (Boxed.new (w.alloc (Obj.cells (madeCells #[Value.int IntKind.u8 0] 10) 5)) 122 (.slice (some ⟨w.heap.size, 0, none⟩) 0 10)).alloc (Obj.cells #[Value.int IntKind.u64 (n : Nat)] 130)
    rwa [World.size_alloc] at this
  have bN : Boxed W0 (w.heap.size + 1 + 1) 130 (.int .u64 (n : Nat)) := by
    rw [← hW0]
    have := Boxed.new ((w.alloc (Obj.cells (madeCells #[Value.int IntKind.u8 0] 10) 5)).alloc (Obj.cells #[Value.slice (some { block := w.heap.size, off := 0 }) 0 10] 122)) 130 (.int .u64 (n : Nat))
    rwa [World.size_alloc, World.size_alloc] at this
  have hR0 : W0.ownsRow w.heap.size 5 1 (.slice (some ⟨w.heap.size, 0, none⟩) 0 10) 0 [] := by
    rw [← hW0]
    exact ((World.ownsRow_made w _ 10 (Nat.le_refl _) (by unfold maxLen; decide) (by simp [size_madeCells])).alloc _).alloc _
  have hB0 : Below w.heap.size w W0 := by
    rw [← hW0]
    exact (((Below.refl _ w).alloc (Nat.le_refl _) _).alloc (by simp) _).alloc (by simp; omega) _
  rw [hW0]
  clear hW0
  refine wpIn_range_cell (C := w.heap.size + 1 + 1) (N := 10) (xs := sevL n) rfl (enters_of Tryz.func153 (by kernel_rfl) rfl) (by omega) bN rfl (sevens1_ok _ n hn) (fun _ => rfl)
    (fun pre W => ∃ v u, Boxed W (w.heap.size + 1) 122 v ∧ Boxed W (w.heap.size + 1 + 1) 130 u ∧ W.ownsRow w.heap.size 5 1 v pre.length (pre.map fun p => Value.int .u8 (sevC p)) ∧ Below w.heap.size w W)
    ?ia ?ip ?ic ?idr ⟨_, _, bO, bN, hR0, hB0⟩
    (fun x => { tmps := #[.int .u64 (n : Nat), undef, .string { data := #[] }, .pointer (some ⟨w.heap.size + 1, 0, none⟩), .int .u8 (x.1 : Nat), .bool x.2, .slice (some ⟨w.heap.size, 0, none⟩) 0 10, .int .u64 (n : Nat), .func (.func 153) #[] #[.pointer (some ⟨w.heap.size + 1 + 1, 0, none⟩)], .int .u8 (x.1 : Nat), .bool x.2, undef, undef, undef, undef, undef, undef, undef, undef, undef], defers := [] }) ?assign ?body ?done
  case ia =>
    rintro s W o ⟨v, u, h1, h2, h3, h4⟩
    exact ⟨v, u, h1.alloc o, h2.alloc o, h3.alloc o, h4.alloc h4.size o⟩
  case ip =>
    rintro s W l o o' hl ho hc ⟨v, u, h1, h2, h3, h4⟩
    have hne : ∀ {B t u}, Boxed W B t u → some B ≠ some l := fun h e => by cases e; rw [show W.heap[l]? = _ from h] at ho; cases ho; cases hc
    exact ⟨v, u, h1.kept (grownBy_putObj' W l o') (hne h1), h2.kept (grownBy_putObj' W l o') (hne h2), ownsRow_putObj h3 o' ho hc, h4.trans ⟨rfl, rfl, rfl, by simp [World.putObj], fun k hk => World.putObj_heap_other (by omega)⟩⟩
  case ic =>
    rintro s W v' ⟨v, u, h1, h2, h3, h4⟩
    exact ⟨v, v', h1.other (by omega) _, h2.set _, h3.kept (grownBy_setCell' W _ _) (.inr (h2.not_row (by decide) h3).symm), h4.setCell (p := ⟨w.heap.size + 1 + 1, 0, none⟩) (by show w.heap.size ≤ w.heap.size + 1 + 1; omega) _⟩
  case idr =>
    rintro s W ⟨v, u, h1, h2, h3, h4⟩
    exact ⟨v, u, h1, h2, h3, h4.drew⟩
  case assign =>
    intro l x W K hK
    gi_wp2
    exact hK
  case body =>
    rintro l pre x W ⟨v, u, hv, hu, hrow, hB⟩ hlen hCl
    have hc := hv.cell
    obtain ⟨x, f⟩ := x
    cases f
    all_goals
      gi_wp2_with (gi_at_builtin; refine wpListIn_append_own _ rfl _ _ 122 rfl w.heap.size 5 i0 (.int .u8 0) 1 1 Tryz.underlying122 hi hz0 hz1 hz2 rfl (by decide) _ _ _ rfl (hrow.alloc _) ⟨W.heap.size, 0, none⟩ 1 1 [_] rfl rfl (cell_one_new _ _ _) (by simp [Value.oneCell']) (by unfold maxLen; omega) (by omega) (by have := hB.size; simp; omega) ?_; intro v' w1 hown' hgrow _; obtain ⟨g', cap', rfl⟩ := ownsRow_succ hown'; have hu1 := (hu.alloc _).kept hgrow (hu.not_row (by decide) hrow); obtain ⟨hv1, hv2, hr2, hk2, hb2⟩ := hv.appended (by decide) hrow hB.size (Nat.le_add_right _ _) hown' hgrow; have hc1 := hv1.cell; have hf1 := hv1.frozen)
      have hu2 := hu1.other (B' := w.heap.size + 1) (by omega) (Value.slice (some { block := g', off := 0 }) (pre.length + 1) cap')
      refine ⟨hk2.from _, (show _ = _ from hu2).trans ((show _ = _ from hu).symm.trans (by simp [hCl])), _, hv2, ⟨_, hu2⟩, ?_, hB.trans hb2⟩
      simpa [sevC] using hr2
  case done =>
    rintro D W hD ⟨v, u, hv, hu, hrow, hB⟩ hK
    have hc := hv.cell
    rw [sevC_cells, show (sevL n).length = (vPutL n).length by simp [vPutL]] at hrow
    have hl1 : 1 ≤ (vPutL n).length := by have := (sevL_len 9 n (by omega)).1; simp [vPutL]; omega
    obtain ⟨g, cap, rfl⟩ : ∃ g cap, v = .slice (some ⟨g, 0, none⟩) (vPutL n).length cap := by
      obtain ⟨m, hm⟩ : ∃ m, (vPutL n).length = m + 1 := ⟨(vPutL n).length - 1, by omega⟩
      have h' := hrow
      rw [hm] at h'
      rw [hm]
      exact ownsRow_succ h'
    have hcv : (convert 122 9 (.slice (some ⟨g, 0, none⟩) (vPutL n).length cap)).run Tryz.prog W = .ok (.string (vPut n)) W :=
      run_convert_bytes_back W _ _ 5 ⟨g, 0, none⟩ cap (vPutL n) Tryz.underlying122 Tryz.underlying5 Tryz.underlying9 fun j hj => by
        rw [addr_add, Nat.zero_add, World.ownsRow.cellAt hrow j (by omega)]
        simp [hj]
    gi_wp2
    refine ⟨by simp, .inl ⟨_, _, rfl, run_takeDeferred hK, ?_⟩⟩
    exact ⟨_, results_tmp rfl _ _ _, rfl, hB.trans ⟨rfl, rfl, rfl, by simp [World.putObj], fun k hk => World.putObj_heap_other (by omega)⟩⟩

theorem Put_ok (n : Nat) (hn : n < 18446744073709551616) (w : World) :
    Calls Tryz.prog 77 #[.int .u64 (n : Nat)] w fun e w' => e = .returned (.string (vPut n)) ∧ Mod [] w w' :=
  (callsIn_wide.1 (Put_in n hn w)).mono fun e w' ⟨h1, h2⟩ => ⟨h1, Mod.of_below h2⟩
theorem vPut_size (n : Nat) (hn : n < 18446744073709551616) : 1 ≤ (vPut n).size ∧ (vPut n).size ≤ 10 := by
  have := sevL_len 9 n (by omega)
  have e : (vPut n).size = (sevL n).length := by simp [vPut, vPutL, ByteArray.size]
  omega
end Go.Proofs.YtohgihgddknmmaaGreat

/- Replies as data. -/
namespace Go.Proofs.YtohgihgddknmmaaGreat
open Go Go.RowKit
set_option linter.unusedVariables false
set_option linter.unusedSimpArgs false

structure PRec where
  hk : Bool
  key : ByteArray
  tomb : Bool
  val : ByteArray
  deriving DecidableEq
structure PFound where
  off : Int
  r : PRec
  deriving DecidableEq
structure PPart where
  t : ByteArray
  n : Int
  deriving DecidableEq
structure PRep where
  e : Int
  off : Int
  n : Int
  gen : Int
  found : List PFound
  parts : List PPart
  deriving DecidableEq
/-- A slice's value. -/
structure Sl where
  a : Option Addr
  n : Nat
  c : Nat
def PRec.v (r : PRec) : Value := .agg #[.bool r.hk, .string r.key, .bool r.tomb, .string r.val]
def PFound.v (x : PFound) : Value := .agg #[.int .i64 x.off, .bool x.r.hk, .string x.r.key, .bool x.r.tomb, .string x.r.val]
def PPart.v (x : PPart) : Value := .agg #[.string x.t, .int .i64 x.n]
def encF (x : PFound) : List Value := [.int .i64 x.off, .bool x.r.hk, .string x.r.key, .bool x.r.tomb, .string x.r.val]
def encP (x : PPart) : List Value := [.string x.t, .int .i64 x.n]
theorem encF_len (x : PFound) : (encF x).length = 5 := rfl
theorem encP_len (x : PPart) : (encP x).length = 2 := rfl
/-- A reply's cells, its slices by where they lie. -/
def PRep.cs (r : PRep) (f p : Sl) : List Value := [.int .i64 r.e, .int .i64 r.off, .int .i64 r.n, .int .i64 r.gen, .slice f.a f.n f.c, .slice p.a p.n p.c]
def PRep.v (r : PRep) (f p : Sl) : Value := .agg #[.int .i64 r.e, .int .i64 r.off, .int .i64 r.n, .int .i64 r.gen, .slice f.a f.n f.c, .slice p.a p.n p.c]
/-- What its slices read as. -/
structure RepAt (w : World) (r : PRep) (f p : Sl) : Prop where
  found : SlAt w 5 encF f.a f.n r.found
  parts : SlAt w 2 encP p.a p.n r.parts
  lf : r.found.length ≤ 1000000
  lp : r.parts.length ≤ 1000000
/-- .. in memory of one's own. -/
structure RepOwn (w : World) (base : Nat) (r : PRep) (f p : Sl) : Prop where
  found : Row w base 152 5 encF f.a f.n f.c r.found
  parts : Row w base 32 2 encP p.a p.n p.c r.parts
  lf : r.found.length ≤ 1000000
  lp : r.parts.length ≤ 1000000
theorem RepOwn.at {w : World} {base : Nat} {r : PRep} {f p : Sl} (h : RepOwn w base r f p) : RepAt w r f p := ⟨h.found.sl encF_len, h.parts.sl encP_len, h.lf, h.lp⟩
theorem RepAt.keep0 {w w' : World} {r : PRep} {f p : Sl} (h : RepAt w r f p) (M : Mod [] w w') : RepAt w' r f p := ⟨h.found.keep0 M, h.parts.keep0 M, h.lf, h.lp⟩
/-- .. of any length. -/
structure RepAtW (w : World) (r : PRep) (f p : Sl) : Prop where
  found : SlAt w 5 encF f.a f.n r.found
  parts : SlAt w 2 encP p.a p.n r.parts
  lf : r.found.length ≤ 9223372036854775807
  lp : r.parts.length ≤ 9223372036854775807
theorem RepAtW.keep0 {w w' : World} {r : PRep} {f p : Sl} (h : RepAtW w r f p) (M : Mod [] w w') : RepAtW w' r f p := ⟨h.found.keep0 M, h.parts.keep0 M, h.lf, h.lp⟩
theorem RepAt.wide {w : World} {r : PRep} {f p : Sl} (h : RepAt w r f p) : RepAtW w r f p := ⟨h.found, h.parts, by have := h.lf; omega, by have := h.lp; omega⟩
theorem RepOwn.keep0 {w w' : World} {base : Nat} {r : PRep} {f p : Sl} (h : RepOwn w base r f p) (M : Mod [] w w') : RepOwn w' base r f p := ⟨h.found.keep0 M, h.parts.keep0 M, h.lf, h.lp⟩
theorem RepOwn.rebase {w : World} {base base' : Nat} {r : PRep} {f p : Sl} (h : RepOwn w base r f p) (hb : base' ≤ base) : RepOwn w base' r f p := ⟨h.found.rebase hb, h.parts.rebase hb, h.lf, h.lp⟩

theorem neF (x y : PFound) (o1 o2 : Operand) (w : World) : Sem.run Tryz.prog (do eqGuard .neq 152 o1 o2 x.v y.v; Go.binOp .neq 152 x.v y.v) w = .ok (.bool (decide (x ≠ y))) w := by
  obtain ⟨a, b, c, d, e⟩ := x
  obtain ⟨a', b', c', d', e'⟩ := y
  simp [go_sem, Sem.run_bind, PFound.v]
  by_cases h1 : a = a' <;> by_cases h2 : b = b' <;> by_cases h3 : c = c' <;> by_cases h4 : d = d' <;> by_cases h5 : e = e' <;> simp [h1, h2, h3, h4, h5, toList_inj]
theorem neP (x y : PPart) (o1 o2 : Operand) (w : World) : Sem.run Tryz.prog (do eqGuard .neq 32 o1 o2 x.v y.v; Go.binOp .neq 32 x.v y.v) w = .ok (.bool (decide (x ≠ y))) w := by
  obtain ⟨a, b⟩ := x
  obtain ⟨a', b'⟩ := y
  simp [go_sem, Sem.run_bind, PPart.v]
  by_cases h1 : a = a' <;> by_cases h2 : b = b' <;> simp [h1, h2, toList_inj]
end Go.Proofs.YtohgihgddknmmaaGreat

/- The conditions of Go functions' bodies, printed by gen2.py. -/
namespace Go.Proofs.YtohgihgddknmmaaGreat
open Go Go.RowKit
set_option linter.unusedVariables false
set_option maxRecDepth 100000

def request_number_an : List LA := []
def request_number_T (a0 : Int) (R : Value → World → Prop) (w : World) : Prop :=
 brB (decide (a0 ≥ 0)) (
 R (.bool (decide (a0 ≤ 1099511627776))) w)
 (
 R (.bool false) w)
theorem request_number_eq (a0 : Int) (R : Value → World → Prop) (w : World) :
 dnF Tryz.prog request_number_an (code Tryz.f161) 400 [] (post3 Tryz.prog Tryz.f161 [] R) ⟨args0 0 [.int .i64 a0], fun _ => undef⟩ ⟨[], w, [], [], true⟩ = request_number_T a0 R w := by kernel_rfl
theorem request_number_go {a0 : Int} {R : Value → World → Prop} {w : World} (h : request_number_T a0 R w) :
 Calls Tryz.prog 161 #[.int .i64 a0] w fun e w' => ∃ v, e = .returned v ∧ R v w' :=
 calls_none Tryz.wide_mixed (f := 161) (args := [.int .i64 a0]) Tryz.func161 rfl rfl (by kernel_rfl) rfl (Eq.mpr (request_number_eq a0 R w) h)
def record_Check_an : List LA := []
def record_Check_T (a2 : Bool) (a0 : ByteArray) (a3 : Bool) (a1 : ByteArray) (R : Value → World → Prop) (w : World) : Prop :=
 ∀ b1, w.heap.size ≤ b1 →
 brB (!a2) (
 brB (!(a0.toList == (⟨#[]⟩ : ByteArray).toList)) (
 brB (!(a0.toList == (⟨#[]⟩ : ByteArray).toList)) (
 ∀ w2, Adv [] [b1] w w2 →
 R (.int .i64 30) w2)
 (
 brB (decide ((a0.size : Int) > 64)) (
 brB (decide ((a0.size : Int) > 64)) (
 ∀ w3, Adv [] [b1] w w3 →
 R (.int .i64 2) w3)
 (
 ∀ w4, Adv [] [b1] w w4 →
 R (.int .i64 0) w4))
 (
 brB (decide ((a1.size : Int) > 512)) (
 ∀ w5, Adv [] [b1] w w5 →
 R (.int .i64 2) w5)
 (
 ∀ w6, Adv [] [b1] w w6 →
 R (.int .i64 0) w6))))
 (
 brB a3 (
 brB (!a2) (
 ∀ w7, Adv [] [b1] w w7 →
 R (.int .i64 30) w7)
 (
 brB (!(a1.toList == (⟨#[]⟩ : ByteArray).toList)) (
 ∀ w8, Adv [] [b1] w w8 →
 R (.int .i64 30) w8)
 (
 brB (decide ((a0.size : Int) > 64)) (
 brB (decide ((a0.size : Int) > 64)) (
 ∀ w9, Adv [] [b1] w w9 →
 R (.int .i64 2) w9)
 (
 ∀ w10, Adv [] [b1] w w10 →
 R (.int .i64 0) w10))
 (
 brB (decide ((a1.size : Int) > 512)) (
 ∀ w11, Adv [] [b1] w w11 →
 R (.int .i64 2) w11)
 (
 ∀ w12, Adv [] [b1] w w12 →
 R (.int .i64 0) w12)))))
 (
 brB (decide ((a0.size : Int) > 64)) (
 brB (decide ((a0.size : Int) > 64)) (
 ∀ w13, Adv [] [b1] w w13 →
 R (.int .i64 2) w13)
 (
 ∀ w14, Adv [] [b1] w w14 →
 R (.int .i64 0) w14))
 (
 brB (decide ((a1.size : Int) > 512)) (
 ∀ w15, Adv [] [b1] w w15 →
 R (.int .i64 2) w15)
 (
 ∀ w16, Adv [] [b1] w w16 →
 R (.int .i64 0) w16)))))
 (
 brB a3 (
 brB (!a2) (
 ∀ w17, Adv [] [b1] w w17 →
 R (.int .i64 30) w17)
 (
 brB (!(a1.toList == (⟨#[]⟩ : ByteArray).toList)) (
 ∀ w18, Adv [] [b1] w w18 →
 R (.int .i64 30) w18)
 (
 brB (decide ((a0.size : Int) > 64)) (
 brB (decide ((a0.size : Int) > 64)) (
 ∀ w19, Adv [] [b1] w w19 →
 R (.int .i64 2) w19)
 (
 ∀ w20, Adv [] [b1] w w20 →
 R (.int .i64 0) w20))
 (
 brB (decide ((a1.size : Int) > 512)) (
 ∀ w21, Adv [] [b1] w w21 →
 R (.int .i64 2) w21)
 (
 ∀ w22, Adv [] [b1] w w22 →
 R (.int .i64 0) w22)))))
 (
 brB (decide ((a0.size : Int) > 64)) (
 brB (decide ((a0.size : Int) > 64)) (
 ∀ w23, Adv [] [b1] w w23 →
 R (.int .i64 2) w23)
 (
 ∀ w24, Adv [] [b1] w w24 →
 R (.int .i64 0) w24))
 (
 brB (decide ((a1.size : Int) > 512)) (
 ∀ w25, Adv [] [b1] w w25 →
 R (.int .i64 2) w25)
 (
 ∀ w26, Adv [] [b1] w w26 →
 R (.int .i64 0) w26))))
theorem record_Check_eq (a0 : Bool) (a1 : ByteArray) (a2 : Bool) (a3 : ByteArray) (R : Value → World → Prop) (w : World) :
 dnF Tryz.prog record_Check_an (code Tryz.f162) 400 [] (post3 Tryz.prog Tryz.f162 [] R) ⟨args0 0 [(.agg #[.bool a0, .string a1, .bool a2, .string a3])], fun _ => undef⟩ ⟨[], w, [], [], true⟩ = record_Check_T a0 a1 a2 a3 R w := by kernel_rfl
theorem record_Check_go {a0 : Bool} {a1 : ByteArray} {a2 : Bool} {a3 : ByteArray} {R : Value → World → Prop} {w : World} (h : record_Check_T a0 a1 a2 a3 R w) :
 Calls Tryz.prog 162 #[(.agg #[.bool a0, .string a1, .bool a2, .string a3])] w fun e w' => ∃ v, e = .returned v ∧ R v w' :=
 calls_none Tryz.wide_mixed (f := 162) (args := [(.agg #[.bool a0, .string a1, .bool a2, .string a3])]) Tryz.func162 rfl rfl (by kernel_rfl) rfl (Eq.mpr (record_Check_eq a0 a1 a2 a3 R w) h)
def record_kind_an : List LA := []
def record_kind_T (a0 : Bool) (a2 : ByteArray) (a1 : Bool) (a3 : ByteArray) (R : Value → World → Prop) (w : World) : Prop :=
 ∀ b1, w.heap.size ≤ b1 →
 brB a1 (
 ∀ w2, Adv [] [b1] w w2 →
 R (.int .u8 (IntKind.wrap .u8 ((IntKind.wrap .u8 (0 + 2)) + 1))) w2)
 (
 brB a0 (
 ∀ w3, Adv [] [b1] w w3 →
 R (.int .u8 (IntKind.wrap .u8 (0 + 1))) w3)
 (
 ∀ w4, Adv [] [b1] w w4 →
 R (.int .u8 0) w4))
theorem record_kind_eq (a0 : Bool) (a1 : ByteArray) (a2 : Bool) (a3 : ByteArray) (R : Value → World → Prop) (w : World) :
 dnF Tryz.prog record_kind_an (code Tryz.f172) 400 [] (post3 Tryz.prog Tryz.f172 [] R) ⟨args0 0 [(.agg #[.bool a0, .string a1, .bool a2, .string a3])], fun _ => undef⟩ ⟨[], w, [], [], true⟩ = record_kind_T a0 a1 a2 a3 R w := by kernel_rfl
theorem record_kind_go {a0 : Bool} {a1 : ByteArray} {a2 : Bool} {a3 : ByteArray} {R : Value → World → Prop} {w : World} (h : record_kind_T a0 a1 a2 a3 R w) :
 Calls Tryz.prog 172 #[(.agg #[.bool a0, .string a1, .bool a2, .string a3])] w fun e w' => ∃ v, e = .returned v ∧ R v w' :=
 calls_none Tryz.wide_mixed (f := 172) (args := [(.agg #[.bool a0, .string a1, .bool a2, .string a3])]) Tryz.func172 rfl rfl (by kernel_rfl) rfl (Eq.mpr (record_kind_eq a0 a1 a2 a3 R w) h)
def ref03_Num_an : List LA := []
def ref03_Num_T (a0 : Int) (R : Value → World → Prop) (w : World) : Prop :=
 brB (decide (a0 ≥ 0)) (
 R (.bool (decide (a0 ≤ 1099511627776))) w)
 (
 R (.bool false) w)
theorem ref03_Num_eq (a0 : Int) (R : Value → World → Prop) (w : World) :
 dnF Tryz.prog ref03_Num_an (code Tryz.f110) 400 [] (post3 Tryz.prog Tryz.f110 [] R) ⟨args0 0 [.int .i64 a0], fun _ => undef⟩ ⟨[], w, [], [], true⟩ = ref03_Num_T a0 R w := by kernel_rfl
theorem ref03_Num_go {a0 : Int} {R : Value → World → Prop} {w : World} (h : ref03_Num_T a0 R w) :
 Calls Tryz.prog 110 #[.int .i64 a0] w fun e w' => ∃ v, e = .returned v ∧ R v w' :=
 calls_none Tryz.wide_mixed (f := 110) (args := [.int .i64 a0]) Tryz.func110 rfl rfl (by kernel_rfl) rfl (Eq.mpr (ref03_Num_eq a0 R w) h)
def ref03_Check_an : List LA := []
def ref03_Check_T (a3 : Bool) (a1 : ByteArray) (a2 : Bool) (a0 : ByteArray) (R : Value → World → Prop) (w : World) : Prop :=
 ∀ b1, w.heap.size ≤ b1 →
 brB (!a3) (
 brB (decide ((a1.size : Int) > 0)) (
 ∀ w2, Adv [] [b1] w w2 →
 R (.int .i64 30) w2)
 (
 brB a2 (
 brB (!a3) (
 ∀ w3, Adv [] [b1] w w3 →
 R (.int .i64 30) w3)
 (
 brB a2 (
 brB (decide ((a0.size : Int) > 0)) (
 ∀ w4, Adv [] [b1] w w4 →
 R (.int .i64 30) w4)
 (
 brB (decide ((a1.size : Int) > 64)) (
 ∀ w5, Adv [] [b1] w w5 →
 R (.int .i64 2) w5)
 (
 brB (decide ((a0.size : Int) > 512)) (
 ∀ w6, Adv [] [b1] w w6 →
 R (.int .i64 2) w6)
 (
 ∀ w7, Adv [] [b1] w w7 →
 R (.int .i64 0) w7))))
 (
 brB (decide ((a1.size : Int) > 64)) (
 ∀ w8, Adv [] [b1] w w8 →
 R (.int .i64 2) w8)
 (
 brB (decide ((a0.size : Int) > 512)) (
 ∀ w9, Adv [] [b1] w w9 →
 R (.int .i64 2) w9)
 (
 ∀ w10, Adv [] [b1] w w10 →
 R (.int .i64 0) w10)))))
 (
 brB a2 (
 brB (decide ((a0.size : Int) > 0)) (
 ∀ w11, Adv [] [b1] w w11 →
 R (.int .i64 30) w11)
 (
 brB (decide ((a1.size : Int) > 64)) (
 ∀ w12, Adv [] [b1] w w12 →
 R (.int .i64 2) w12)
 (
 brB (decide ((a0.size : Int) > 512)) (
 ∀ w13, Adv [] [b1] w w13 →
 R (.int .i64 2) w13)
 (
 ∀ w14, Adv [] [b1] w w14 →
 R (.int .i64 0) w14))))
 (
 brB (decide ((a1.size : Int) > 64)) (
 ∀ w15, Adv [] [b1] w w15 →
 R (.int .i64 2) w15)
 (
 brB (decide ((a0.size : Int) > 512)) (
 ∀ w16, Adv [] [b1] w w16 →
 R (.int .i64 2) w16)
 (
 ∀ w17, Adv [] [b1] w w17 →
 R (.int .i64 0) w17))))))
 (
 brB a2 (
 brB (!a3) (
 ∀ w18, Adv [] [b1] w w18 →
 R (.int .i64 30) w18)
 (
 brB a2 (
 brB (decide ((a0.size : Int) > 0)) (
 ∀ w19, Adv [] [b1] w w19 →
 R (.int .i64 30) w19)
 (
 brB (decide ((a1.size : Int) > 64)) (
 ∀ w20, Adv [] [b1] w w20 →
 R (.int .i64 2) w20)
 (
 brB (decide ((a0.size : Int) > 512)) (
 ∀ w21, Adv [] [b1] w w21 →
 R (.int .i64 2) w21)
 (
 ∀ w22, Adv [] [b1] w w22 →
 R (.int .i64 0) w22))))
 (
 brB (decide ((a1.size : Int) > 64)) (
 ∀ w23, Adv [] [b1] w w23 →
 R (.int .i64 2) w23)
 (
 brB (decide ((a0.size : Int) > 512)) (
 ∀ w24, Adv [] [b1] w w24 →
 R (.int .i64 2) w24)
 (
 ∀ w25, Adv [] [b1] w w25 →
 R (.int .i64 0) w25)))))
 (
 brB a2 (
 brB (decide ((a0.size : Int) > 0)) (
 ∀ w26, Adv [] [b1] w w26 →
 R (.int .i64 30) w26)
 (
 brB (decide ((a1.size : Int) > 64)) (
 ∀ w27, Adv [] [b1] w w27 →
 R (.int .i64 2) w27)
 (
 brB (decide ((a0.size : Int) > 512)) (
 ∀ w28, Adv [] [b1] w w28 →
 R (.int .i64 2) w28)
 (
 ∀ w29, Adv [] [b1] w w29 →
 R (.int .i64 0) w29))))
 (
 brB (decide ((a1.size : Int) > 64)) (
 ∀ w30, Adv [] [b1] w w30 →
 R (.int .i64 2) w30)
 (
 brB (decide ((a0.size : Int) > 512)) (
 ∀ w31, Adv [] [b1] w w31 →
 R (.int .i64 2) w31)
 (
 ∀ w32, Adv [] [b1] w w32 →
 R (.int .i64 0) w32)))))
theorem ref03_Check_eq (a0 : Bool) (a1 : ByteArray) (a2 : Bool) (a3 : ByteArray) (R : Value → World → Prop) (w : World) :
 dnF Tryz.prog ref03_Check_an (code Tryz.f145) 400 [] (post3 Tryz.prog Tryz.f145 [] R) ⟨args0 0 [(.agg #[.bool a0, .string a1, .bool a2, .string a3])], fun _ => undef⟩ ⟨[], w, [], [], true⟩ = ref03_Check_T a0 a1 a2 a3 R w := by kernel_rfl
theorem ref03_Check_go {a0 : Bool} {a1 : ByteArray} {a2 : Bool} {a3 : ByteArray} {R : Value → World → Prop} {w : World} (h : ref03_Check_T a0 a1 a2 a3 R w) :
 Calls Tryz.prog 145 #[(.agg #[.bool a0, .string a1, .bool a2, .string a3])] w fun e w' => ∃ v, e = .returned v ∧ R v w' :=
 calls_none Tryz.wide_mixed (f := 145) (args := [(.agg #[.bool a0, .string a1, .bool a2, .string a3])]) Tryz.func145 rfl rfl (by kernel_rfl) rfl (Eq.mpr (ref03_Check_eq a0 a1 a2 a3 R w) h)
def ref04_Name_la1 : LA := ⟨[0, 0, 1, 0, 1, 1], [0, 3], [], 0, []⟩
def ref04_Name_an : List LA := [ref04_Name_la1]
def ref04_Name_v1 (a0 : ByteArray) (a1 : Int) : List Value := [.string a0, .int .i64 a1]
def ref04_Name_m1 : List TB := []
def ref04_Name_L1 (a0 : ByteArray) (a1 : Int) (K1 : Kh) (R : Value → World → Prop) (w : World) : Prop :=
 brB (decide (a1 < (a0.size : Int))) (
 ixS a0 a1 fun x1 =>
 brB (decide (x1 ≥ 97)) (
 brB (decide (x1 ≤ 122)) (
 K1 (ref04_Name_v1 a0 (IntKind.wrap .i64 (a1 + 1))) (ref04_Name_m1) w)
 (
 brB (decide (x1 ≥ 48)) (
 brB (decide (x1 ≤ 57)) (
 K1 (ref04_Name_v1 a0 (IntKind.wrap .i64 (a1 + 1))) (ref04_Name_m1) w)
 (
 brB (!(x1 == 45)) (
 R (.bool false) w)
 (
 K1 (ref04_Name_v1 a0 (IntKind.wrap .i64 (a1 + 1))) (ref04_Name_m1) w)))
 (
 brB (!(x1 == 45)) (
 R (.bool false) w)
 (
 K1 (ref04_Name_v1 a0 (IntKind.wrap .i64 (a1 + 1))) (ref04_Name_m1) w))))
 (
 brB (decide (x1 ≥ 48)) (
 brB (decide (x1 ≤ 57)) (
 K1 (ref04_Name_v1 a0 (IntKind.wrap .i64 (a1 + 1))) (ref04_Name_m1) w)
 (
 brB (!(x1 == 45)) (
 R (.bool false) w)
 (
 K1 (ref04_Name_v1 a0 (IntKind.wrap .i64 (a1 + 1))) (ref04_Name_m1) w)))
 (
 brB (!(x1 == 45)) (
 R (.bool false) w)
 (
 K1 (ref04_Name_v1 a0 (IntKind.wrap .i64 (a1 + 1))) (ref04_Name_m1) w))))
 (
 R (.bool true) w)
theorem ref04_Name_L1_eq (a0 : ByteArray) (a1 : Int) (K1 : Kh) (js : Nat → Value) (R : Value → World → Prop) (w : World) :
 headA ref04_Name_la1 ((dnF Tryz.prog ref04_Name_an (code Tryz.f108) 396 [0, 0, 1, 0, 1, 1]) (kthen3 (atA ref04_Name_la1 K1) (kont3 Tryz.prog ref04_Name_an (code Tryz.f108) [1, 1, 0, 1, 0] [] (post3 Tryz.prog Tryz.f108 [] R)))) (ref04_Name_v1 a0 a1) js (ref04_Name_m1) w = ref04_Name_L1 a0 a1 K1 R w := by kernel_rfl
def ref04_Name_K1 (a1 : ByteArray) (I : Nat → Int → World → Prop) (m : Nat) (vals : List Value) (mem : List TB) (w : World) : Prop := ∃ m', m' < m ∧ ∃ a0, vals = (ref04_Name_v1 a1 a0) ∧ mem = (ref04_Name_m1) ∧ I m' a0 w
theorem ref04_Name_leaf1 {a0 : ByteArray} {I : Nat → Int → World → Prop} {m : Nat} {a1 : Int} {w : World} (m' : Nat) (h1 : m' < m) (h2 : I m' a1 w) : ref04_Name_K1 a0 I m (ref04_Name_v1 a0 a1) (ref04_Name_m1) w := ⟨m', h1, _, rfl, rfl, h2⟩
theorem ref04_Name_rule1 {a1 : ByteArray} {a2 : Int} {R : Value → World → Prop} {w0 : World} (I : Nat → Int → World → Prop) (m0 : Nat) (h0 : I m0 a2 w0)
 (hr : ∀ (m : Nat) (a0 : Int) (w : World), I m a0 w → ref04_Name_L1 a1 a0 (ref04_Name_K1 a1 I m) R w) :
 loopD3 ref04_Name_la1 (dnF Tryz.prog ref04_Name_an (code Tryz.f108) 396 [0, 0, 1, 0, 1, 1]) (kont3 Tryz.prog ref04_Name_an (code Tryz.f108) [1, 1, 0, 1, 0] [] (post3 Tryz.prog Tryz.f108 [] R)) (ref04_Name_v1 a1 a2) (ref04_Name_m1) w0 := by
 refine ⟨fun m vals mem w => ∃ a0, vals = (ref04_Name_v1 a1 a0) ∧ mem = (ref04_Name_m1) ∧ I m a0 w, m0, ⟨_, rfl, rfl, h0⟩, ?_⟩
 rintro m vals mem w ⟨a0, rfl, rfl, hI⟩
 refine ⟨rfl, rfl, fun js => ?_⟩
 have h := hr m a0 w hI
 rw [← ref04_Name_L1_eq _ _ _ js] at h
 exact h
def ref04_Name_T (a0 : ByteArray) (R : Value → World → Prop) (w : World) : Prop :=
 brB (decide ((a0.size : Int) < 1)) (
 R (.bool false) w)
 (
 brB (decide ((a0.size : Int) > 16)) (
 R (.bool false) w)
 (
 loopD3 ref04_Name_la1 (dnF Tryz.prog ref04_Name_an (code Tryz.f108) 396 [0, 0, 1, 0, 1, 1]) (kont3 Tryz.prog ref04_Name_an (code Tryz.f108) [1, 1, 0, 1, 0] [] (post3 Tryz.prog Tryz.f108 [] R)) (ref04_Name_v1 a0 0) (ref04_Name_m1) w))
theorem ref04_Name_eq (a0 : ByteArray) (R : Value → World → Prop) (w : World) :
 dnF Tryz.prog ref04_Name_an (code Tryz.f108) 400 [] (post3 Tryz.prog Tryz.f108 [] R) ⟨args0 0 [.string a0], fun _ => undef⟩ ⟨[], w, [], [], true⟩ = ref04_Name_T a0 R w := by kernel_rfl
theorem ref04_Name_go {a0 : ByteArray} {R : Value → World → Prop} {w : World} (h : ref04_Name_T a0 R w) :
 Calls Tryz.prog 108 #[.string a0] w fun e w' => ∃ v, e = .returned v ∧ R v w' :=
 calls_none Tryz.wide_mixed (f := 108) (args := [.string a0]) Tryz.func108 rfl rfl (by kernel_rfl) rfl (Eq.mpr (ref04_Name_eq a0 R w) h)
def ref04_Found_la1 : LA := ⟨[0, 0, 1, 0, 1, 1], [0, 1, 5], [], 0, []⟩
def ref04_Found_an : List LA := [ref04_Found_la1]
def ref04_Found_v1 (a0 : Option Addr) (a4 a2 : Nat) (a1 : Option Addr) (a5 a3 : Nat) (a6 : Int) : List Value := [.slice a0 a4 a2, .slice a1 a5 a3, .int .i64 a6]
def ref04_Found_m1 : List TB := []
def ref04_Found_L1 (a2 : Option Addr) (a1 a5 : Nat) (a3 : Option Addr) (a4 a6 : Nat) (a0 : Int) (K1 : Kh) (R : Value → World → Prop) (w : World) : Prop :=
 brB (decide (a0 < (a1 : Int))) (
 ixA a2 a1 a0 5 fun q1 =>
 ldInt .i64 w q1 fun x2 => ldBool w (Addr.add q1 1) fun t3 => ldStr w (Addr.add q1 2) fun s4 => ldBool w (Addr.add q1 3) fun t5 => ldStr w (Addr.add q1 4) fun s6 =>
 ixA a3 a4 a0 5 fun q7 =>
 ldInt .i64 w q7 fun x8 => ldBool w (Addr.add q7 1) fun t9 => ldStr w (Addr.add q7 2) fun s10 => ldBool w (Addr.add q7 3) fun t11 => ldStr w (Addr.add q7 4) fun s12 =>
 ∃ t13 : Bool, (∀ w', Mod [] w w' → Sem.run Tryz.prog (do eqGuard .neq 152 (.tmp 20) (.tmp 24) (.agg #[.int .i64 x2, .bool t3, .string s4, .bool t5, .string s6]) (.agg #[.int .i64 x8, .bool t9, .string s10, .bool t11, .string s12]); Go.binOp .neq 152 (.agg #[.int .i64 x2, .bool t3, .string s4, .bool t5, .string s6]) (.agg #[.int .i64 x8, .bool t9, .string s10, .bool t11, .string s12])) w' = .ok (.bool t13) w') ∧
 brB t13 (
 ∀ w14, Adv [] [] w w14 →
 R (.bool false) w14)
 (
 ∀ w15, Adv [] [] w w15 →
 K1 (ref04_Found_v1 a2 a1 a5 a3 a4 a6 (IntKind.wrap .i64 (a0 + 1))) (ref04_Found_m1) w15))
 (
 R (.bool true) w)
theorem ref04_Found_L1_eq (a0 : Option Addr) (a4 a2 : Nat) (a1 : Option Addr) (a5 a3 : Nat) (a6 : Int) (K1 : Kh) (js : Nat → Value) (R : Value → World → Prop) (w : World) :
 headA ref04_Found_la1 ((dnF Tryz.prog ref04_Found_an (code Tryz.f72) 396 [0, 0, 1, 0, 1, 1]) (kthen3 (atA ref04_Found_la1 K1) (kont3 Tryz.prog ref04_Found_an (code Tryz.f72) [1, 1, 0, 1, 0] [] (post3 Tryz.prog Tryz.f72 [] R)))) (ref04_Found_v1 a0 a4 a2 a1 a5 a3 a6) js (ref04_Found_m1) w = ref04_Found_L1 a0 a4 a2 a1 a5 a3 a6 K1 R w := by kernel_rfl
def ref04_Found_K1 (a1 : Option Addr) (a5 a3 : Nat) (a2 : Option Addr) (a6 a4 : Nat) (I : Nat → Int → World → Prop) (m : Nat) (vals : List Value) (mem : List TB) (w : World) : Prop := ∃ m', m' < m ∧ ∃ a0, vals = (ref04_Found_v1 a1 a5 a3 a2 a6 a4 a0) ∧ mem = (ref04_Found_m1) ∧ I m' a0 w
theorem ref04_Found_leaf1 {a0 : Option Addr} {a4 a2 : Nat} {a1 : Option Addr} {a5 a3 : Nat} {I : Nat → Int → World → Prop} {m : Nat} {a6 : Int} {w : World} (m' : Nat) (h1 : m' < m) (h2 : I m' a6 w) : ref04_Found_K1 a0 a4 a2 a1 a5 a3 I m (ref04_Found_v1 a0 a4 a2 a1 a5 a3 a6) (ref04_Found_m1) w := ⟨m', h1, _, rfl, rfl, h2⟩
theorem ref04_Found_rule1 {a1 : Option Addr} {a5 a3 : Nat} {a2 : Option Addr} {a6 a4 : Nat} {a7 : Int} {R : Value → World → Prop} {w0 : World} (I : Nat → Int → World → Prop) (m0 : Nat) (h0 : I m0 a7 w0)
 (hr : ∀ (m : Nat) (a0 : Int) (w : World), I m a0 w → ref04_Found_L1 a1 a5 a3 a2 a6 a4 a0 (ref04_Found_K1 a1 a5 a3 a2 a6 a4 I m) R w) :
 loopD3 ref04_Found_la1 (dnF Tryz.prog ref04_Found_an (code Tryz.f72) 396 [0, 0, 1, 0, 1, 1]) (kont3 Tryz.prog ref04_Found_an (code Tryz.f72) [1, 1, 0, 1, 0] [] (post3 Tryz.prog Tryz.f72 [] R)) (ref04_Found_v1 a1 a5 a3 a2 a6 a4 a7) (ref04_Found_m1) w0 := by
 refine ⟨fun m vals mem w => ∃ a0, vals = (ref04_Found_v1 a1 a5 a3 a2 a6 a4 a0) ∧ mem = (ref04_Found_m1) ∧ I m a0 w, m0, ⟨_, rfl, rfl, h0⟩, ?_⟩
 rintro m vals mem w ⟨a0, rfl, rfl, hI⟩
 refine ⟨rfl, rfl, fun js => ?_⟩
 have h := hr m a0 w hI
 rw [← ref04_Found_L1_eq _ _ _ _ _ _ _ _ js] at h
 exact h
def ref04_Found_T (a2 : Option Addr) (a0 a3 : Nat) (a4 : Option Addr) (a1 a5 : Nat) (R : Value → World → Prop) (w : World) : Prop :=
 brB ((a0 : Int) != (a1 : Int)) (
 R (.bool false) w)
 (
 loopD3 ref04_Found_la1 (dnF Tryz.prog ref04_Found_an (code Tryz.f72) 396 [0, 0, 1, 0, 1, 1]) (kont3 Tryz.prog ref04_Found_an (code Tryz.f72) [1, 1, 0, 1, 0] [] (post3 Tryz.prog Tryz.f72 [] R)) (ref04_Found_v1 a2 a0 a3 a4 a1 a5 0) (ref04_Found_m1) w)
theorem ref04_Found_eq (a0 : Option Addr) (a2 a1 : Nat) (a3 : Option Addr) (a5 a4 : Nat) (R : Value → World → Prop) (w : World) :
 dnF Tryz.prog ref04_Found_an (code Tryz.f72) 400 [] (post3 Tryz.prog Tryz.f72 [] R) ⟨args0 0 [.slice a0 a2 a1, .slice a3 a5 a4], fun _ => undef⟩ ⟨[], w, [], [], true⟩ = ref04_Found_T a0 a2 a1 a3 a5 a4 R w := by kernel_rfl
theorem ref04_Found_go {a0 : Option Addr} {a2 a1 : Nat} {a3 : Option Addr} {a5 a4 : Nat} {R : Value → World → Prop} {w : World} (h : ref04_Found_T a0 a2 a1 a3 a5 a4 R w) :
 Calls Tryz.prog 72 #[.slice a0 a2 a1, .slice a3 a5 a4] w fun e w' => ∃ v, e = .returned v ∧ R v w' :=
 calls_none Tryz.wide_mixed (f := 72) (args := [.slice a0 a2 a1, .slice a3 a5 a4]) Tryz.func72 rfl rfl (by kernel_rfl) rfl (Eq.mpr (ref04_Found_eq a0 a2 a1 a3 a5 a4 R w) h)
def ref04_Parts_la1 : LA := ⟨[0, 0, 1, 0, 1, 1], [0, 1, 5], [], 0, []⟩
def ref04_Parts_an : List LA := [ref04_Parts_la1]
def ref04_Parts_v1 (a0 : Option Addr) (a4 a2 : Nat) (a1 : Option Addr) (a5 a3 : Nat) (a6 : Int) : List Value := [.slice a0 a4 a2, .slice a1 a5 a3, .int .i64 a6]
def ref04_Parts_m1 : List TB := []
def ref04_Parts_L1 (a2 : Option Addr) (a1 a5 : Nat) (a3 : Option Addr) (a4 a6 : Nat) (a0 : Int) (K1 : Kh) (R : Value → World → Prop) (w : World) : Prop :=
 brB (decide (a0 < (a1 : Int))) (
 ixA a2 a1 a0 2 fun q1 =>
 ldStr w q1 fun s2 => ldInt .i64 w (Addr.add q1 1) fun x3 =>
 ixA a3 a4 a0 2 fun q4 =>
 ldStr w q4 fun s5 => ldInt .i64 w (Addr.add q4 1) fun x6 =>
 ∃ t7 : Bool, (∀ w', Mod [] w w' → Sem.run Tryz.prog (do eqGuard .neq 32 (.tmp 20) (.tmp 24) (.agg #[.string s2, .int .i64 x3]) (.agg #[.string s5, .int .i64 x6]); Go.binOp .neq 32 (.agg #[.string s2, .int .i64 x3]) (.agg #[.string s5, .int .i64 x6])) w' = .ok (.bool t7) w') ∧
 brB t7 (
 ∀ w8, Adv [] [] w w8 →
 R (.bool false) w8)
 (
 ∀ w9, Adv [] [] w w9 →
 K1 (ref04_Parts_v1 a2 a1 a5 a3 a4 a6 (IntKind.wrap .i64 (a0 + 1))) (ref04_Parts_m1) w9))
 (
 R (.bool true) w)
theorem ref04_Parts_L1_eq (a0 : Option Addr) (a4 a2 : Nat) (a1 : Option Addr) (a5 a3 : Nat) (a6 : Int) (K1 : Kh) (js : Nat → Value) (R : Value → World → Prop) (w : World) :
 headA ref04_Parts_la1 ((dnF Tryz.prog ref04_Parts_an (code Tryz.f73) 396 [0, 0, 1, 0, 1, 1]) (kthen3 (atA ref04_Parts_la1 K1) (kont3 Tryz.prog ref04_Parts_an (code Tryz.f73) [1, 1, 0, 1, 0] [] (post3 Tryz.prog Tryz.f73 [] R)))) (ref04_Parts_v1 a0 a4 a2 a1 a5 a3 a6) js (ref04_Parts_m1) w = ref04_Parts_L1 a0 a4 a2 a1 a5 a3 a6 K1 R w := by kernel_rfl
def ref04_Parts_K1 (a1 : Option Addr) (a5 a3 : Nat) (a2 : Option Addr) (a6 a4 : Nat) (I : Nat → Int → World → Prop) (m : Nat) (vals : List Value) (mem : List TB) (w : World) : Prop := ∃ m', m' < m ∧ ∃ a0, vals = (ref04_Parts_v1 a1 a5 a3 a2 a6 a4 a0) ∧ mem = (ref04_Parts_m1) ∧ I m' a0 w
theorem ref04_Parts_leaf1 {a0 : Option Addr} {a4 a2 : Nat} {a1 : Option Addr} {a5 a3 : Nat} {I : Nat → Int → World → Prop} {m : Nat} {a6 : Int} {w : World} (m' : Nat) (h1 : m' < m) (h2 : I m' a6 w) : ref04_Parts_K1 a0 a4 a2 a1 a5 a3 I m (ref04_Parts_v1 a0 a4 a2 a1 a5 a3 a6) (ref04_Parts_m1) w := ⟨m', h1, _, rfl, rfl, h2⟩
theorem ref04_Parts_rule1 {a1 : Option Addr} {a5 a3 : Nat} {a2 : Option Addr} {a6 a4 : Nat} {a7 : Int} {R : Value → World → Prop} {w0 : World} (I : Nat → Int → World → Prop) (m0 : Nat) (h0 : I m0 a7 w0)
 (hr : ∀ (m : Nat) (a0 : Int) (w : World), I m a0 w → ref04_Parts_L1 a1 a5 a3 a2 a6 a4 a0 (ref04_Parts_K1 a1 a5 a3 a2 a6 a4 I m) R w) :
 loopD3 ref04_Parts_la1 (dnF Tryz.prog ref04_Parts_an (code Tryz.f73) 396 [0, 0, 1, 0, 1, 1]) (kont3 Tryz.prog ref04_Parts_an (code Tryz.f73) [1, 1, 0, 1, 0] [] (post3 Tryz.prog Tryz.f73 [] R)) (ref04_Parts_v1 a1 a5 a3 a2 a6 a4 a7) (ref04_Parts_m1) w0 := by
 refine ⟨fun m vals mem w => ∃ a0, vals = (ref04_Parts_v1 a1 a5 a3 a2 a6 a4 a0) ∧ mem = (ref04_Parts_m1) ∧ I m a0 w, m0, ⟨_, rfl, rfl, h0⟩, ?_⟩
 rintro m vals mem w ⟨a0, rfl, rfl, hI⟩
 refine ⟨rfl, rfl, fun js => ?_⟩
 have h := hr m a0 w hI
 rw [← ref04_Parts_L1_eq _ _ _ _ _ _ _ _ js] at h
 exact h
def ref04_Parts_T (a2 : Option Addr) (a0 a3 : Nat) (a4 : Option Addr) (a1 a5 : Nat) (R : Value → World → Prop) (w : World) : Prop :=
 brB ((a0 : Int) != (a1 : Int)) (
 R (.bool false) w)
 (
 loopD3 ref04_Parts_la1 (dnF Tryz.prog ref04_Parts_an (code Tryz.f73) 396 [0, 0, 1, 0, 1, 1]) (kont3 Tryz.prog ref04_Parts_an (code Tryz.f73) [1, 1, 0, 1, 0] [] (post3 Tryz.prog Tryz.f73 [] R)) (ref04_Parts_v1 a2 a0 a3 a4 a1 a5 0) (ref04_Parts_m1) w)
theorem ref04_Parts_eq (a0 : Option Addr) (a2 a1 : Nat) (a3 : Option Addr) (a5 a4 : Nat) (R : Value → World → Prop) (w : World) :
 dnF Tryz.prog ref04_Parts_an (code Tryz.f73) 400 [] (post3 Tryz.prog Tryz.f73 [] R) ⟨args0 0 [.slice a0 a2 a1, .slice a3 a5 a4], fun _ => undef⟩ ⟨[], w, [], [], true⟩ = ref04_Parts_T a0 a2 a1 a3 a5 a4 R w := by kernel_rfl
theorem ref04_Parts_go {a0 : Option Addr} {a2 a1 : Nat} {a3 : Option Addr} {a5 a4 : Nat} {R : Value → World → Prop} {w : World} (h : ref04_Parts_T a0 a2 a1 a3 a5 a4 R w) :
 Calls Tryz.prog 73 #[.slice a0 a2 a1, .slice a3 a5 a4] w fun e w' => ∃ v, e = .returned v ∧ R v w' :=
 calls_none Tryz.wide_mixed (f := 73) (args := [.slice a0 a2 a1, .slice a3 a5 a4]) Tryz.func73 rfl rfl (by kernel_rfl) rfl (Eq.mpr (ref04_Parts_eq a0 a2 a1 a3 a5 a4 R w) h)
def ref04_Alike_an : List LA := []
def ref04_Alike_T (b4 b5 b6 b7 : Int) (a0 : Option Addr) (a2 a1 : Nat) (a3 : Option Addr) (a5 a4 : Nat) (b8 b9 c0 c1 : Int) (a6 : Option Addr) (a8 a7 : Nat) (a9 : Option Addr) (b3 b0 : Nat) (R : Value → World → Prop) (w : World) : Prop :=
 ∀ b1, w.heap.size ≤ b1 →
 ∀ b2, w.heap.size ≤ b2 →
 brB (b4 == b8) (
 brB (b5 == b9) (
 brB (b6 == c0) (
 brB (b7 == c1) (
 ∀ w3, Adv [] [b2, b1] w w3 →
 Calls Tryz.prog 72 #[.slice a0 a2 a1, .slice a6 a8 a7] w3 fun e w4 => ∃ t5 : Bool, e = .returned (.bool t5) ∧ Keep [b1, b2] w3 w4 ∧
 brB t5 (
 Calls Tryz.prog 73 #[.slice a3 a5 a4, .slice a9 b3 b0] w4 fun e w6 => ∃ t7 : Bool, e = .returned (.bool t7) ∧ Keep [b1, b2] w4 w6 ∧
 R (.bool t7) w6)
 (
 R (.bool false) w4))
 (
 ∀ w8, Adv [] [b2, b1] w w8 →
 R (.bool false) w8))
 (
 ∀ w9, Adv [] [b2, b1] w w9 →
 R (.bool false) w9))
 (
 ∀ w10, Adv [] [b2, b1] w w10 →
 R (.bool false) w10))
 (
 ∀ w11, Adv [] [b2, b1] w w11 →
 R (.bool false) w11)
theorem ref04_Alike_eq (b2 b3 b4 b5 : Int) (a0 : Option Addr) (a2 a1 : Nat) (a3 : Option Addr) (a5 a4 : Nat) (b6 b7 b8 b9 : Int) (a6 : Option Addr) (a8 a7 : Nat) (a9 : Option Addr) (b1 b0 : Nat) (R : Value → World → Prop) (w : World) :
 dnF Tryz.prog ref04_Alike_an (code Tryz.f23) 400 [] (post3 Tryz.prog Tryz.f23 [] R) ⟨args0 0 [(.agg #[.int .i64 b2, .int .i64 b3, .int .i64 b4, .int .i64 b5, .slice a0 a2 a1, .slice a3 a5 a4]), (.agg #[.int .i64 b6, .int .i64 b7, .int .i64 b8, .int .i64 b9, .slice a6 a8 a7, .slice a9 b1 b0])], fun _ => undef⟩ ⟨[], w, [], [], true⟩ = ref04_Alike_T b2 b3 b4 b5 a0 a2 a1 a3 a5 a4 b6 b7 b8 b9 a6 a8 a7 a9 b1 b0 R w := by kernel_rfl
theorem ref04_Alike_go {b2 b3 b4 b5 : Int} {a0 : Option Addr} {a2 a1 : Nat} {a3 : Option Addr} {a5 a4 : Nat} {b6 b7 b8 b9 : Int} {a6 : Option Addr} {a8 a7 : Nat} {a9 : Option Addr} {b1 b0 : Nat} {R : Value → World → Prop} {w : World} (h : ref04_Alike_T b2 b3 b4 b5 a0 a2 a1 a3 a5 a4 b6 b7 b8 b9 a6 a8 a7 a9 b1 b0 R w) :
 Calls Tryz.prog 23 #[(.agg #[.int .i64 b2, .int .i64 b3, .int .i64 b4, .int .i64 b5, .slice a0 a2 a1, .slice a3 a5 a4]), (.agg #[.int .i64 b6, .int .i64 b7, .int .i64 b8, .int .i64 b9, .slice a6 a8 a7, .slice a9 b1 b0])] w fun e w' => ∃ v, e = .returned v ∧ R v w' :=
 calls_none Tryz.wide_mixed (f := 23) (args := [(.agg #[.int .i64 b2, .int .i64 b3, .int .i64 b4, .int .i64 b5, .slice a0 a2 a1, .slice a3 a5 a4]), (.agg #[.int .i64 b6, .int .i64 b7, .int .i64 b8, .int .i64 b9, .slice a6 a8 a7, .slice a9 b1 b0])]) Tryz.func23 rfl rfl (by kernel_rfl) rfl (Eq.mpr (ref04_Alike_eq b2 b3 b4 b5 a0 a2 a1 a3 a5 a4 b6 b7 b8 b9 a6 a8 a7 a9 b1 b0 R w) h)
def slices_Clone_api_Found_api_Found_an : List LA := []
def slices_Clone_api_Found_api_Found_T (a0 : Option Addr) (a2 a1 : Nat) (R : Value → World → Prop) (w : World) : Prop :=
 brB (Option.isNone a0) (
 R (.slice none 0 0) w)
 (
 al w (.cells #[] 152) fun b1 w2 =>
 effSl Tryz.prog (Builtin.append_ #[40, 40] 40 #[(.slice (some ⟨b1, 0, none⟩) 0 0), .slice a0 a2 a1]) w2 fun a4 n5 c6 w3 =>
 R (.slice a4 n5 c6) w3)
theorem slices_Clone_api_Found_api_Found_eq (a0 : Option Addr) (a2 a1 : Nat) (R : Value → World → Prop) (w : World) :
 dnF Tryz.prog slices_Clone_api_Found_api_Found_an (code Tryz.f117) 400 [] (post3 Tryz.prog Tryz.f117 [] R) ⟨args0 0 [.slice a0 a2 a1], fun _ => undef⟩ ⟨[], w, [], [], true⟩ = slices_Clone_api_Found_api_Found_T a0 a2 a1 R w := by kernel_rfl
theorem slices_Clone_api_Found_api_Found_go {a0 : Option Addr} {a2 a1 : Nat} {R : Value → World → Prop} {w : World} (h : slices_Clone_api_Found_api_Found_T a0 a2 a1 R w) :
 Calls Tryz.prog 117 #[.slice a0 a2 a1] w fun e w' => ∃ v, e = .returned v ∧ R v w' :=
 calls_none Tryz.wide_mixed (f := 117) (args := [.slice a0 a2 a1]) Tryz.func117 rfl rfl (by kernel_rfl) rfl (Eq.mpr (slices_Clone_api_Found_api_Found_eq a0 a2 a1 R w) h)
def slices_Clone_api_Part_api_Part_an : List LA := []
def slices_Clone_api_Part_api_Part_T (a0 : Option Addr) (a2 a1 : Nat) (R : Value → World → Prop) (w : World) : Prop :=
 brB (Option.isNone a0) (
 R (.slice none 0 0) w)
 (
 al w (.cells #[] 32) fun b1 w2 =>
 effSl Tryz.prog (Builtin.append_ #[41, 41] 41 #[(.slice (some ⟨b1, 0, none⟩) 0 0), .slice a0 a2 a1]) w2 fun a4 n5 c6 w3 =>
 R (.slice a4 n5 c6) w3)
theorem slices_Clone_api_Part_api_Part_eq (a0 : Option Addr) (a2 a1 : Nat) (R : Value → World → Prop) (w : World) :
 dnF Tryz.prog slices_Clone_api_Part_api_Part_an (code Tryz.f118) 400 [] (post3 Tryz.prog Tryz.f118 [] R) ⟨args0 0 [.slice a0 a2 a1], fun _ => undef⟩ ⟨[], w, [], [], true⟩ = slices_Clone_api_Part_api_Part_T a0 a2 a1 R w := by kernel_rfl
theorem slices_Clone_api_Part_api_Part_go {a0 : Option Addr} {a2 a1 : Nat} {R : Value → World → Prop} {w : World} (h : slices_Clone_api_Part_api_Part_T a0 a2 a1 R w) :
 Calls Tryz.prog 118 #[.slice a0 a2 a1] w fun e w' => ∃ v, e = .returned v ∧ R v w' :=
 calls_none Tryz.wide_mixed (f := 118) (args := [.slice a0 a2 a1]) Tryz.func118 rfl rfl (by kernel_rfl) rfl (Eq.mpr (slices_Clone_api_Part_api_Part_eq a0 a2 a1 R w) h)
def request_Name_an : List LA := []
def request_Name_T (a0 : ByteArray) (R : Value → World → Prop) (w : World) : Prop :=
 brB (!(a0.toList == (⟨#[]⟩ : ByteArray).toList)) (
 brB (decide ((a0.size : Int) ≤ 16)) (
 Calls Tryz.prog 171 #[.string a0, (.func (.func 170) #[] #[])] w fun e w1 => ∃ t2 : Bool, e = .returned (.bool t2) ∧
 R (.bool (!t2)) w1)
 (
 R (.bool false) w))
 (
 R (.bool false) w)
theorem request_Name_eq (a0 : ByteArray) (R : Value → World → Prop) (w : World) :
 dnF Tryz.prog request_Name_an (code Tryz.f163) 400 [] (post3 Tryz.prog Tryz.f163 [] R) ⟨args0 0 [.string a0], fun _ => undef⟩ ⟨[], w, [], [], true⟩ = request_Name_T a0 R w := by kernel_rfl
theorem request_Name_go {a0 : ByteArray} {R : Value → World → Prop} {w : World} (h : request_Name_T a0 R w) :
 Calls Tryz.prog 163 #[.string a0] w fun e w' => ∃ v, e = .returned v ∧ R v w' :=
 calls_none Tryz.wide_mixed (f := 163) (args := [.string a0]) Tryz.func163 rfl rfl (by kernel_rfl) rfl (Eq.mpr (request_Name_eq a0 R w) h)
def request_Name_1_an : List LA := []
def request_Name_1_T (a0 : Int) (R : Value → World → Prop) (w : World) : Prop :=
 brB (decide (a0 < 97)) (
 brB (decide (a0 < 48)) (
 R (.bool (a0 != 45)) w)
 (
 brB (decide (a0 > 57)) (
 R (.bool (a0 != 45)) w)
 (
 R (.bool false) w)))
 (
 brB (decide (a0 > 122)) (
 brB (decide (a0 < 48)) (
 R (.bool (a0 != 45)) w)
 (
 brB (decide (a0 > 57)) (
 R (.bool (a0 != 45)) w)
 (
 R (.bool false) w)))
 (
 R (.bool false) w))
theorem request_Name_1_eq (a0 : Int) (R : Value → World → Prop) (w : World) :
 dnF Tryz.prog request_Name_1_an (code Tryz.f170) 400 [] (post3 Tryz.prog Tryz.f170 [] R) ⟨args0 0 [.int .i32 a0], fun _ => undef⟩ ⟨[], w, [], [], true⟩ = request_Name_1_T a0 R w := by kernel_rfl
theorem request_Name_1_go {a0 : Int} {R : Value → World → Prop} {w : World} (h : request_Name_1_T a0 R w) :
 Calls Tryz.prog 170 #[.int .i32 a0] w fun e w' => ∃ v, e = .returned v ∧ R v w' :=
 calls_none Tryz.wide_mixed (f := 170) (args := [.int .i32 a0]) Tryz.func170 rfl rfl (by kernel_rfl) rfl (Eq.mpr (request_Name_1_eq a0 R w) h)
def request_check_la1 : LA := ⟨[1, 1], [1, 3], [(1, 0, 0)], 1, []⟩
def request_check_la2 : LA := ⟨[0, 0, 1, 0, 1, 1, 1], [1, 3, 4, 28, 29, 30], [(1, 0, 0)], 1, []⟩
def request_check_la3 : LA := ⟨[0, 0, 1, 0, 1, 1, 1, 1], [1, 3, 4, 49, 50, 51], [(1, 0, 0)], 1, []⟩
def request_check_an : List LA := [request_check_la1, request_check_la2, request_check_la3]
def request_check_v1 (a0 : Bool) (bm0 : Nat) : List Value := [(.pointer (some ⟨bm0, 0, none⟩)), .bool a0]
def request_check_m1 (bm0 : Nat) (a6 a7 a8 a9 : Int) (a0 : Option Addr) (a4 a2 : Nat) (a1 : Option Addr) (a5 a3 : Nat) : List TB := [⟨bm0, 43, [.int .i64 a6, .int .i64 a7, .int .i64 a8, .int .i64 a9, .slice a0 a4 a2, .slice a1 a5 a3], false⟩]
def request_check_v2 (a0 : Option Addr) (a2 a1 : Nat) (a3 : Int) (bm0 : Nat) (a5 a6 : Bool) (a4 : Int) : List Value := [(.pointer (some ⟨bm0, 0, none⟩)), .bool a5, .bool a6, .slice a0 a2 a1, .int .i64 a3, .int .i64 a4]
def request_check_m2 (bm0 : Nat) (a6 a7 a8 a9 : Int) (a0 : Option Addr) (a4 a2 : Nat) (a1 : Option Addr) (a5 a3 : Nat) : List TB := [⟨bm0, 43, [.int .i64 a6, .int .i64 a7, .int .i64 a8, .int .i64 a9, .slice a0 a4 a2, .slice a1 a5 a3], false⟩]
def request_check_v3 (a0 : Option Addr) (a2 a1 : Nat) (a3 : Int) (bm0 : Nat) (a5 a6 : Bool) (a4 : Int) : List Value := [(.pointer (some ⟨bm0, 0, none⟩)), .bool a5, .bool a6, .slice a0 a2 a1, .int .i64 a3, .int .i64 a4]
def request_check_m3 (bm0 : Nat) (a6 a7 a8 a9 : Int) (a0 : Option Addr) (a4 a2 : Nat) (a1 : Option Addr) (a5 a3 : Nat) : List TB := [⟨bm0, 43, [.int .i64 a6, .int .i64 a7, .int .i64 a8, .int .i64 a9, .slice a0 a4 a2, .slice a1 a5 a3], false⟩]
def request_check_C1 (b0 : Bool) (bm0 : Nat) (a6 a7 a8 a9 : Int) (a1 : Option Addr) (a0 a2 : Nat) (a3 : Option Addr) (a5 a4 : Nat) (R : Value → World → Prop) (w : World) : Prop :=
 loopD3 request_check_la2 (dnF Tryz.prog request_check_an (code Tryz.f146) 395 [0, 0, 1, 0, 1, 1, 1]) (kont3 Tryz.prog request_check_an (code Tryz.f146) [1, 1, 1, 0, 1, 0] [] (post3 Tryz.prog Tryz.f146 [] R)) (request_check_v2 a1 a0 a2 (a0 : Int) bm0 b0 false 0) (request_check_m2 bm0 a6 a7 a8 a9 a1 a0 a2 a3 a5 a4) w
theorem request_check_C1_eq (b0 : Bool) (bm0 : Nat) (a6 a7 a8 a9 : Int) (a0 : Option Addr) (a4 a2 : Nat) (a1 : Option Addr) (a5 a3 : Nat) (js : Nat → Value) (R : Value → World → Prop) (w : World) :
 headA request_check_la1 ((dnF Tryz.prog request_check_an (code Tryz.f146) 398 [1, 1]) (kont3 Tryz.prog request_check_an (code Tryz.f146) [1] [] (post3 Tryz.prog Tryz.f146 [] R))) (request_check_v1 b0 bm0) js (request_check_m1 bm0 a6 a7 a8 a9 a0 a4 a2 a1 a5 a3) w = request_check_C1 b0 bm0 a6 a7 a8 a9 a0 a4 a2 a1 a5 a3 R w := by kernel_rfl
theorem request_check_cut1 {c1 : Bool} {bm00 : Nat} {b7 b8 b9 c0 : Int} {b1 : Option Addr} {b5 b3 : Nat} {b2 : Option Addr} {b6 b4 : Nat} {R : Value → World → Prop} {w0 : World} (J : Bool → Nat → Int → Int → Int → Int → Option Addr → Nat → Nat → Option Addr → Nat → Nat → World → Prop) (h0 : J c1 bm00 b7 b8 b9 c0 b1 b5 b3 b2 b6 b4 w0)
 (hr : ∀ (b0 : Bool) (bm0 : Nat) (a6 a7 a8 a9 : Int) (a0 : Option Addr) (a4 a2 : Nat) (a1 : Option Addr) (a5 a3 : Nat) (w : World), J b0 bm0 a6 a7 a8 a9 a0 a4 a2 a1 a5 a3 w → request_check_C1 b0 bm0 a6 a7 a8 a9 a0 a4 a2 a1 a5 a3 R w) :
 cutD3 request_check_la1 ((dnF Tryz.prog request_check_an (code Tryz.f146) 398 [1, 1]) (kont3 Tryz.prog request_check_an (code Tryz.f146) [1] [] (post3 Tryz.prog Tryz.f146 [] R))) (request_check_v1 c1 bm00) (request_check_m1 bm00 b7 b8 b9 c0 b1 b5 b3 b2 b6 b4) w0 := by
 refine ⟨fun vals mem w => ∃ b0 bm0 a6 a7 a8 a9 a0 a4 a2 a1 a5 a3, vals = (request_check_v1 b0 bm0) ∧ mem = (request_check_m1 bm0 a6 a7 a8 a9 a0 a4 a2 a1 a5 a3) ∧ J b0 bm0 a6 a7 a8 a9 a0 a4 a2 a1 a5 a3 w, ⟨_, _, _, _, _, _, _, _, _, _, _, _, rfl, rfl, h0⟩, ?_⟩
 rintro vals mem w ⟨b0, bm0, a6, a7, a8, a9, a0, a4, a2, a1, a5, a3, rfl, rfl, hJ⟩
 refine ⟨rfl, rfl, fun js => ?_⟩
 have h := hr b0 bm0 a6 a7 a8 a9 a0 a4 a2 a1 a5 a3 w hJ
 rw [← request_check_C1_eq _ _ _ _ _ _ _ _ _ _ _ _ js] at h
 exact h
def request_check_L2 (b1 : Option Addr) (b2 b4 : Nat) (b3 : Int) (bm0 : Nat) (a6 a7 a8 a9 : Int) (a3 : Option Addr) (a5 a4 : Nat) (a1 : Option Addr) (a0 a2 : Nat) (b6 b5 : Bool) (b0 : Int) (K2 : Kh) (R : Value → World → Prop) (w : World) : Prop :=
 brB (decide (b0 < b3)) (
 ixA b1 b2 b0 5 fun q11 =>
 ldInt .i64 w q11 fun x12 => ldBool w (Addr.add q11 1) fun t13 => ldStr w (Addr.add q11 2) fun s14 => ldBool w (Addr.add q11 3) fun t15 => ldStr w (Addr.add q11 4) fun s16 =>
 ∀ b17, w.heap.size ≤ b17 →
 brB b6 (
 ∀ w18, Adv [] [b17] w w18 →
 Calls Tryz.prog 161 #[.int .i64 x12] w18 fun e w19 => ∃ t20 : Bool, e = .returned (.bool t20) ∧ Keep [bm0, b17] w18 w19 ∧
 brB b5 (
 K2 (request_check_v2 b1 b2 b4 b3 bm0 t20 true (IntKind.wrap .i64 (b0 + 1))) (request_check_m2 bm0 a6 a7 a8 a9 a3 a5 a4 a1 a0 a2) w19)
 (
 Calls Tryz.prog 162 #[(.agg #[.bool t13, .string s14, .bool t15, .string s16])] w19 fun e w21 => ∃ x22 : Int, e = .returned (.int .i64 x22) ∧ Keep [bm0, b17] w19 w21 ∧
 K2 (request_check_v2 b1 b2 b4 b3 bm0 t20 (x22 != 0) (IntKind.wrap .i64 (b0 + 1))) (request_check_m2 bm0 a6 a7 a8 a9 a3 a5 a4 a1 a0 a2) w21))
 (
 brB b5 (
 ∀ w23, Adv [] [b17] w w23 →
 K2 (request_check_v2 b1 b2 b4 b3 bm0 false true (IntKind.wrap .i64 (b0 + 1))) (request_check_m2 bm0 a6 a7 a8 a9 a3 a5 a4 a1 a0 a2) w23)
 (
 ∀ w24, Adv [] [b17] w w24 →
 Calls Tryz.prog 162 #[(.agg #[.bool t13, .string s14, .bool t15, .string s16])] w24 fun e w25 => ∃ x26 : Int, e = .returned (.int .i64 x26) ∧ Keep [bm0, b17] w24 w25 ∧
 K2 (request_check_v2 b1 b2 b4 b3 bm0 false (x26 != 0) (IntKind.wrap .i64 (b0 + 1))) (request_check_m2 bm0 a6 a7 a8 a9 a3 a5 a4 a1 a0 a2) w25)))
 (
 loopD3 request_check_la3 (dnF Tryz.prog request_check_an (code Tryz.f146) 394 [0, 0, 1, 0, 1, 1, 1, 1]) (kont3 Tryz.prog request_check_an (code Tryz.f146) [1, 1, 1, 1, 0, 1, 0] [] (post3 Tryz.prog Tryz.f146 [] R)) (request_check_v3 a1 a0 a2 (a0 : Int) bm0 b6 b5 0) (request_check_m3 bm0 a6 a7 a8 a9 a3 a5 a4 a1 a0 a2) w)
theorem request_check_L2_eq (b0 : Option Addr) (b2 b1 : Nat) (b3 : Int) (bm0 : Nat) (a6 a7 a8 a9 : Int) (a0 : Option Addr) (a4 a2 : Nat) (a1 : Option Addr) (a5 a3 : Nat) (b5 b6 : Bool) (b4 : Int) (K2 : Kh) (js : Nat → Value) (R : Value → World → Prop) (w : World) :
 headA request_check_la2 ((dnF Tryz.prog request_check_an (code Tryz.f146) 395 [0, 0, 1, 0, 1, 1, 1]) (kthen3 (atA request_check_la2 K2) (kont3 Tryz.prog request_check_an (code Tryz.f146) [1, 1, 1, 0, 1, 0] [] (post3 Tryz.prog Tryz.f146 [] R)))) (request_check_v2 b0 b2 b1 b3 bm0 b5 b6 b4) js (request_check_m2 bm0 a6 a7 a8 a9 a0 a4 a2 a1 a5 a3) w = request_check_L2 b0 b2 b1 b3 bm0 a6 a7 a8 a9 a0 a4 a2 a1 a5 a3 b5 b6 b4 K2 R w := by kernel_rfl
def request_check_K2 (b3 : Option Addr) (b5 b4 : Nat) (b6 : Int) (bm0 : Nat) (a7 a8 a9 b0 : Int) (a0 : Option Addr) (a4 a2 : Nat) (a1 : Option Addr) (a5 a3 : Nat) (I : Nat → Bool → Bool → Int → World → Prop) (m : Nat) (vals : List Value) (mem : List TB) (w : World) : Prop := ∃ m', m' < m ∧ ∃ b1 b2 a6, vals = (request_check_v2 b3 b5 b4 b6 bm0 b1 b2 a6) ∧ mem = (request_check_m2 bm0 a7 a8 a9 b0 a0 a4 a2 a1 a5 a3) ∧ I m' b1 b2 a6 w
theorem request_check_leaf2 {b0 : Option Addr} {b2 b1 : Nat} {b3 : Int} {bm0 : Nat} {a6 a7 a8 a9 : Int} {a0 : Option Addr} {a4 a2 : Nat} {a1 : Option Addr} {a5 a3 : Nat} {I : Nat → Bool → Bool → Int → World → Prop} {m : Nat} {b5 b6 : Bool} {b4 : Int} {w : World} (m' : Nat) (h1 : m' < m) (h2 : I m' b5 b6 b4 w) : request_check_K2 b0 b2 b1 b3 bm0 a6 a7 a8 a9 a0 a4 a2 a1 a5 a3 I m (request_check_v2 b0 b2 b1 b3 bm0 b5 b6 b4) (request_check_m2 bm0 a6 a7 a8 a9 a0 a4 a2 a1 a5 a3) w := ⟨m', h1, _, _, _, rfl, rfl, h2⟩
theorem request_check_rule2 {b3 : Option Addr} {b5 b4 : Nat} {b6 : Int} {bm0 : Nat} {a7 a8 a9 b0 : Int} {a1 : Option Addr} {a5 a3 : Nat} {a2 : Option Addr} {a6 a4 : Nat} {b8 b9 : Bool} {b7 : Int} {R : Value → World → Prop} {w0 : World} (I : Nat → Bool → Bool → Int → World → Prop) (m0 : Nat) (h0 : I m0 b8 b9 b7 w0)
 (hr : ∀ (m : Nat) (b1 b2 : Bool) (a0 : Int) (w : World), I m b1 b2 a0 w → request_check_L2 b3 b5 b4 b6 bm0 a7 a8 a9 b0 a1 a5 a3 a2 a6 a4 b1 b2 a0 (request_check_K2 b3 b5 b4 b6 bm0 a7 a8 a9 b0 a1 a5 a3 a2 a6 a4 I m) R w) :
 loopD3 request_check_la2 (dnF Tryz.prog request_check_an (code Tryz.f146) 395 [0, 0, 1, 0, 1, 1, 1]) (kont3 Tryz.prog request_check_an (code Tryz.f146) [1, 1, 1, 0, 1, 0] [] (post3 Tryz.prog Tryz.f146 [] R)) (request_check_v2 b3 b5 b4 b6 bm0 b8 b9 b7) (request_check_m2 bm0 a7 a8 a9 b0 a1 a5 a3 a2 a6 a4) w0 := by
 refine ⟨fun m vals mem w => ∃ b1 b2 a0, vals = (request_check_v2 b3 b5 b4 b6 bm0 b1 b2 a0) ∧ mem = (request_check_m2 bm0 a7 a8 a9 b0 a1 a5 a3 a2 a6 a4) ∧ I m b1 b2 a0 w, m0, ⟨_, _, _, rfl, rfl, h0⟩, ?_⟩
 rintro m vals mem w ⟨b1, b2, a0, rfl, rfl, hI⟩
 refine ⟨rfl, rfl, fun js => ?_⟩
 have h := hr m b1 b2 a0 w hI
 rw [← request_check_L2_eq _ _ _ _ _ _ _ _ _ _ _ _ _ _ _ _ _ _ _ js] at h
 exact h
def request_check_L3 (b1 : Option Addr) (b2 b4 : Nat) (b3 : Int) (bm0 : Nat) (a6 a7 a8 a9 : Int) (a2 : Option Addr) (a0 a4 : Nat) (a3 : Option Addr) (a1 a5 : Nat) (b6 b5 : Bool) (b0 : Int) (K3 : Kh) (R : Value → World → Prop) (w : World) : Prop :=
 brB (decide (b0 < b3)) (
 ixA b1 b2 b0 2 fun q27 =>
 ldStr w q27 fun s28 => ldInt .i64 w (Addr.add q27 1) fun x29 =>
 ∀ b30, w.heap.size ≤ b30 →
 brB b6 (
 ∀ w31, Adv [] [b30] w w31 →
 Calls Tryz.prog 161 #[.int .i64 x29] w31 fun e w32 => ∃ t33 : Bool, e = .returned (.bool t33) ∧ Keep [bm0, b30] w31 w32 ∧
 brB b5 (
 K3 (request_check_v3 b1 b2 b4 b3 bm0 t33 true (IntKind.wrap .i64 (b0 + 1))) (request_check_m3 bm0 a6 a7 a8 a9 a2 a0 a4 a3 a1 a5) w32)
 (
 Calls Tryz.prog 163 #[.string s28] w32 fun e w34 => ∃ t35 : Bool, e = .returned (.bool t35) ∧ Keep [bm0, b30] w32 w34 ∧
 K3 (request_check_v3 b1 b2 b4 b3 bm0 t33 (!t35) (IntKind.wrap .i64 (b0 + 1))) (request_check_m3 bm0 a6 a7 a8 a9 a2 a0 a4 a3 a1 a5) w34))
 (
 brB b5 (
 ∀ w36, Adv [] [b30] w w36 →
 K3 (request_check_v3 b1 b2 b4 b3 bm0 false true (IntKind.wrap .i64 (b0 + 1))) (request_check_m3 bm0 a6 a7 a8 a9 a2 a0 a4 a3 a1 a5) w36)
 (
 ∀ w37, Adv [] [b30] w w37 →
 Calls Tryz.prog 163 #[.string s28] w37 fun e w38 => ∃ t39 : Bool, e = .returned (.bool t39) ∧ Keep [bm0, b30] w37 w38 ∧
 K3 (request_check_v3 b1 b2 b4 b3 bm0 false (!t39) (IntKind.wrap .i64 (b0 + 1))) (request_check_m3 bm0 a6 a7 a8 a9 a2 a0 a4 a3 a1 a5) w38)))
 (
 brB (!b6) (
 R (.int .i64 1) w)
 (
 brB (decide ((a0 : Int) > 64)) (
 R (.int .i64 2) w)
 (
 brB (decide ((a1 : Int) > 64)) (
 R (.int .i64 2) w)
 (
 brB b5 (
 R (.int .i64 40) w)
 (
 R (.int .i64 0) w)))))
theorem request_check_L3_eq (b0 : Option Addr) (b2 b1 : Nat) (b3 : Int) (bm0 : Nat) (a6 a7 a8 a9 : Int) (a0 : Option Addr) (a4 a2 : Nat) (a1 : Option Addr) (a5 a3 : Nat) (b5 b6 : Bool) (b4 : Int) (K3 : Kh) (js : Nat → Value) (R : Value → World → Prop) (w : World) :
 headA request_check_la3 ((dnF Tryz.prog request_check_an (code Tryz.f146) 394 [0, 0, 1, 0, 1, 1, 1, 1]) (kthen3 (atA request_check_la3 K3) (kont3 Tryz.prog request_check_an (code Tryz.f146) [1, 1, 1, 1, 0, 1, 0] [] (post3 Tryz.prog Tryz.f146 [] R)))) (request_check_v3 b0 b2 b1 b3 bm0 b5 b6 b4) js (request_check_m3 bm0 a6 a7 a8 a9 a0 a4 a2 a1 a5 a3) w = request_check_L3 b0 b2 b1 b3 bm0 a6 a7 a8 a9 a0 a4 a2 a1 a5 a3 b5 b6 b4 K3 R w := by kernel_rfl
def request_check_K3 (b3 : Option Addr) (b5 b4 : Nat) (b6 : Int) (bm0 : Nat) (a7 a8 a9 b0 : Int) (a0 : Option Addr) (a4 a2 : Nat) (a1 : Option Addr) (a5 a3 : Nat) (I : Nat → Bool → Bool → Int → World → Prop) (m : Nat) (vals : List Value) (mem : List TB) (w : World) : Prop := ∃ m', m' < m ∧ ∃ b1 b2 a6, vals = (request_check_v3 b3 b5 b4 b6 bm0 b1 b2 a6) ∧ mem = (request_check_m3 bm0 a7 a8 a9 b0 a0 a4 a2 a1 a5 a3) ∧ I m' b1 b2 a6 w
theorem request_check_leaf3 {b0 : Option Addr} {b2 b1 : Nat} {b3 : Int} {bm0 : Nat} {a6 a7 a8 a9 : Int} {a0 : Option Addr} {a4 a2 : Nat} {a1 : Option Addr} {a5 a3 : Nat} {I : Nat → Bool → Bool → Int → World → Prop} {m : Nat} {b5 b6 : Bool} {b4 : Int} {w : World} (m' : Nat) (h1 : m' < m) (h2 : I m' b5 b6 b4 w) : request_check_K3 b0 b2 b1 b3 bm0 a6 a7 a8 a9 a0 a4 a2 a1 a5 a3 I m (request_check_v3 b0 b2 b1 b3 bm0 b5 b6 b4) (request_check_m3 bm0 a6 a7 a8 a9 a0 a4 a2 a1 a5 a3) w := ⟨m', h1, _, _, _, rfl, rfl, h2⟩
theorem request_check_rule3 {b3 : Option Addr} {b5 b4 : Nat} {b6 : Int} {bm0 : Nat} {a7 a8 a9 b0 : Int} {a1 : Option Addr} {a5 a3 : Nat} {a2 : Option Addr} {a6 a4 : Nat} {b8 b9 : Bool} {b7 : Int} {R : Value → World → Prop} {w0 : World} (I : Nat → Bool → Bool → Int → World → Prop) (m0 : Nat) (h0 : I m0 b8 b9 b7 w0)
 (hr : ∀ (m : Nat) (b1 b2 : Bool) (a0 : Int) (w : World), I m b1 b2 a0 w → request_check_L3 b3 b5 b4 b6 bm0 a7 a8 a9 b0 a1 a5 a3 a2 a6 a4 b1 b2 a0 (request_check_K3 b3 b5 b4 b6 bm0 a7 a8 a9 b0 a1 a5 a3 a2 a6 a4 I m) R w) :
 loopD3 request_check_la3 (dnF Tryz.prog request_check_an (code Tryz.f146) 394 [0, 0, 1, 0, 1, 1, 1, 1]) (kont3 Tryz.prog request_check_an (code Tryz.f146) [1, 1, 1, 1, 0, 1, 0] [] (post3 Tryz.prog Tryz.f146 [] R)) (request_check_v3 b3 b5 b4 b6 bm0 b8 b9 b7) (request_check_m3 bm0 a7 a8 a9 b0 a1 a5 a3 a2 a6 a4) w0 := by
 refine ⟨fun m vals mem w => ∃ b1 b2 a0, vals = (request_check_v3 b3 b5 b4 b6 bm0 b1 b2 a0) ∧ mem = (request_check_m3 bm0 a7 a8 a9 b0 a1 a5 a3 a2 a6 a4) ∧ I m b1 b2 a0 w, m0, ⟨_, _, _, rfl, rfl, h0⟩, ?_⟩
 rintro m vals mem w ⟨b1, b2, a0, rfl, rfl, hI⟩
 refine ⟨rfl, rfl, fun js => ?_⟩
 have h := hr m b1 b2 a0 w hI
 rw [← request_check_L3_eq _ _ _ _ _ _ _ _ _ _ _ _ _ _ _ _ _ _ _ js] at h
 exact h
def request_check_T (a6 a7 a8 a9 : Int) (a0 : Option Addr) (a2 a1 : Nat) (a3 : Option Addr) (a5 a4 : Nat) (R : Value → World → Prop) (w : World) : Prop :=
 ∀ b1, w.heap.size ≤ b1 →
 ∀ w2, Adv [] [b1] w w2 →
 Calls Tryz.prog 161 #[.int .i64 a6] w2 fun e w3 => ∃ t4 : Bool, e = .returned (.bool t4) ∧ Keep [b1] w2 w3 ∧
 brB t4 (
 Calls Tryz.prog 161 #[.int .i64 a7] w3 fun e w5 => ∃ t6 : Bool, e = .returned (.bool t6) ∧ Keep [b1] w3 w5 ∧
 brB t6 (
 Calls Tryz.prog 161 #[.int .i64 a8] w5 fun e w7 => ∃ t8 : Bool, e = .returned (.bool t8) ∧ Keep [b1] w5 w7 ∧
 brB t8 (
 Calls Tryz.prog 161 #[.int .i64 a9] w7 fun e w9 => ∃ t10 : Bool, e = .returned (.bool t10) ∧ Keep [b1] w7 w9 ∧
 cutD3 request_check_la1 ((dnF Tryz.prog request_check_an (code Tryz.f146) 398 [1, 1]) (kont3 Tryz.prog request_check_an (code Tryz.f146) [1] [] (post3 Tryz.prog Tryz.f146 [] R))) (request_check_v1 t10 b1) (request_check_m1 b1 a6 a7 a8 a9 a0 a2 a1 a3 a5 a4) w9)
 (
 cutD3 request_check_la1 ((dnF Tryz.prog request_check_an (code Tryz.f146) 398 [1, 1]) (kont3 Tryz.prog request_check_an (code Tryz.f146) [1] [] (post3 Tryz.prog Tryz.f146 [] R))) (request_check_v1 false b1) (request_check_m1 b1 a6 a7 a8 a9 a0 a2 a1 a3 a5 a4) w7))
 (
 cutD3 request_check_la1 ((dnF Tryz.prog request_check_an (code Tryz.f146) 398 [1, 1]) (kont3 Tryz.prog request_check_an (code Tryz.f146) [1] [] (post3 Tryz.prog Tryz.f146 [] R))) (request_check_v1 false b1) (request_check_m1 b1 a6 a7 a8 a9 a0 a2 a1 a3 a5 a4) w5))
 (
 cutD3 request_check_la1 ((dnF Tryz.prog request_check_an (code Tryz.f146) 398 [1, 1]) (kont3 Tryz.prog request_check_an (code Tryz.f146) [1] [] (post3 Tryz.prog Tryz.f146 [] R))) (request_check_v1 false b1) (request_check_m1 b1 a6 a7 a8 a9 a0 a2 a1 a3 a5 a4) w3)
theorem request_check_eq (a6 a7 a8 a9 : Int) (a0 : Option Addr) (a2 a1 : Nat) (a3 : Option Addr) (a5 a4 : Nat) (R : Value → World → Prop) (w : World) :
 dnF Tryz.prog request_check_an (code Tryz.f146) 400 [] (post3 Tryz.prog Tryz.f146 [] R) ⟨args0 0 [(.agg #[.int .i64 a6, .int .i64 a7, .int .i64 a8, .int .i64 a9, .slice a0 a2 a1, .slice a3 a5 a4])], fun _ => undef⟩ ⟨[], w, [], [], true⟩ = request_check_T a6 a7 a8 a9 a0 a2 a1 a3 a5 a4 R w := by kernel_rfl
theorem request_check_go {a6 a7 a8 a9 : Int} {a0 : Option Addr} {a2 a1 : Nat} {a3 : Option Addr} {a5 a4 : Nat} {R : Value → World → Prop} {w : World} (h : request_check_T a6 a7 a8 a9 a0 a2 a1 a3 a5 a4 R w) :
 Calls Tryz.prog 146 #[(.agg #[.int .i64 a6, .int .i64 a7, .int .i64 a8, .int .i64 a9, .slice a0 a2 a1, .slice a3 a5 a4])] w fun e w' => ∃ v, e = .returned v ∧ R v w' :=
 calls_none Tryz.wide_mixed (f := 146) (args := [(.agg #[.int .i64 a6, .int .i64 a7, .int .i64 a8, .int .i64 a9, .slice a0 a2 a1, .slice a3 a5 a4])]) Tryz.func146 rfl rfl (by kernel_rfl) rfl (Eq.mpr (request_check_eq a6 a7 a8 a9 a0 a2 a1 a3 a5 a4 R w) h)
def ref04_Right_la1 : LA := ⟨[1, 1], [1, 3], [(1, 0, 0)], 1, []⟩
def ref04_Right_la2 : LA := ⟨[0, 0, 1, 0, 1, 1], [1, 3, 4], [(1, 0, 0)], 1, []⟩
def ref04_Right_la3 : LA := ⟨[0, 0, 1, 0, 1, 1, 1], [1, 3, 5], [(1, 0, 0)], 1, []⟩
def ref04_Right_la4 : LA := ⟨[0, 0, 1, 0, 1, 1, 1, 1, 1, 1], [1, 6], [(1, 0, 0)], 1, []⟩
def ref04_Right_la5 : LA := ⟨[0, 0, 1, 0, 1, 1, 1, 1, 1, 1, 1], [1, 7], [(1, 0, 0)], 1, []⟩
def ref04_Right_an : List LA := [ref04_Right_la1, ref04_Right_la2, ref04_Right_la3, ref04_Right_la4, ref04_Right_la5]
def ref04_Right_v1 (a0 : Bool) (bm0 : Nat) : List Value := [(.pointer (some ⟨bm0, 0, none⟩)), .bool a0]
def ref04_Right_m1 (bm0 : Nat) (a6 a7 a8 a9 : Int) (a0 : Option Addr) (a4 a2 : Nat) (a1 : Option Addr) (a5 a3 : Nat) : List TB := [⟨bm0, 43, [.int .i64 a6, .int .i64 a7, .int .i64 a8, .int .i64 a9, .slice a0 a4 a2, .slice a1 a5 a3], false⟩]
def ref04_Right_v2 (bm0 : Nat) (a0 : Bool) (a1 : Int) : List Value := [(.pointer (some ⟨bm0, 0, none⟩)), .bool a0, .int .i64 a1]
def ref04_Right_m2 (bm0 : Nat) (a6 a7 a8 a9 : Int) (a0 : Option Addr) (a4 a2 : Nat) (a1 : Option Addr) (a5 a3 : Nat) : List TB := [⟨bm0, 43, [.int .i64 a6, .int .i64 a7, .int .i64 a8, .int .i64 a9, .slice a0 a4 a2, .slice a1 a5 a3], false⟩]
def ref04_Right_v3 (bm0 : Nat) (a0 : Bool) (a1 : Int) : List Value := [(.pointer (some ⟨bm0, 0, none⟩)), .bool a0, .int .i64 a1]
def ref04_Right_m3 (bm0 : Nat) (a6 a7 a8 a9 : Int) (a0 : Option Addr) (a4 a2 : Nat) (a1 : Option Addr) (a5 a3 : Nat) : List TB := [⟨bm0, 43, [.int .i64 a6, .int .i64 a7, .int .i64 a8, .int .i64 a9, .slice a0 a4 a2, .slice a1 a5 a3], false⟩]
def ref04_Right_v4 (bm0 : Nat) (a0 : Int) : List Value := [(.pointer (some ⟨bm0, 0, none⟩)), .int .i64 a0]
def ref04_Right_m4 (bm0 : Nat) (a6 a7 a8 a9 : Int) (a0 : Option Addr) (a4 a2 : Nat) (a1 : Option Addr) (a5 a3 : Nat) : List TB := [⟨bm0, 43, [.int .i64 a6, .int .i64 a7, .int .i64 a8, .int .i64 a9, .slice a0 a4 a2, .slice a1 a5 a3], false⟩]
def ref04_Right_v5 (bm0 : Nat) (a0 : Int) : List Value := [(.pointer (some ⟨bm0, 0, none⟩)), .int .i64 a0]
def ref04_Right_m5 (bm0 : Nat) (a6 a7 a8 a9 : Int) (a0 : Option Addr) (a4 a2 : Nat) (a1 : Option Addr) (a5 a3 : Nat) : List TB := [⟨bm0, 43, [.int .i64 a6, .int .i64 a7, .int .i64 a8, .int .i64 a9, .slice a0 a4 a2, .slice a1 a5 a3], false⟩]
def ref04_Right_C1 (b0 : Bool) (bm0 : Nat) (a6 a7 a8 a9 : Int) (a0 : Option Addr) (a4 a2 : Nat) (a1 : Option Addr) (a5 a3 : Nat) (R : Value → World → Prop) (w : World) : Prop :=
 loopD3 ref04_Right_la2 (dnF Tryz.prog ref04_Right_an (code Tryz.f148) 396 [0, 0, 1, 0, 1, 1]) (kont3 Tryz.prog ref04_Right_an (code Tryz.f148) [1, 1, 0, 1, 0] [] (post3 Tryz.prog Tryz.f148 [] R)) (ref04_Right_v2 bm0 b0 0) (ref04_Right_m2 bm0 a6 a7 a8 a9 a0 a4 a2 a1 a5 a3) w
theorem ref04_Right_C1_eq (b0 : Bool) (bm0 : Nat) (a6 a7 a8 a9 : Int) (a0 : Option Addr) (a4 a2 : Nat) (a1 : Option Addr) (a5 a3 : Nat) (js : Nat → Value) (R : Value → World → Prop) (w : World) :
 headA ref04_Right_la1 ((dnF Tryz.prog ref04_Right_an (code Tryz.f148) 398 [1, 1]) (kont3 Tryz.prog ref04_Right_an (code Tryz.f148) [1] [] (post3 Tryz.prog Tryz.f148 [] R))) (ref04_Right_v1 b0 bm0) js (ref04_Right_m1 bm0 a6 a7 a8 a9 a0 a4 a2 a1 a5 a3) w = ref04_Right_C1 b0 bm0 a6 a7 a8 a9 a0 a4 a2 a1 a5 a3 R w := by kernel_rfl
theorem ref04_Right_cut1 {c1 : Bool} {bm00 : Nat} {b7 b8 b9 c0 : Int} {b1 : Option Addr} {b5 b3 : Nat} {b2 : Option Addr} {b6 b4 : Nat} {R : Value → World → Prop} {w0 : World} (J : Bool → Nat → Int → Int → Int → Int → Option Addr → Nat → Nat → Option Addr → Nat → Nat → World → Prop) (h0 : J c1 bm00 b7 b8 b9 c0 b1 b5 b3 b2 b6 b4 w0)
 (hr : ∀ (b0 : Bool) (bm0 : Nat) (a6 a7 a8 a9 : Int) (a0 : Option Addr) (a4 a2 : Nat) (a1 : Option Addr) (a5 a3 : Nat) (w : World), J b0 bm0 a6 a7 a8 a9 a0 a4 a2 a1 a5 a3 w → ref04_Right_C1 b0 bm0 a6 a7 a8 a9 a0 a4 a2 a1 a5 a3 R w) :
 cutD3 ref04_Right_la1 ((dnF Tryz.prog ref04_Right_an (code Tryz.f148) 398 [1, 1]) (kont3 Tryz.prog ref04_Right_an (code Tryz.f148) [1] [] (post3 Tryz.prog Tryz.f148 [] R))) (ref04_Right_v1 c1 bm00) (ref04_Right_m1 bm00 b7 b8 b9 c0 b1 b5 b3 b2 b6 b4) w0 := by
 refine ⟨fun vals mem w => ∃ b0 bm0 a6 a7 a8 a9 a0 a4 a2 a1 a5 a3, vals = (ref04_Right_v1 b0 bm0) ∧ mem = (ref04_Right_m1 bm0 a6 a7 a8 a9 a0 a4 a2 a1 a5 a3) ∧ J b0 bm0 a6 a7 a8 a9 a0 a4 a2 a1 a5 a3 w, ⟨_, _, _, _, _, _, _, _, _, _, _, _, rfl, rfl, h0⟩, ?_⟩
 rintro vals mem w ⟨b0, bm0, a6, a7, a8, a9, a0, a4, a2, a1, a5, a3, rfl, rfl, hJ⟩
 refine ⟨rfl, rfl, fun js => ?_⟩
 have h := hr b0 bm0 a6 a7 a8 a9 a0 a4 a2 a1 a5 a3 w hJ
 rw [← ref04_Right_C1_eq _ _ _ _ _ _ _ _ _ _ _ _ js] at h
 exact h
def ref04_Right_L2 (bm0 : Nat) (a6 a7 a8 a9 : Int) (a1 : Option Addr) (a0 a3 : Nat) (a2 : Option Addr) (a5 a4 : Nat) (b1 : Bool) (b0 : Int) (K2 : Kh) (R : Value → World → Prop) (w : World) : Prop :=
 brB (decide (b0 < (a0 : Int))) (
 brB b1 (
 ixA a1 a0 b0 5 fun q11 =>
 ldInt .i64 w q11 fun x12 =>
 Calls Tryz.prog 110 #[.int .i64 x12] w fun e w13 => ∃ t14 : Bool, e = .returned (.bool t14) ∧ Keep [bm0] w w13 ∧
 K2 (ref04_Right_v2 bm0 t14 (IntKind.wrap .i64 (b0 + 1))) (ref04_Right_m2 bm0 a6 a7 a8 a9 a1 a0 a3 a2 a5 a4) w13)
 (
 K2 (ref04_Right_v2 bm0 false (IntKind.wrap .i64 (b0 + 1))) (ref04_Right_m2 bm0 a6 a7 a8 a9 a1 a0 a3 a2 a5 a4) w))
 (
 loopD3 ref04_Right_la3 (dnF Tryz.prog ref04_Right_an (code Tryz.f148) 395 [0, 0, 1, 0, 1, 1, 1]) (kont3 Tryz.prog ref04_Right_an (code Tryz.f148) [1, 1, 1, 0, 1, 0] [] (post3 Tryz.prog Tryz.f148 [] R)) (ref04_Right_v3 bm0 b1 0) (ref04_Right_m3 bm0 a6 a7 a8 a9 a1 a0 a3 a2 a5 a4) w)
theorem ref04_Right_L2_eq (bm0 : Nat) (a6 a7 a8 a9 : Int) (a0 : Option Addr) (a4 a2 : Nat) (a1 : Option Addr) (a5 a3 : Nat) (b0 : Bool) (b1 : Int) (K2 : Kh) (js : Nat → Value) (R : Value → World → Prop) (w : World) :
 headA ref04_Right_la2 ((dnF Tryz.prog ref04_Right_an (code Tryz.f148) 396 [0, 0, 1, 0, 1, 1]) (kthen3 (atA ref04_Right_la2 K2) (kont3 Tryz.prog ref04_Right_an (code Tryz.f148) [1, 1, 0, 1, 0] [] (post3 Tryz.prog Tryz.f148 [] R)))) (ref04_Right_v2 bm0 b0 b1) js (ref04_Right_m2 bm0 a6 a7 a8 a9 a0 a4 a2 a1 a5 a3) w = ref04_Right_L2 bm0 a6 a7 a8 a9 a0 a4 a2 a1 a5 a3 b0 b1 K2 R w := by kernel_rfl
def ref04_Right_K2 (bm0 : Nat) (a6 a7 a8 a9 : Int) (a0 : Option Addr) (a4 a2 : Nat) (a1 : Option Addr) (a5 a3 : Nat) (I : Nat → Bool → Int → World → Prop) (m : Nat) (vals : List Value) (mem : List TB) (w : World) : Prop := ∃ m', m' < m ∧ ∃ b0 b1, vals = (ref04_Right_v2 bm0 b0 b1) ∧ mem = (ref04_Right_m2 bm0 a6 a7 a8 a9 a0 a4 a2 a1 a5 a3) ∧ I m' b0 b1 w
theorem ref04_Right_leaf2 {bm0 : Nat} {a6 a7 a8 a9 : Int} {a0 : Option Addr} {a4 a2 : Nat} {a1 : Option Addr} {a5 a3 : Nat} {I : Nat → Bool → Int → World → Prop} {m : Nat} {b0 : Bool} {b1 : Int} {w : World} (m' : Nat) (h1 : m' < m) (h2 : I m' b0 b1 w) : ref04_Right_K2 bm0 a6 a7 a8 a9 a0 a4 a2 a1 a5 a3 I m (ref04_Right_v2 bm0 b0 b1) (ref04_Right_m2 bm0 a6 a7 a8 a9 a0 a4 a2 a1 a5 a3) w := ⟨m', h1, _, _, rfl, rfl, h2⟩
theorem ref04_Right_rule2 {bm0 : Nat} {a6 a7 a8 a9 : Int} {a0 : Option Addr} {a4 a2 : Nat} {a1 : Option Addr} {a5 a3 : Nat} {b2 : Bool} {b3 : Int} {R : Value → World → Prop} {w0 : World} (I : Nat → Bool → Int → World → Prop) (m0 : Nat) (h0 : I m0 b2 b3 w0)
 (hr : ∀ (m : Nat) (b0 : Bool) (b1 : Int) (w : World), I m b0 b1 w → ref04_Right_L2 bm0 a6 a7 a8 a9 a0 a4 a2 a1 a5 a3 b0 b1 (ref04_Right_K2 bm0 a6 a7 a8 a9 a0 a4 a2 a1 a5 a3 I m) R w) :
 loopD3 ref04_Right_la2 (dnF Tryz.prog ref04_Right_an (code Tryz.f148) 396 [0, 0, 1, 0, 1, 1]) (kont3 Tryz.prog ref04_Right_an (code Tryz.f148) [1, 1, 0, 1, 0] [] (post3 Tryz.prog Tryz.f148 [] R)) (ref04_Right_v2 bm0 b2 b3) (ref04_Right_m2 bm0 a6 a7 a8 a9 a0 a4 a2 a1 a5 a3) w0 := by
 refine ⟨fun m vals mem w => ∃ b0 b1, vals = (ref04_Right_v2 bm0 b0 b1) ∧ mem = (ref04_Right_m2 bm0 a6 a7 a8 a9 a0 a4 a2 a1 a5 a3) ∧ I m b0 b1 w, m0, ⟨_, _, rfl, rfl, h0⟩, ?_⟩
 rintro m vals mem w ⟨b0, b1, rfl, rfl, hI⟩
 refine ⟨rfl, rfl, fun js => ?_⟩
 have h := hr m b0 b1 w hI
 rw [← ref04_Right_L2_eq _ _ _ _ _ _ _ _ _ _ _ _ _ _ js] at h
 exact h
def ref04_Right_L3 (bm0 : Nat) (a6 a7 a8 a9 : Int) (a3 : Option Addr) (a2 a4 : Nat) (a1 : Option Addr) (a0 a5 : Nat) (b1 : Bool) (b0 : Int) (K3 : Kh) (R : Value → World → Prop) (w : World) : Prop :=
 brB (decide (b0 < (a0 : Int))) (
 brB b1 (
 ixA a1 a0 b0 2 fun q15 =>
 ldInt .i64 w (Addr.add q15 1) fun x16 =>
 Calls Tryz.prog 110 #[.int .i64 x16] w fun e w17 => ∃ t18 : Bool, e = .returned (.bool t18) ∧ Keep [bm0] w w17 ∧
 K3 (ref04_Right_v3 bm0 t18 (IntKind.wrap .i64 (b0 + 1))) (ref04_Right_m3 bm0 a6 a7 a8 a9 a3 a2 a4 a1 a0 a5) w17)
 (
 K3 (ref04_Right_v3 bm0 false (IntKind.wrap .i64 (b0 + 1))) (ref04_Right_m3 bm0 a6 a7 a8 a9 a3 a2 a4 a1 a0 a5) w))
 (
 brB (!b1) (
 R (.int .i64 1) w)
 (
 brB (decide ((a2 : Int) > 64)) (
 R (.int .i64 2) w)
 (
 brB (decide ((a0 : Int) > 64)) (
 R (.int .i64 2) w)
 (
 loopD3 ref04_Right_la4 (dnF Tryz.prog ref04_Right_an (code Tryz.f148) 392 [0, 0, 1, 0, 1, 1, 1, 1, 1, 1]) (kont3 Tryz.prog ref04_Right_an (code Tryz.f148) [1, 1, 1, 1, 1, 1, 0, 1, 0] [] (post3 Tryz.prog Tryz.f148 [] R)) (ref04_Right_v4 bm0 0) (ref04_Right_m4 bm0 a6 a7 a8 a9 a3 a2 a4 a1 a0 a5) w))))
theorem ref04_Right_L3_eq (bm0 : Nat) (a6 a7 a8 a9 : Int) (a0 : Option Addr) (a4 a2 : Nat) (a1 : Option Addr) (a5 a3 : Nat) (b0 : Bool) (b1 : Int) (K3 : Kh) (js : Nat → Value) (R : Value → World → Prop) (w : World) :
 headA ref04_Right_la3 ((dnF Tryz.prog ref04_Right_an (code Tryz.f148) 395 [0, 0, 1, 0, 1, 1, 1]) (kthen3 (atA ref04_Right_la3 K3) (kont3 Tryz.prog ref04_Right_an (code Tryz.f148) [1, 1, 1, 0, 1, 0] [] (post3 Tryz.prog Tryz.f148 [] R)))) (ref04_Right_v3 bm0 b0 b1) js (ref04_Right_m3 bm0 a6 a7 a8 a9 a0 a4 a2 a1 a5 a3) w = ref04_Right_L3 bm0 a6 a7 a8 a9 a0 a4 a2 a1 a5 a3 b0 b1 K3 R w := by kernel_rfl
def ref04_Right_K3 (bm0 : Nat) (a6 a7 a8 a9 : Int) (a0 : Option Addr) (a4 a2 : Nat) (a1 : Option Addr) (a5 a3 : Nat) (I : Nat → Bool → Int → World → Prop) (m : Nat) (vals : List Value) (mem : List TB) (w : World) : Prop := ∃ m', m' < m ∧ ∃ b0 b1, vals = (ref04_Right_v3 bm0 b0 b1) ∧ mem = (ref04_Right_m3 bm0 a6 a7 a8 a9 a0 a4 a2 a1 a5 a3) ∧ I m' b0 b1 w
theorem ref04_Right_leaf3 {bm0 : Nat} {a6 a7 a8 a9 : Int} {a0 : Option Addr} {a4 a2 : Nat} {a1 : Option Addr} {a5 a3 : Nat} {I : Nat → Bool → Int → World → Prop} {m : Nat} {b0 : Bool} {b1 : Int} {w : World} (m' : Nat) (h1 : m' < m) (h2 : I m' b0 b1 w) : ref04_Right_K3 bm0 a6 a7 a8 a9 a0 a4 a2 a1 a5 a3 I m (ref04_Right_v3 bm0 b0 b1) (ref04_Right_m3 bm0 a6 a7 a8 a9 a0 a4 a2 a1 a5 a3) w := ⟨m', h1, _, _, rfl, rfl, h2⟩
theorem ref04_Right_rule3 {bm0 : Nat} {a6 a7 a8 a9 : Int} {a0 : Option Addr} {a4 a2 : Nat} {a1 : Option Addr} {a5 a3 : Nat} {b2 : Bool} {b3 : Int} {R : Value → World → Prop} {w0 : World} (I : Nat → Bool → Int → World → Prop) (m0 : Nat) (h0 : I m0 b2 b3 w0)
 (hr : ∀ (m : Nat) (b0 : Bool) (b1 : Int) (w : World), I m b0 b1 w → ref04_Right_L3 bm0 a6 a7 a8 a9 a0 a4 a2 a1 a5 a3 b0 b1 (ref04_Right_K3 bm0 a6 a7 a8 a9 a0 a4 a2 a1 a5 a3 I m) R w) :
 loopD3 ref04_Right_la3 (dnF Tryz.prog ref04_Right_an (code Tryz.f148) 395 [0, 0, 1, 0, 1, 1, 1]) (kont3 Tryz.prog ref04_Right_an (code Tryz.f148) [1, 1, 1, 0, 1, 0] [] (post3 Tryz.prog Tryz.f148 [] R)) (ref04_Right_v3 bm0 b2 b3) (ref04_Right_m3 bm0 a6 a7 a8 a9 a0 a4 a2 a1 a5 a3) w0 := by
 refine ⟨fun m vals mem w => ∃ b0 b1, vals = (ref04_Right_v3 bm0 b0 b1) ∧ mem = (ref04_Right_m3 bm0 a6 a7 a8 a9 a0 a4 a2 a1 a5 a3) ∧ I m b0 b1 w, m0, ⟨_, _, rfl, rfl, h0⟩, ?_⟩
 rintro m vals mem w ⟨b0, b1, rfl, rfl, hI⟩
 refine ⟨rfl, rfl, fun js => ?_⟩
 have h := hr m b0 b1 w hI
 rw [← ref04_Right_L3_eq _ _ _ _ _ _ _ _ _ _ _ _ _ _ js] at h
 exact h
def ref04_Right_L4 (bm0 : Nat) (a6 a7 a8 a9 : Int) (a1 : Option Addr) (a0 a3 : Nat) (a2 : Option Addr) (a5 a4 : Nat) (b0 : Int) (K4 : Kh) (R : Value → World → Prop) (w : World) : Prop :=
 brB (decide (b0 < (a0 : Int))) (
 ixA a1 a0 b0 5 fun q19 =>
 ldBool w (Addr.add q19 1) fun t20 => ldStr w (Addr.add (Addr.add q19 1) 1) fun s21 => ldBool w (Addr.add (Addr.add q19 1) 2) fun t22 => ldStr w (Addr.add (Addr.add q19 1) 3) fun s23 =>
 Calls Tryz.prog 145 #[(.agg #[.bool t20, .string s21, .bool t22, .string s23])] w fun e w24 => ∃ x25 : Int, e = .returned (.int .i64 x25) ∧ Keep [bm0] w w24 ∧
 brB (x25 != 0) (
 R (.int .i64 40) w24)
 (
 K4 (ref04_Right_v4 bm0 (IntKind.wrap .i64 (b0 + 1))) (ref04_Right_m4 bm0 a6 a7 a8 a9 a1 a0 a3 a2 a5 a4) w24))
 (
 loopD3 ref04_Right_la5 (dnF Tryz.prog ref04_Right_an (code Tryz.f148) 391 [0, 0, 1, 0, 1, 1, 1, 1, 1, 1, 1]) (kont3 Tryz.prog ref04_Right_an (code Tryz.f148) [1, 1, 1, 1, 1, 1, 1, 0, 1, 0] [] (post3 Tryz.prog Tryz.f148 [] R)) (ref04_Right_v5 bm0 0) (ref04_Right_m5 bm0 a6 a7 a8 a9 a1 a0 a3 a2 a5 a4) w)
theorem ref04_Right_L4_eq (bm0 : Nat) (a6 a7 a8 a9 : Int) (a0 : Option Addr) (a4 a2 : Nat) (a1 : Option Addr) (a5 a3 : Nat) (b0 : Int) (K4 : Kh) (js : Nat → Value) (R : Value → World → Prop) (w : World) :
 headA ref04_Right_la4 ((dnF Tryz.prog ref04_Right_an (code Tryz.f148) 392 [0, 0, 1, 0, 1, 1, 1, 1, 1, 1]) (kthen3 (atA ref04_Right_la4 K4) (kont3 Tryz.prog ref04_Right_an (code Tryz.f148) [1, 1, 1, 1, 1, 1, 0, 1, 0] [] (post3 Tryz.prog Tryz.f148 [] R)))) (ref04_Right_v4 bm0 b0) js (ref04_Right_m4 bm0 a6 a7 a8 a9 a0 a4 a2 a1 a5 a3) w = ref04_Right_L4 bm0 a6 a7 a8 a9 a0 a4 a2 a1 a5 a3 b0 K4 R w := by kernel_rfl
def ref04_Right_K4 (bm0 : Nat) (a6 a7 a8 a9 : Int) (a0 : Option Addr) (a4 a2 : Nat) (a1 : Option Addr) (a5 a3 : Nat) (I : Nat → Int → World → Prop) (m : Nat) (vals : List Value) (mem : List TB) (w : World) : Prop := ∃ m', m' < m ∧ ∃ b0, vals = (ref04_Right_v4 bm0 b0) ∧ mem = (ref04_Right_m4 bm0 a6 a7 a8 a9 a0 a4 a2 a1 a5 a3) ∧ I m' b0 w
theorem ref04_Right_leaf4 {bm0 : Nat} {a6 a7 a8 a9 : Int} {a0 : Option Addr} {a4 a2 : Nat} {a1 : Option Addr} {a5 a3 : Nat} {I : Nat → Int → World → Prop} {m : Nat} {b0 : Int} {w : World} (m' : Nat) (h1 : m' < m) (h2 : I m' b0 w) : ref04_Right_K4 bm0 a6 a7 a8 a9 a0 a4 a2 a1 a5 a3 I m (ref04_Right_v4 bm0 b0) (ref04_Right_m4 bm0 a6 a7 a8 a9 a0 a4 a2 a1 a5 a3) w := ⟨m', h1, _, rfl, rfl, h2⟩
theorem ref04_Right_rule4 {bm0 : Nat} {a6 a7 a8 a9 : Int} {a0 : Option Addr} {a4 a2 : Nat} {a1 : Option Addr} {a5 a3 : Nat} {b1 : Int} {R : Value → World → Prop} {w0 : World} (I : Nat → Int → World → Prop) (m0 : Nat) (h0 : I m0 b1 w0)
 (hr : ∀ (m : Nat) (b0 : Int) (w : World), I m b0 w → ref04_Right_L4 bm0 a6 a7 a8 a9 a0 a4 a2 a1 a5 a3 b0 (ref04_Right_K4 bm0 a6 a7 a8 a9 a0 a4 a2 a1 a5 a3 I m) R w) :
 loopD3 ref04_Right_la4 (dnF Tryz.prog ref04_Right_an (code Tryz.f148) 392 [0, 0, 1, 0, 1, 1, 1, 1, 1, 1]) (kont3 Tryz.prog ref04_Right_an (code Tryz.f148) [1, 1, 1, 1, 1, 1, 0, 1, 0] [] (post3 Tryz.prog Tryz.f148 [] R)) (ref04_Right_v4 bm0 b1) (ref04_Right_m4 bm0 a6 a7 a8 a9 a0 a4 a2 a1 a5 a3) w0 := by
 refine ⟨fun m vals mem w => ∃ b0, vals = (ref04_Right_v4 bm0 b0) ∧ mem = (ref04_Right_m4 bm0 a6 a7 a8 a9 a0 a4 a2 a1 a5 a3) ∧ I m b0 w, m0, ⟨_, rfl, rfl, h0⟩, ?_⟩
 rintro m vals mem w ⟨b0, rfl, rfl, hI⟩
 refine ⟨rfl, rfl, fun js => ?_⟩
 have h := hr m b0 w hI
 rw [← ref04_Right_L4_eq _ _ _ _ _ _ _ _ _ _ _ _ _ js] at h
 exact h
def ref04_Right_L5 (bm0 : Nat) (a7 a8 a9 b0 : Int) (a2 : Option Addr) (a5 a3 : Nat) (a1 : Option Addr) (a0 a4 : Nat) (a6 : Int) (K5 : Kh) (R : Value → World → Prop) (w : World) : Prop :=
 brB (decide (a6 < (a0 : Int))) (
 ixA a1 a0 a6 2 fun q26 =>
 ldStr w q26 fun s27 =>
 Calls Tryz.prog 108 #[.string s27] w fun e w28 => ∃ t29 : Bool, e = .returned (.bool t29) ∧ Keep [bm0] w w28 ∧
 brB (!t29) (
 R (.int .i64 40) w28)
 (
 K5 (ref04_Right_v5 bm0 (IntKind.wrap .i64 (a6 + 1))) (ref04_Right_m5 bm0 a7 a8 a9 b0 a2 a5 a3 a1 a0 a4) w28))
 (
 R (.int .i64 0) w)
theorem ref04_Right_L5_eq (bm0 : Nat) (a6 a7 a8 a9 : Int) (a0 : Option Addr) (a4 a2 : Nat) (a1 : Option Addr) (a5 a3 : Nat) (b0 : Int) (K5 : Kh) (js : Nat → Value) (R : Value → World → Prop) (w : World) :
 headA ref04_Right_la5 ((dnF Tryz.prog ref04_Right_an (code Tryz.f148) 391 [0, 0, 1, 0, 1, 1, 1, 1, 1, 1, 1]) (kthen3 (atA ref04_Right_la5 K5) (kont3 Tryz.prog ref04_Right_an (code Tryz.f148) [1, 1, 1, 1, 1, 1, 1, 0, 1, 0] [] (post3 Tryz.prog Tryz.f148 [] R)))) (ref04_Right_v5 bm0 b0) js (ref04_Right_m5 bm0 a6 a7 a8 a9 a0 a4 a2 a1 a5 a3) w = ref04_Right_L5 bm0 a6 a7 a8 a9 a0 a4 a2 a1 a5 a3 b0 K5 R w := by kernel_rfl
def ref04_Right_K5 (bm0 : Nat) (a6 a7 a8 a9 : Int) (a0 : Option Addr) (a4 a2 : Nat) (a1 : Option Addr) (a5 a3 : Nat) (I : Nat → Int → World → Prop) (m : Nat) (vals : List Value) (mem : List TB) (w : World) : Prop := ∃ m', m' < m ∧ ∃ b0, vals = (ref04_Right_v5 bm0 b0) ∧ mem = (ref04_Right_m5 bm0 a6 a7 a8 a9 a0 a4 a2 a1 a5 a3) ∧ I m' b0 w
theorem ref04_Right_leaf5 {bm0 : Nat} {a6 a7 a8 a9 : Int} {a0 : Option Addr} {a4 a2 : Nat} {a1 : Option Addr} {a5 a3 : Nat} {I : Nat → Int → World → Prop} {m : Nat} {b0 : Int} {w : World} (m' : Nat) (h1 : m' < m) (h2 : I m' b0 w) : ref04_Right_K5 bm0 a6 a7 a8 a9 a0 a4 a2 a1 a5 a3 I m (ref04_Right_v5 bm0 b0) (ref04_Right_m5 bm0 a6 a7 a8 a9 a0 a4 a2 a1 a5 a3) w := ⟨m', h1, _, rfl, rfl, h2⟩
theorem ref04_Right_rule5 {bm0 : Nat} {a6 a7 a8 a9 : Int} {a0 : Option Addr} {a4 a2 : Nat} {a1 : Option Addr} {a5 a3 : Nat} {b1 : Int} {R : Value → World → Prop} {w0 : World} (I : Nat → Int → World → Prop) (m0 : Nat) (h0 : I m0 b1 w0)
 (hr : ∀ (m : Nat) (b0 : Int) (w : World), I m b0 w → ref04_Right_L5 bm0 a6 a7 a8 a9 a0 a4 a2 a1 a5 a3 b0 (ref04_Right_K5 bm0 a6 a7 a8 a9 a0 a4 a2 a1 a5 a3 I m) R w) :
 loopD3 ref04_Right_la5 (dnF Tryz.prog ref04_Right_an (code Tryz.f148) 391 [0, 0, 1, 0, 1, 1, 1, 1, 1, 1, 1]) (kont3 Tryz.prog ref04_Right_an (code Tryz.f148) [1, 1, 1, 1, 1, 1, 1, 0, 1, 0] [] (post3 Tryz.prog Tryz.f148 [] R)) (ref04_Right_v5 bm0 b1) (ref04_Right_m5 bm0 a6 a7 a8 a9 a0 a4 a2 a1 a5 a3) w0 := by
 refine ⟨fun m vals mem w => ∃ b0, vals = (ref04_Right_v5 bm0 b0) ∧ mem = (ref04_Right_m5 bm0 a6 a7 a8 a9 a0 a4 a2 a1 a5 a3) ∧ I m b0 w, m0, ⟨_, rfl, rfl, h0⟩, ?_⟩
 rintro m vals mem w ⟨b0, rfl, rfl, hI⟩
 refine ⟨rfl, rfl, fun js => ?_⟩
 have h := hr m b0 w hI
 rw [← ref04_Right_L5_eq _ _ _ _ _ _ _ _ _ _ _ _ _ js] at h
 exact h
def ref04_Right_T (a6 a7 a8 a9 : Int) (a0 : Option Addr) (a2 a1 : Nat) (a3 : Option Addr) (a5 a4 : Nat) (R : Value → World → Prop) (w : World) : Prop :=
 ∀ b1, w.heap.size ≤ b1 →
 ∀ w2, Adv [] [b1] w w2 →
 Calls Tryz.prog 110 #[.int .i64 a6] w2 fun e w3 => ∃ t4 : Bool, e = .returned (.bool t4) ∧ Keep [b1] w2 w3 ∧
 brB t4 (
 Calls Tryz.prog 110 #[.int .i64 a7] w3 fun e w5 => ∃ t6 : Bool, e = .returned (.bool t6) ∧ Keep [b1] w3 w5 ∧
 brB t6 (
 Calls Tryz.prog 110 #[.int .i64 a8] w5 fun e w7 => ∃ t8 : Bool, e = .returned (.bool t8) ∧ Keep [b1] w5 w7 ∧
 brB t8 (
 Calls Tryz.prog 110 #[.int .i64 a9] w7 fun e w9 => ∃ t10 : Bool, e = .returned (.bool t10) ∧ Keep [b1] w7 w9 ∧
 cutD3 ref04_Right_la1 ((dnF Tryz.prog ref04_Right_an (code Tryz.f148) 398 [1, 1]) (kont3 Tryz.prog ref04_Right_an (code Tryz.f148) [1] [] (post3 Tryz.prog Tryz.f148 [] R))) (ref04_Right_v1 t10 b1) (ref04_Right_m1 b1 a6 a7 a8 a9 a0 a2 a1 a3 a5 a4) w9)
 (
 cutD3 ref04_Right_la1 ((dnF Tryz.prog ref04_Right_an (code Tryz.f148) 398 [1, 1]) (kont3 Tryz.prog ref04_Right_an (code Tryz.f148) [1] [] (post3 Tryz.prog Tryz.f148 [] R))) (ref04_Right_v1 false b1) (ref04_Right_m1 b1 a6 a7 a8 a9 a0 a2 a1 a3 a5 a4) w7))
 (
 cutD3 ref04_Right_la1 ((dnF Tryz.prog ref04_Right_an (code Tryz.f148) 398 [1, 1]) (kont3 Tryz.prog ref04_Right_an (code Tryz.f148) [1] [] (post3 Tryz.prog Tryz.f148 [] R))) (ref04_Right_v1 false b1) (ref04_Right_m1 b1 a6 a7 a8 a9 a0 a2 a1 a3 a5 a4) w5))
 (
 cutD3 ref04_Right_la1 ((dnF Tryz.prog ref04_Right_an (code Tryz.f148) 398 [1, 1]) (kont3 Tryz.prog ref04_Right_an (code Tryz.f148) [1] [] (post3 Tryz.prog Tryz.f148 [] R))) (ref04_Right_v1 false b1) (ref04_Right_m1 b1 a6 a7 a8 a9 a0 a2 a1 a3 a5 a4) w3)
theorem ref04_Right_eq (a6 a7 a8 a9 : Int) (a0 : Option Addr) (a2 a1 : Nat) (a3 : Option Addr) (a5 a4 : Nat) (R : Value → World → Prop) (w : World) :
 dnF Tryz.prog ref04_Right_an (code Tryz.f148) 400 [] (post3 Tryz.prog Tryz.f148 [] R) ⟨args0 0 [(.agg #[.int .i64 a6, .int .i64 a7, .int .i64 a8, .int .i64 a9, .slice a0 a2 a1, .slice a3 a5 a4])], fun _ => undef⟩ ⟨[], w, [], [], true⟩ = ref04_Right_T a6 a7 a8 a9 a0 a2 a1 a3 a5 a4 R w := by kernel_rfl
theorem ref04_Right_go {a6 a7 a8 a9 : Int} {a0 : Option Addr} {a2 a1 : Nat} {a3 : Option Addr} {a5 a4 : Nat} {R : Value → World → Prop} {w : World} (h : ref04_Right_T a6 a7 a8 a9 a0 a2 a1 a3 a5 a4 R w) :
 Calls Tryz.prog 148 #[(.agg #[.int .i64 a6, .int .i64 a7, .int .i64 a8, .int .i64 a9, .slice a0 a2 a1, .slice a3 a5 a4])] w fun e w' => ∃ v, e = .returned v ∧ R v w' :=
 calls_none Tryz.wide_mixed (f := 148) (args := [(.agg #[.int .i64 a6, .int .i64 a7, .int .i64 a8, .int .i64 a9, .slice a0 a2 a1, .slice a3 a5 a4])]) Tryz.func148 rfl rfl (by kernel_rfl) rfl (Eq.mpr (ref04_Right_eq a6 a7 a8 a9 a0 a2 a1 a3 a5 a4 R w) h)

end Go.Proofs.YtohgihgddknmmaaGreat

/- Small functions of records, replies: by their contracts. -/
namespace Go.Proofs.YtohgihgddknmmaaGreat
open Go Go.RowKit
set_option linter.unusedVariables false
set_option linter.unusedSimpArgs false

def num (n : Int) : Bool := decide (0 ≤ n ∧ n ≤ 1099511627776)
def num1 (n : Int) : Bool := decide (1 ≤ n ∧ n ≤ 1099511627776)
theorem number4_ok (n : Int) (w : World) : Calls Tryz.prog 161 #[.int .i64 n] w fun e w' => e = .returned (.bool (num n)) ∧ w' = w :=
  go_of (request_number_go (brB_dec (fun h => ⟨by simp [num]; omega, rfl⟩) (fun h => ⟨by simp [num]; omega, rfl⟩)))
theorem Num3_ok (n : Int) (w : World) : Calls Tryz.prog 110 #[.int .i64 n] w fun e w' => e = .returned (.bool (num n)) ∧ w' = w :=
  go_of (ref03_Num_go (brB_dec (fun h => ⟨by simp [num]; omega, rfl⟩) (fun h => ⟨by simp [num]; omega, rfl⟩)))
/-! ### records -/
def recN (hk tomb : Bool) (k v : Nat) : Int :=
  if (!hk && decide (k ≠ 0)) || (tomb && (!hk || decide (v ≠ 0))) then 30 else if k > 64 ∨ v > 512 then 2 else 0
def recE (r : PRec) : Int := recN r.hk r.tomb r.key.size r.val.size
theorem RecCheck_ok (r : PRec) (w : World) : Calls Tryz.prog 162 #[r.v] w fun e w' => e = .returned (.int .i64 (recE r)) ∧ Mod [] w w' := by
  obtain ⟨hk, key, tomb, val⟩ := r
  refine go_of (record_Check_go ?_)
  intro b1 f1
  have e1 : (!(key.toList == (⟨#[]⟩ : ByteArray).toList)) = decide (key.size ≠ 0) := by rw [strEq]; simp [size0]
  have e2 : (!(val.toList == (⟨#[]⟩ : ByteArray).toList)) = decide (val.size ≠ 0) := by rw [strEq]; simp [size0]
  rw [e1, e2]
  clear e1 e2
  unfold recE
  generalize key.size = k
  generalize val.size = v
  repeat' (first | refine brB_of (fun _ => ?_) (fun _ => ?_) | (intro w' A))
  all_goals
    refine ⟨congrArg (Value.int .i64) ?_, Adv.mod (by assumption)⟩
    unfold recN
    cases hk <;> cases tomb <;> simp at * <;> (repeat' split) <;> omega
theorem RefCheck_ok (r : PRec) (w : World) : Calls Tryz.prog 145 #[r.v] w fun e w' => e = .returned (.int .i64 (recE r)) ∧ Mod [] w w' := by
  obtain ⟨hk, key, tomb, val⟩ := r
  refine go_of (ref03_Check_go ?_)
  intro b1 f1
  unfold recE
  generalize key.size = k
  generalize val.size = v
  repeat' (first | refine brB_of (fun _ => ?_) (fun _ => ?_) | (intro w' A))
  all_goals
    refine ⟨congrArg (Value.int .i64) ?_, Adv.mod (by assumption)⟩
    unfold recN
    cases hk <;> cases tomb <;> simp at * <;> (repeat' split) <;> omega

/-! ### names -/
def okC (c : Int) : Bool := decide (97 ≤ c ∧ c ≤ 122) || decide (48 ≤ c ∧ c ≤ 57) || decide (c = 45)
def nameB (s : ByteArray) : Bool := decide (1 ≤ s.size ∧ s.size ≤ 16) && s.data.toList.all fun b => okC b.toNat
theorem byteAt_mem {s : ByteArray} {k : Nat} (h : k < s.size) : ∃ b : UInt8, s.data.toList[k]? = some b ∧ byteAt s k = b.toNat := by
  have h' : k < s.data.toList.length := by simpa using h
  exact ⟨s.data.toList[k], List.getElem?_eq_getElem h', by rw [byteAt, List.getD_eq_getElem?_getD, List.getElem?_eq_getElem h']; rfl⟩
theorem RName_ok (s : ByteArray) (w : World) : Calls Tryz.prog 108 #[.string s] w fun e w' => e = .returned (.bool (nameB s)) ∧ w' = w := by
  refine go_of (ref04_Name_go ?_)
  refine brB_dec (fun h => ⟨by simp [nameB]; omega, rfl⟩) fun g1 => ?_
  refine brB_dec (fun h => ⟨by simp [nameB]; omega, rfl⟩) fun g2 => ?_
  refine ref04_Name_rule1 (fun mm x w' => ∃ k : Nat, x = k ∧ k ≤ s.size ∧ ((s.data.toList.take k).all fun b => okC b.toNat) = true ∧ w' = w ∧ mm = s.size - k) s.size ⟨0, rfl, by omega, by simp, rfl, rfl⟩ ?_
  rintro mm x w' ⟨k, rfl, hk, ha, rfl, rfl⟩
  refine brB_dec (fun hlt => ?_) fun hge => ?_
  · have hk' : k < s.size := by omega
    obtain ⟨b, hb, hv⟩ := byteAt_mem hk'
    refine ⟨by omega, by omega, ?_⟩
    rw [Int.toNat_natCast, hv]
    have bad : okC b.toNat = false → nameB s = false := fun h => by
      have : (s.data.toList.all fun b => okC b.toNat) = false := by
        rw [List.all_eq_false]
        exact ⟨b, List.mem_of_getElem? hb, by simp [h]⟩
      simp only [nameB, this, Bool.and_false]
    have good : okC b.toNat = true → ((s.data.toList.take (k + 1)).all fun b => okC b.toNat) = true := fun h => by
      rw [List.take_add_one, hb]
      simp at ha ⊢
      exact ⟨ha, h⟩
    repeat' (first | refine brB_of (fun _ => ?_) (fun _ => ?_) | (intro w' A))
    all_goals first
      | (refine ref04_Name_leaf1 (s.size - (k + 1)) (by omega) ⟨k + 1, by rw [wrap_id (by omega) (by omega)]; omega, by omega, good ?_, rfl, rfl⟩
         simp [okC] at *
         omega)
      | (refine ⟨congrArg Value.bool (bad ?_).symm, rfl⟩
         simp [okC] at *
         omega)
  · have hk : k = s.size := by omega
    subst hk
    refine ⟨?_, rfl⟩
    rw [List.take_of_length_le (by simp)] at ha
    simp only [nameB, ha, Bool.and_true]
    rw [decide_eq_true (by omega)]

/-! ### lists side by side -/
theorem take_step {α : Type} {l1 l2 : List α} {k : Nat} {x : α} (ht : l1.take k = l2.take k) (h1 : l1[k]? = some x) (h2 : l2[k]? = some x) : l1.take (k + 1) = l2.take (k + 1) := by
  rw [List.take_add_one, List.take_add_one, ht, h1, h2]
theorem FoundR_ok {w : World} {a1 a2 : Option Addr} {n1 c1 n2 c2 : Nat} {l1 l2 : List PFound} (h1 : SlAt w 5 encF a1 n1 l1) (h2 : SlAt w 5 encF a2 n2 l2) (hl : l1.length ≤ 1000000) :
    Calls Tryz.prog 72 #[.slice a1 n1 c1, .slice a2 n2 c2] w fun e w' => e = .returned (.bool (decide (l1 = l2))) ∧ Mod [] w w' := by
  refine go_of (ref04_Found_go ?_)
  have e1 := h1.1
  have e2 := h2.1
  refine brB_of (fun h => ⟨congrArg Value.bool (decide_eq_false fun e => ?_).symm, Mod.refl _⟩) fun h => ?_
  · subst e
    rw [e1, e2] at h
    simp at h
  have hlen : l1.length = l2.length := by
    simp at h
    omega
  refine ref04_Found_rule1 (fun mm x w' => ∃ k : Nat, x = k ∧ k ≤ l1.length ∧ l1.take k = l2.take k ∧ Mod [] w w' ∧ mm = l1.length - k) l1.length ⟨0, rfl, by omega, by simp, Mod.refl _, rfl⟩ ?_
  rintro mm x w1 ⟨k, rfl, hk, ht, M, rfl⟩
  refine brB_dec (fun hlt => ?_) fun hge => ?_
  · have g1 : k < l1.length := by omega
    have g2 : k < l2.length := by omega
    obtain ⟨x, hx⟩ : ∃ x, l1[k]? = some x := ⟨_, List.getElem?_eq_getElem g1⟩
    obtain ⟨y, hy⟩ : ∃ y, l2[k]? = some y := ⟨_, List.getElem?_eq_getElem g2⟩
    refine (h1.keep0 M).ix hx fun q hq => ldInt_of (by simpa [add_zero] using hq 0 _ rfl) (ldBool_of (hq 1 _ rfl) (ldStr_of (hq 2 _ rfl) (ldBool_of (hq 3 _ rfl) (ldStr_of (hq 4 _ rfl) ?_))))
    refine (h2.keep0 M).ix hy fun q hq => ldInt_of (by simpa [add_zero] using hq 0 _ rfl) (ldBool_of (hq 1 _ rfl) (ldStr_of (hq 2 _ rfl) (ldBool_of (hq 3 _ rfl) (ldStr_of (hq 4 _ rfl) ?_))))
    refine ⟨_, fun w' _ => neF x y _ _ w', ?_⟩
    refine brB_dec (fun hne => ?_) fun heq => ?_
    · intro w2 A2
      refine ⟨congrArg Value.bool (decide_eq_false fun e => hne ?_).symm, M.go0 A2.mod (by simp)⟩
      subst e
      rw [hx] at hy
      exact Option.some.inj hy
    · intro w2 A2
      have he : x = y := Decidable.not_not.1 heq
      subst he
      exact ref04_Found_leaf1 (l1.length - (k + 1)) (by omega) ⟨k + 1, by rw [wrap_id (by omega) (by omega)]; omega, by omega, take_step ht hx hy, M.go0 A2.mod (by simp), rfl⟩
  · have hk : k = l1.length := by omega
    subst hk
    rw [List.take_length, hlen, List.take_length] at ht
    exact ⟨congrArg Value.bool (decide_eq_true ht).symm, M⟩
theorem PartsR_ok {w : World} {a1 a2 : Option Addr} {n1 c1 n2 c2 : Nat} {l1 l2 : List PPart} (h1 : SlAt w 2 encP a1 n1 l1) (h2 : SlAt w 2 encP a2 n2 l2) (hl : l1.length ≤ 1000000) :
    Calls Tryz.prog 73 #[.slice a1 n1 c1, .slice a2 n2 c2] w fun e w' => e = .returned (.bool (decide (l1 = l2))) ∧ Mod [] w w' := by
  refine go_of (ref04_Parts_go ?_)
  have e1 := h1.1
  have e2 := h2.1
  refine brB_of (fun h => ⟨congrArg Value.bool (decide_eq_false fun e => ?_).symm, Mod.refl _⟩) fun h => ?_
  · subst e
    rw [e1, e2] at h
    simp at h
  have hlen : l1.length = l2.length := by
    simp at h
    omega
  refine ref04_Parts_rule1 (fun mm x w' => ∃ k : Nat, x = k ∧ k ≤ l1.length ∧ l1.take k = l2.take k ∧ Mod [] w w' ∧ mm = l1.length - k) l1.length ⟨0, rfl, by omega, by simp, Mod.refl _, rfl⟩ ?_
  rintro mm x w1 ⟨k, rfl, hk, ht, M, rfl⟩
  refine brB_dec (fun hlt => ?_) fun hge => ?_
  · have g1 : k < l1.length := by omega
    have g2 : k < l2.length := by omega
    obtain ⟨x, hx⟩ : ∃ x, l1[k]? = some x := ⟨_, List.getElem?_eq_getElem g1⟩
    obtain ⟨y, hy⟩ : ∃ y, l2[k]? = some y := ⟨_, List.getElem?_eq_getElem g2⟩
    refine (h1.keep0 M).ix hx fun q hq => ldStr_of (by simpa [add_zero] using hq 0 _ rfl) (ldInt_of (hq 1 _ rfl) ?_)
    refine (h2.keep0 M).ix hy fun q hq => ldStr_of (by simpa [add_zero] using hq 0 _ rfl) (ldInt_of (hq 1 _ rfl) ?_)
    refine ⟨_, fun w' _ => neP x y _ _ w', ?_⟩
    refine brB_dec (fun hne => ?_) fun heq => ?_
    · intro w2 A2
      refine ⟨congrArg Value.bool (decide_eq_false fun e => hne ?_).symm, M.go0 A2.mod (by simp)⟩
      subst e
      rw [hx] at hy
      exact Option.some.inj hy
    · intro w2 A2
      have he : x = y := Decidable.not_not.1 heq
      subst he
      exact ref04_Parts_leaf1 (l1.length - (k + 1)) (by omega) ⟨k + 1, by rw [wrap_id (by omega) (by omega)]; omega, by omega, take_step ht hx hy, M.go0 A2.mod (by simp), rfl⟩
  · have hk : k = l1.length := by omega
    subst hk
    rw [List.take_length, hlen, List.take_length] at ht
    exact ⟨congrArg Value.bool (decide_eq_true ht).symm, M⟩
end Go.Proofs.YtohgihgddknmmaaGreat

/- Replies: whether two are alike; one of one's own. -/
namespace Go.Proofs.YtohgihgddknmmaaGreat
open Go Go.RowKit
set_option linter.unusedVariables false
set_option linter.unusedSimpArgs false

theorem eqRep (r r' : PRep) : decide (r = r') = (decide (r.e = r'.e) && decide (r.off = r'.off) && decide (r.n = r'.n) && decide (r.gen = r'.gen) && decide (r.found = r'.found) && decide (r.parts = r'.parts)) := by
  obtain ⟨a, b, c, d, e, f⟩ := r
  obtain ⟨a', b', c', d', e', f'⟩ := r'
  rw [Bool.eq_iff_iff]
  simp [and_assoc]
theorem RAlike_ok {w : World} {r r' : PRep} {f p f' p' : Sl} (h : RepAt w r f p) (h' : RepAt w r' f' p') :
    Calls Tryz.prog 23 #[r.v f p, r'.v f' p'] w fun e w' => e = .returned (.bool (decide (r = r'))) ∧ Mod [] w w' := by
  rw [eqRep]
  refine go_of (ref04_Alike_go ?_)
  intro b1 f1 b2 f2
  refine brB_of (fun g1 => ?_) (fun g1 => ?_)
  rotate_left
  · intro w1 A1; simp at g1; exact ⟨by simp [g1], A1.mod⟩
  refine brB_of (fun g2 => ?_) (fun g2 => ?_)
  rotate_left
  · intro w1 A1; simp at g2; exact ⟨by simp [g2], A1.mod⟩
  refine brB_of (fun g3 => ?_) (fun g3 => ?_)
  rotate_left
  · intro w1 A1; simp at g3; exact ⟨by simp [g3], A1.mod⟩
  refine brB_of (fun g4 => ?_) (fun g4 => ?_)
  rotate_left
  · intro w1 A1; simp at g4; exact ⟨by simp [g4], A1.mod⟩
  simp at g1 g2 g3 g4
  intro w1 A1
  refine (FoundR_ok (h.keep0 A1.mod).found (h'.keep0 A1.mod).found h.lf).mono ?_
  rintro e w2 ⟨rfl, M2⟩
  refine ⟨_, rfl, Keep.of0 M2, ?_⟩
  have M := A1.mod.go0 M2 (by simp)
  refine brB_of (fun g5 => ?_) (fun g5 => ?_)
  · refine (PartsR_ok (h.keep0 M).parts (h'.keep0 M).parts h.lp).mono ?_
    rintro e w3 ⟨rfl, M3⟩
    refine ⟨_, rfl, Keep.of0 M3, ?_, M.go0 M3 (by simp)⟩
    simp at g5
    simp [g1, g2, g3, g4, g5]
  · refine ⟨?_, M⟩
    simp at g5
    simp [g5]

/-! ### copies -/
theorem infoF : (Tryz.prog.info? 152).map (fun i => (i.zero, i.size, i.bytes)) = some (some (.agg #[.int .i64 0, .bool false, .string ByteArray.empty, .bool false, .string ByteArray.empty]), 5, 56) := by kernel_rfl
theorem infoP : (Tryz.prog.info? 32).map (fun i => (i.zero, i.size, i.bytes)) = some (some (.agg #[.string ByteArray.empty, .int .i64 0]), 2, 24) := by kernel_rfl
theorem encF_one (x : PFound) : ∀ u ∈ encF x, u.oneCell' = true := by simp [encF, Value.oneCell']
theorem encP_one (x : PPart) : ∀ u ∈ encP x, u.oneCell' = true := by simp [encP, Value.oneCell']

theorem CloneF_ok {w : World} {s : Sl} {l : List PFound} (h : SlAt w 5 encF s.a s.n l) (hl : l.length ≤ 1000000) :
    Calls Tryz.prog 117 #[.slice s.a s.n s.c] w fun e w' => ∃ v, e = .returned v ∧ ∃ s' : Sl, v = .slice s'.a s'.n s'.c ∧ Row w' w.heap.size 152 5 encF s'.a s'.n s'.c l ∧ Mod [] w w' := by
  refine slices_Clone_api_Found_api_Found_go ?_
  refine brB_of (fun h0 => ?_) fun _ => ?_
  · have hl0 : l = [] := by
      cases l with
      | nil => rfl
      | cons x r => obtain ⟨ad, ha, _⟩ := h.2 0 x rfl; rw [ha] at h0; cases h0
    subst hl0
    exact ⟨⟨none, 0, 0⟩, rfl, Row.nil .., Mod.refl _⟩
  · refine al_of fun b w1 c1 M1 f1 => ?_
    obtain ⟨i0, hi, hz0, hz1, hz2⟩ := info_parts infoF
    refine appendAll_of (Row.fresh c1 f1) Tryz.underlying40 hi hz0 hz1 hz2 rfl (by decide) (h.keep0 M1) encF_len encF_one (by simp; omega) (by simp; unfold maxLen; omega) M1.size fun a' n' c' w2 hR hM => ?_
    exact ⟨⟨a', n', c'⟩, rfl, by simpa using hR, M1.go0 (hM [b] (by simp)) (by simpa using f1)⟩
theorem CloneP_ok {w : World} {s : Sl} {l : List PPart} (h : SlAt w 2 encP s.a s.n l) (hl : l.length ≤ 1000000) :
    Calls Tryz.prog 118 #[.slice s.a s.n s.c] w fun e w' => ∃ v, e = .returned v ∧ ∃ s' : Sl, v = .slice s'.a s'.n s'.c ∧ Row w' w.heap.size 32 2 encP s'.a s'.n s'.c l ∧ Mod [] w w' := by
  refine slices_Clone_api_Part_api_Part_go ?_
  refine brB_of (fun h0 => ?_) fun _ => ?_
  · have hl0 : l = [] := by
      cases l with
      | nil => rfl
      | cons x r => obtain ⟨ad, ha, _⟩ := h.2 0 x rfl; rw [ha] at h0; cases h0
    subst hl0
    exact ⟨⟨none, 0, 0⟩, rfl, Row.nil .., Mod.refl _⟩
  · refine al_of fun b w1 c1 M1 f1 => ?_
    obtain ⟨i0, hi, hz0, hz1, hz2⟩ := info_parts infoP
    refine appendAll_of (Row.fresh c1 f1) Tryz.underlying41 hi hz0 hz1 hz2 rfl (by decide) (h.keep0 M1) encP_len encP_one (by simp; omega) (by simp; unfold maxLen; omega) M1.size fun a' n' c' w2 hR hM => ?_
    exact ⟨⟨a', n', c'⟩, rfl, by simpa using hR, M1.go0 (hM [b] (by simp)) (by simpa using f1)⟩

end Go.Proofs.YtohgihgddknmmaaGreat

/- Whether a reply may be. -/
namespace Go.Proofs.YtohgihgddknmmaaGreat
open Go Go.RowKit
set_option linter.unusedVariables false
set_option linter.unusedSimpArgs false

def ok0 (r : PRep) : Bool := num r.e && num r.off && num r.n && num r.gen
def okF (x : PFound) : Bool := num x.off
def badF (x : PFound) : Bool := recE x.r != 0
def okP (x : PPart) : Bool := num x.n
def badP (x : PPart) : Bool := !nameB x.t
def repE (r : PRep) : Int :=
  if (ok0 r && r.found.all okF && r.parts.all okP) = false then 1 else if r.found.length > 64 then 2 else if r.parts.length > 64 then 2 else if (r.found.any badF || r.parts.any badP) = true then 40 else 0
theorem take_all {α : Type} {p : α → Bool} {l : List α} {k : Nat} {x : α} (hx : l[k]? = some x) : (l.take (k + 1)).all p = ((l.take k).all p && p x) := by
  rw [List.take_add_one, hx]; simp
theorem take_any {α : Type} {p : α → Bool} {l : List α} {k : Nat} {x : α} (hx : l[k]? = some x) : (l.take (k + 1)).any p = ((l.take k).any p || p x) := by
  rw [List.take_add_one, hx]; simp

theorem notT {b : Bool} (h : (!b) = true) : b = false := by cases b <;> simp_all
theorem notF {b : Bool} (h : (!b) = false) : b = true := by cases b <;> simp_all

/-- 'request.Name' answers as the document says. -/
def NameOk : Prop := ∀ (s : ByteArray) (w : World), Calls Tryz.prog 163 #[.string s] w fun e w' => e = .returned (.bool (nameB s)) ∧ Mod [] w w'

theorem check_parts (hN : NameOk) {w0 w : World} {bm : Nat} {r : PRep} {f p : Sl} (h : RepAtW w0 r f p) (M : Mod [] w0 w) (hb : bm < w.heap.size) {t3 t4 : Bool} (h3 : t3 = (ok0 r && r.found.all okF)) (h4 : t4 = r.found.any badF) :
    loopD3 request_check_la3 (dnF Tryz.prog request_check_an (code Tryz.f146) 394 [0, 0, 1, 0, 1, 1, 1, 1]) (kont3 Tryz.prog request_check_an (code Tryz.f146) [1, 1, 1, 1, 0, 1, 0] [] (post3 Tryz.prog Tryz.f146 [] fun v w' => v = .int .i64 (repE r) ∧ Mod [] w0 w'))
      (request_check_v3 p.a p.n p.c (p.n : Int) bm t3 t4 0) (request_check_m3 bm r.e r.off r.n r.gen f.a f.n f.c p.a p.n p.c) w := by
  have e5 := h.parts.1
  have e4 := h.found.1
  have hl := h.lp
  refine request_check_rule3 (fun mm t3 t4 x w' => ∃ k : Nat, x = k ∧ k ≤ r.parts.length ∧ t3 = (ok0 r && r.found.all okF && (r.parts.take k).all okP) ∧ t4 = (r.found.any badF || (r.parts.take k).any badP) ∧ Mod [] w0 w' ∧ mm = r.parts.length - k) r.parts.length ⟨0, rfl, by omega, by simp [h3], by simp [h4], M, rfl⟩ ?_
  rintro mm t3 t4 x w1 ⟨k, rfl, hk, rfl, rfl, M1, rfl⟩
  refine brB_dec (fun hlt => ?_) fun hge => ?_
  · have g1 : k < r.parts.length := by omega
    obtain ⟨x, hx⟩ : ∃ x, r.parts[k]? = some x := ⟨_, List.getElem?_eq_getElem g1⟩
    have ek : IntKind.wrap .i64 ((k : Int) + 1) = ((k + 1 : Nat) : Int) := by rw [wrap_id (by omega) (by omega)]; omega
    refine (h.keep0 M1).parts.ix hx fun q hq => ldStr_of (by simpa [add_zero] using hq 0 _ rfl) (ldInt_of (hq 1 _ rfl) ?_)
    intro b2 f2
    refine brB_of (fun g3 => ?_) (fun g3 => ?_)
    · intro w2 A2
      refine (number4_ok x.n w2).mono ?_
      rintro e w3 ⟨rfl, rfl⟩
      refine ⟨_, rfl, Keep.of0 (Mod.refl _), ?_⟩
      refine brB_of (fun g4 => ?_) (fun g4 => ?_)
      · exact request_check_leaf3 (r.parts.length - (k + 1)) (by omega) ⟨k + 1, ek, by omega, by rw [take_all hx, ← Bool.and_assoc, g3]; rfl, by rw [take_any hx, ← Bool.or_assoc, g4]; rfl, M1.go0 A2.mod (by simp), rfl⟩
      · refine (hN x.t w3).mono ?_
        rintro e w4 ⟨rfl, M4⟩
        refine ⟨_, rfl, Keep.of0 M4, ?_⟩
        exact request_check_leaf3 (r.parts.length - (k + 1)) (by omega) ⟨k + 1, ek, by omega, by rw [take_all hx, ← Bool.and_assoc, g3]; rfl, by rw [take_any hx, ← Bool.or_assoc, g4]; rfl, (M1.go0 A2.mod (by simp)).go0 M4 (by simp), rfl⟩
    · refine brB_of (fun g4 => ?_) (fun g4 => ?_)
      · intro w2 A2
        exact request_check_leaf3 (r.parts.length - (k + 1)) (by omega) ⟨k + 1, ek, by omega, by rw [take_all hx, ← Bool.and_assoc, g3]; rfl, by rw [take_any hx, ← Bool.or_assoc, g4]; rfl, M1.go0 A2.mod (by simp), rfl⟩
      · intro w2 A2
        refine (hN x.t w2).mono ?_
        rintro e w4 ⟨rfl, M4⟩
        refine ⟨_, rfl, Keep.of0 M4, ?_⟩
        exact request_check_leaf3 (r.parts.length - (k + 1)) (by omega) ⟨k + 1, ek, by omega, by rw [take_all hx, ← Bool.and_assoc, g3]; rfl, by rw [take_any hx, ← Bool.or_assoc, g4]; rfl, (M1.go0 A2.mod (by simp)).go0 M4 (by simp), rfl⟩
  · have hk : k = r.parts.length := by omega
    subst hk
    rw [List.take_length]
    unfold repE
    refine brB_of (fun g1 => ⟨by rw [if_pos (notT g1)], M1⟩) fun g1 => ?_
    rw [if_neg (by rw [notF g1]; decide)]
    refine brB_dec (fun g2 => ⟨by rw [if_pos (by omega)], M1⟩) fun g2 => ?_
    rw [if_neg (by omega)]
    refine brB_dec (fun g3 => ⟨by rw [if_pos (by omega)], M1⟩) fun g3 => ?_
    rw [if_neg (by omega)]
    refine brB_of (fun g4 => ⟨by rw [if_pos g4], M1⟩) fun g4 => ?_
    exact ⟨by rw [if_neg (by rw [g4]; decide)], M1⟩

theorem check_rest (hN : NameOk) {w0 w : World} {bm : Nat} {r : PRep} {f p : Sl} (h : RepAtW w0 r f p) (M : Mod [] w0 w) (hb : bm < w.heap.size) {t : Bool} (ht : t = ok0 r) :
    request_check_C1 t bm r.e r.off r.n r.gen f.a f.n f.c p.a p.n p.c (fun v w' => v = .int .i64 (repE r) ∧ Mod [] w0 w') w := by
  have e4 := h.found.1
  have hl := h.lf
  refine request_check_rule2 (fun mm t3 t4 x w' => ∃ k : Nat, x = k ∧ k ≤ r.found.length ∧ t3 = (ok0 r && (r.found.take k).all okF) ∧ t4 = (r.found.take k).any badF ∧ Mod [] w0 w' ∧ bm < w'.heap.size ∧ mm = r.found.length - k) r.found.length ⟨0, rfl, by omega, by simp [ht], by simp, M, hb, rfl⟩ ?_
  rintro mm t3 t4 x w1 ⟨k, rfl, hk, rfl, rfl, M1, hb1, rfl⟩
  refine brB_dec (fun hlt => ?_) fun hge => ?_
  · have g1 : k < r.found.length := by omega
    obtain ⟨x, hx⟩ : ∃ x, r.found[k]? = some x := ⟨_, List.getElem?_eq_getElem g1⟩
    have ek : IntKind.wrap .i64 ((k : Int) + 1) = ((k + 1 : Nat) : Int) := by rw [wrap_id (by omega) (by omega)]; omega
    refine (h.keep0 M1).found.ix hx fun q hq => ldInt_of (by simpa [add_zero] using hq 0 _ rfl) (ldBool_of (hq 1 _ rfl) (ldStr_of (hq 2 _ rfl) (ldBool_of (hq 3 _ rfl) (ldStr_of (hq 4 _ rfl) ?_))))
    intro b2 f2
    have fin : ∀ {w'}, Mod [] w0 w' → w1.heap.size ≤ w'.heap.size → ∃ k' : Nat, IntKind.wrap .i64 ((k : Int) + 1) = k' ∧ k' ≤ r.found.length ∧ (ok0 r && (r.found.take k).all okF && okF x) = (ok0 r && (r.found.take k').all okF) ∧ ((r.found.take k).any badF || badF x) = (r.found.take k').any badF ∧ Mod [] w0 w' ∧ bm < w'.heap.size ∧ r.found.length - (k + 1) = r.found.length - k' :=
      fun {w'} hM hs => ⟨k + 1, ek, by omega, by rw [take_all hx, ← Bool.and_assoc], by rw [take_any hx], hM, by omega, rfl⟩
    refine brB_of (fun g3 => ?_) (fun g3 => ?_)
    · intro w2 A2
      have s2 := A2.mod.size
      refine (number4_ok x.off w2).mono ?_
      rintro e w3 ⟨rfl, rfl⟩
      refine ⟨_, rfl, Keep.of0 (Mod.refl _), ?_⟩
      refine brB_of (fun g4 => ?_) (fun g4 => ?_)
      · have := fin (M1.go0 A2.mod (by simp)) s2
        rw [g3, g4, Bool.true_and, Bool.true_or] at this
        exact request_check_leaf2 (r.found.length - (k + 1)) (by omega) this
      · refine (RecCheck_ok x.r w3).mono ?_
        rintro e w4 ⟨rfl, M4⟩
        have s4 := M4.size
        refine ⟨_, rfl, Keep.of0 M4, ?_⟩
        have := fin ((M1.go0 A2.mod (by simp)).go0 M4 (by simp)) (by omega)
        rw [g3, g4, Bool.true_and, Bool.false_or] at this
        exact request_check_leaf2 (r.found.length - (k + 1)) (by omega) this
    · refine brB_of (fun g4 => ?_) (fun g4 => ?_)
      · intro w2 A2
        have := fin (M1.go0 A2.mod (by simp)) A2.mod.size
        rw [g3, g4, Bool.false_and, Bool.true_or] at this
        exact request_check_leaf2 (r.found.length - (k + 1)) (by omega) this
      · intro w2 A2
        have s2 := A2.mod.size
        refine (RecCheck_ok x.r w2).mono ?_
        rintro e w4 ⟨rfl, M4⟩
        have s4 := M4.size
        refine ⟨_, rfl, Keep.of0 M4, ?_⟩
        have := fin ((M1.go0 A2.mod (by simp)).go0 M4 (by simp)) (by omega)
        rw [g3, g4, Bool.false_and, Bool.false_or] at this
        exact request_check_leaf2 (r.found.length - (k + 1)) (by omega) this
  · have hk : k = r.found.length := by omega
    subst hk
    rw [List.take_length]
    exact check_parts hN h M1 hb1 rfl rfl
theorem check_okW (hN : NameOk) {w : World} {r : PRep} {f p : Sl} (h : RepAtW w r f p) :
    Calls Tryz.prog 146 #[r.v f p] w fun e w' => e = .returned (.int .i64 (repE r)) ∧ Mod [] w w' := by
  refine go_of (request_check_go ?_)
  intro b1 f1 w1 A1
  have l1 := A1.lt b1 (by simp)
  refine (number4_ok _ _).mono ?_
  rintro e w2 ⟨rfl, rfl⟩
  refine ⟨_, rfl, Keep.of0 (Mod.refl _), brB_of (fun g1 => ?_) (fun g1 => ?_)⟩
  rotate_left
  · refine request_check_cut1 (fun t bm x0 x1 x2 x3 a4 n4 c4 a5 n5 c5 w' => t = ok0 r ∧ bm < w'.heap.size ∧ x0 = r.e ∧ x1 = r.off ∧ x2 = r.n ∧ x3 = r.gen ∧ a4 = f.a ∧ n4 = f.n ∧ c4 = f.c ∧ a5 = p.a ∧ n5 = p.n ∧ c5 = p.c ∧ Mod [] w w') ⟨by simp [ok0, g1], l1, rfl, rfl, rfl, rfl, rfl, rfl, rfl, rfl, rfl, rfl, A1.mod⟩ ?_
    rintro t bm x0 x1 x2 x3 a4 n4 c4 a5 n5 c5 w' ⟨ht, hb, rfl, rfl, rfl, rfl, rfl, rfl, rfl, rfl, rfl, rfl, M⟩
    exact check_rest hN h M hb ht
  refine (number4_ok _ _).mono ?_
  rintro e w2 ⟨rfl, rfl⟩
  refine ⟨_, rfl, Keep.of0 (Mod.refl _), brB_of (fun g2 => ?_) (fun g2 => ?_)⟩
  rotate_left
  · refine request_check_cut1 (fun t bm x0 x1 x2 x3 a4 n4 c4 a5 n5 c5 w' => t = ok0 r ∧ bm < w'.heap.size ∧ x0 = r.e ∧ x1 = r.off ∧ x2 = r.n ∧ x3 = r.gen ∧ a4 = f.a ∧ n4 = f.n ∧ c4 = f.c ∧ a5 = p.a ∧ n5 = p.n ∧ c5 = p.c ∧ Mod [] w w') ⟨by simp [ok0, g2], l1, rfl, rfl, rfl, rfl, rfl, rfl, rfl, rfl, rfl, rfl, A1.mod⟩ ?_
    rintro t bm x0 x1 x2 x3 a4 n4 c4 a5 n5 c5 w' ⟨ht, hb, rfl, rfl, rfl, rfl, rfl, rfl, rfl, rfl, rfl, rfl, M⟩
    exact check_rest hN h M hb ht
  refine (number4_ok _ _).mono ?_
  rintro e w2 ⟨rfl, rfl⟩
  refine ⟨_, rfl, Keep.of0 (Mod.refl _), brB_of (fun g3 => ?_) (fun g3 => ?_)⟩
  rotate_left
  · refine request_check_cut1 (fun t bm x0 x1 x2 x3 a4 n4 c4 a5 n5 c5 w' => t = ok0 r ∧ bm < w'.heap.size ∧ x0 = r.e ∧ x1 = r.off ∧ x2 = r.n ∧ x3 = r.gen ∧ a4 = f.a ∧ n4 = f.n ∧ c4 = f.c ∧ a5 = p.a ∧ n5 = p.n ∧ c5 = p.c ∧ Mod [] w w') ⟨by simp [ok0, g3], l1, rfl, rfl, rfl, rfl, rfl, rfl, rfl, rfl, rfl, rfl, A1.mod⟩ ?_
    rintro t bm x0 x1 x2 x3 a4 n4 c4 a5 n5 c5 w' ⟨ht, hb, rfl, rfl, rfl, rfl, rfl, rfl, rfl, rfl, rfl, rfl, M⟩
    exact check_rest hN h M hb ht
  refine (number4_ok _ _).mono ?_
  rintro e w2 ⟨rfl, rfl⟩
  refine ⟨_, rfl, Keep.of0 (Mod.refl _), ?_⟩
  refine request_check_cut1 (fun t bm x0 x1 x2 x3 a4 n4 c4 a5 n5 c5 w' => t = ok0 r ∧ bm < w'.heap.size ∧ x0 = r.e ∧ x1 = r.off ∧ x2 = r.n ∧ x3 = r.gen ∧ a4 = f.a ∧ n4 = f.n ∧ c4 = f.c ∧ a5 = p.a ∧ n5 = p.n ∧ c5 = p.c ∧ Mod [] w w') ⟨by simp [ok0, g1, g2, g3], l1, rfl, rfl, rfl, rfl, rfl, rfl, rfl, rfl, rfl, rfl, A1.mod⟩ ?_
  rintro t bm x0 x1 x2 x3 a4 n4 c4 a5 n5 c5 w' ⟨ht, hb, rfl, rfl, rfl, rfl, rfl, rfl, rfl, rfl, rfl, rfl, M⟩
  exact check_rest hN h M hb ht
end Go.Proofs.YtohgihgddknmmaaGreat

/- Names, by the program. -/
namespace Go.Proofs
open Go.Shelf
shelf_lay LaysGw.n17 Ggw 17 at Tryz as Tryz.layCF
end Go.Proofs
namespace Go.Proofs.YtohgihgddknmmaaGreat
open Go Go.RowKit
set_option linter.unusedVariables false
set_option linter.unusedSimpArgs false

theorem Odd_ok (c : Int) (w : World) : Calls Tryz.prog 170 #[.int .i32 c] w fun e w' => e = .returned (.bool (!okC c)) ∧ w' = w := by
  refine go_of (request_Name_1_go ?_)
  repeat' (first | refine brB_of (fun _ => ?_) (fun _ => ?_) | (intro w' A))
  all_goals
    refine ⟨congrArg Value.bool ?_, rfl⟩
    rw [Bool.eq_iff_iff]
    simp [okC] at *
    try omega
theorem odd_from (s : ByteArray) : ∀ (f pos : Nat), s.size ≤ pos + f → (0 ≤ Lib.idxFuncFrom (fun x => !okC x) true s f pos ↔ ∃ i b, pos ≤ i ∧ s.data.toList[i]? = some b ∧ okC (b.toNat : Int) = false)
  | 0, pos, h => by
    constructor
    · intro h; simp [Lib.idxFuncFrom] at h
    · rintro ⟨i, b, h1, h2, _⟩
      have := (List.getElem?_eq_some_iff.1 h2).1
      simp at this; omega
  | f + 1, pos, h => by
    unfold Lib.idxFuncFrom
    split
    · rename_i hp
      have hd : s.data.toList[pos]? = some s[pos] := by
        rw [List.getElem?_eq_getElem (by simpa using hp)]; rfl
      by_cases ha : (s[pos]).toNat < 128
      · rw [decode_ascii s pos hp ha]
        have ih := odd_from s f (pos + 1) (by omega)
        by_cases ho : okC ((s[pos]).toNat : Int) = true
        · simp only [ho, Bool.not_true]
          rw [if_neg (by decide), ih]
          constructor
          · rintro ⟨i, b, h1, h2, h3⟩; exact ⟨i, b, by omega, h2, h3⟩
          · rintro ⟨i, b, h1, h2, h3⟩
            refine ⟨i, b, ?_, h2, h3⟩
            rcases Nat.lt_or_ge pos i with h4 | h4
            · exact h4
            · have : i = pos := by omega
              subst this
              rw [hd] at h2; cases h2
              rw [ho] at h3; cases h3
        · have ho' : okC ((s[pos]).toNat : Int) = false := by simpa using ho
          simp only [ho', Bool.not_false]
          rw [if_pos trivial]
          exact ⟨fun _ => ⟨pos, _, Nat.le_refl _, hd, ho'⟩, fun _ => by omega⟩
      · have h1 := decode_high s pos hp (by omega)
        have ho : okC ((Utf8.decode s pos).1 : Int) = false := by simp [okC]; omega
        have ho' : okC ((s[pos]).toNat : Int) = false := by simp [okC]; omega
        simp only [ho, Bool.not_false]
        rw [if_pos trivial]
        exact ⟨fun _ => ⟨pos, _, Nat.le_refl _, hd, ho'⟩, fun _ => by omega⟩
    · rename_i hp
      constructor
      · intro h; simp at h
      · rintro ⟨i, b, h1, h2, _⟩
        have := (List.getElem?_eq_some_iff.1 h2).1
        simp at this; omega

theorem Name_ok : NameOk := by
  intro s w
  refine go_of (request_Name_go ?_)
  unfold request_Name_T
  rw [strEq]
  refine brB_of (fun g1 => ?_) (fun g1 => ⟨?_, Mod.refl _⟩)
  rotate_left
  · have g1 := notF g1
    have h0 := (size0 s).1 (of_decide_eq_true g1)
    simp [nameB, h0]
  have h1 : s.size ≠ 0 := fun e => by rw [decide_eq_true ((size0 s).2 e)] at g1; cases g1
  refine brB_dec (fun g2 => ?_) (fun g2 => ⟨by simp [nameB]; omega, Mod.refl _⟩)
  have hC := Any.strings_ContainsFunc_grows Tryz.layCF 170 #[] (enters_of Tryz.func170 (by kernel_rfl) rfl) (fun x => !okC x) s w
    (fun W x _ _ => (Odd_ok (x : Int) W).mono fun e w' ⟨h, h'⟩ => ⟨h, by rw [h']; exact Below.refl _ _⟩)
  refine hC.mono ?_
  rintro e w1 ⟨rfl, hb⟩
  refine ⟨_, rfl, ?_, Mod.of_below hb⟩
  refine congrArg Value.bool ?_
  have ho := odd_from s s.size 0 (by omega)
  rw [Bool.eq_iff_iff]
  simp only [nameB, Bool.not_eq_true', decide_eq_false_iff_not, Bool.and_eq_true, decide_eq_true_eq, List.all_eq_true]
  unfold Lib.idxFunc
  rw [ho]
  constructor
  · intro h
    refine ⟨by omega, fun b hb => ?_⟩
    obtain ⟨i, hi⟩ := List.getElem?_of_mem hb
    by_cases hk : okC (b.toNat : Int) = true
    · exact hk
    · exact absurd ⟨i, b, Nat.zero_le _, hi, by simpa using hk⟩ h
  · rintro ⟨_, h⟩ ⟨i, b, _, hi, hk⟩
    rw [h b (List.mem_of_getElem? hi)] at hk; cases hk
end Go.Proofs.YtohgihgddknmmaaGreat

/- The conditions of Go functions' bodies, printed by gen2.py. -/
namespace Go.Proofs.YtohgihgddknmmaaGreat
open Go Go.RowKit
set_option linter.unusedVariables false
set_option maxRecDepth 100000

def varint_PutText_an : List LA := []
def varint_PutText_T (a0 : ByteArray) (R : Value → World → Prop) (w : World) : Prop :=
 Calls Tryz.prog 77 #[(.int .u64 (IntKind.wrap .u64 (a0.size : Int)))] w fun e w1 => ∃ s2 : ByteArray, e = .returned (.string s2) ∧
 catS s2 a0 fun s3 =>
 R (.string s3) w1
theorem varint_PutText_eq (a0 : ByteArray) (R : Value → World → Prop) (w : World) :
 dnF Tryz.prog varint_PutText_an (code Tryz.f80) 400 [] (post3 Tryz.prog Tryz.f80 [] R) ⟨args0 0 [.string a0], fun _ => undef⟩ ⟨[], w, [], [], true⟩ = varint_PutText_T a0 R w := by kernel_rfl
theorem varint_PutText_go {a0 : ByteArray} {R : Value → World → Prop} {w : World} (h : varint_PutText_T a0 R w) :
 Calls Tryz.prog 80 #[.string a0] w fun e w' => ∃ v, e = .returned v ∧ R v w' :=
 calls_none Tryz.wide_mixed (f := 80) (args := [.string a0]) Tryz.func80 rfl rfl (by kernel_rfl) rfl (Eq.mpr (varint_PutText_eq a0 R w) h)
def record_text_an : List LA := []
def record_text_T (a2 : Bool) (a3 : ByteArray) (a0 : Bool) (a1 : ByteArray) (R : Value → World → Prop) (w : World) : Prop :=
 ∀ b1, w.heap.size ≤ b1 →
 ∀ w2, Adv [] [b1] w w2 →
 Calls Tryz.prog 172 #[(.agg #[.bool a2, .string a3, .bool a0, .string a1])] w2 fun e w3 => ∃ x4 : Int, e = .returned (.int .u8 x4) ∧ Keep [b1] w2 w3 ∧
 al w3 (.cells #[.int .u8 x4] 5) fun b5 w6 =>
 ∃ s7 w8, Sem.run Tryz.prog (Go.convert 122 9 (.slice (some ⟨b5, 0, none⟩) 1 1)) w6 = .ok (.string s7) w8 ∧ Keep [b1] w6 w8 ∧
 brB a2 (
 Calls Tryz.prog 80 #[.string a3] w8 fun e w9 => ∃ s10 : ByteArray, e = .returned (.string s10) ∧ Keep [b1] w8 w9 ∧
 catS s7 s10 fun s11 =>
 brB (!a0) (
 Calls Tryz.prog 80 #[.string a1] w9 fun e w12 => ∃ s13 : ByteArray, e = .returned (.string s13) ∧ Keep [b1] w9 w12 ∧
 catS s11 s13 fun s14 =>
 R (.string s14) w12)
 (
 R (.string s11) w9))
 (
 brB (!a0) (
 Calls Tryz.prog 80 #[.string a1] w8 fun e w15 => ∃ s16 : ByteArray, e = .returned (.string s16) ∧ Keep [b1] w8 w15 ∧
 catS s7 s16 fun s17 =>
 R (.string s17) w15)
 (
 R (.string s7) w8))
theorem record_text_eq (a0 : Bool) (a1 : ByteArray) (a2 : Bool) (a3 : ByteArray) (R : Value → World → Prop) (w : World) :
 dnF Tryz.prog record_text_an (code Tryz.f164) 400 [] (post3 Tryz.prog Tryz.f164 [] R) ⟨args0 0 [(.agg #[.bool a0, .string a1, .bool a2, .string a3])], fun _ => undef⟩ ⟨[], w, [], [], true⟩ = record_text_T a0 a1 a2 a3 R w := by kernel_rfl
theorem record_text_go {a0 : Bool} {a1 : ByteArray} {a2 : Bool} {a3 : ByteArray} {R : Value → World → Prop} {w : World} (h : record_text_T a0 a1 a2 a3 R w) :
 Calls Tryz.prog 164 #[(.agg #[.bool a0, .string a1, .bool a2, .string a3])] w fun e w' => ∃ v, e = .returned v ∧ R v w' :=
 calls_none Tryz.wide_mixed (f := 164) (args := [(.agg #[.bool a0, .string a1, .bool a2, .string a3])]) Tryz.func164 rfl rfl (by kernel_rfl) rfl (Eq.mpr (record_text_eq a0 a1 a2 a3 R w) h)
def record_Put_an : List LA := []
def record_Put_T (a0 : Bool) (a1 : ByteArray) (a2 : Bool) (a3 : ByteArray) (R : Value → World → Prop) (w : World) : Prop :=
 ∀ b1, w.heap.size ≤ b1 →
 ∀ w2, Adv [] [b1] w w2 →
 Calls Tryz.prog 162 #[(.agg #[.bool a0, .string a1, .bool a2, .string a3])] w2 fun e w3 => ∃ x4 : Int, e = .returned (.int .i64 x4) ∧ Keep [b1] w2 w3 ∧
 brB (x4 != 0) (
 R (.tuple #[(.string (⟨#[]⟩ : ByteArray)), .int .i64 x4]) w3)
 (
 Calls Tryz.prog 164 #[(.agg #[.bool a0, .string a1, .bool a2, .string a3])] w3 fun e w5 => ∃ s6 : ByteArray, e = .returned (.string s6) ∧ Keep [b1] w3 w5 ∧
 R (.tuple #[.string s6, .int .i64 0]) w5)
theorem record_Put_eq (a0 : Bool) (a1 : ByteArray) (a2 : Bool) (a3 : ByteArray) (R : Value → World → Prop) (w : World) :
 dnF Tryz.prog record_Put_an (code Tryz.f147) 400 [] (post3 Tryz.prog Tryz.f147 [] R) ⟨args0 0 [(.agg #[.bool a0, .string a1, .bool a2, .string a3])], fun _ => undef⟩ ⟨[], w, [], [], true⟩ = record_Put_T a0 a1 a2 a3 R w := by kernel_rfl
theorem record_Put_go {a0 : Bool} {a1 : ByteArray} {a2 : Bool} {a3 : ByteArray} {R : Value → World → Prop} {w : World} (h : record_Put_T a0 a1 a2 a3 R w) :
 Calls Tryz.prog 147 #[(.agg #[.bool a0, .string a1, .bool a2, .string a3])] w fun e w' => ∃ v, e = .returned v ∧ R v w' :=
 calls_none Tryz.wide_mixed (f := 147) (args := [(.agg #[.bool a0, .string a1, .bool a2, .string a3])]) Tryz.func147 rfl rfl (by kernel_rfl) rfl (Eq.mpr (record_Put_eq a0 a1 a2 a3 R w) h)
def request_writer_number_an : List LA := []
def request_writer_number_T (a0 : Addr) (a1 : Addr) (R : Value → World → Prop) (w : World) : Prop :=
 ∀ w1, Adv [] [] w w1 →
 ldInt .i64 w1 a1 fun x2 =>
 Calls Tryz.prog 77 #[(.int .u64 (IntKind.wrap .u64 x2))] w1 fun e w3 => ∃ s4 : ByteArray, e = .returned (.string s4) ∧
 Calls Tryz.prog 76 #[(.pointer (some a0)), .string s4] w3 fun e w5 => ∃ (x6 : Int) (v7 : Value), e = .returned (.tuple #[.int .i64 x6, v7]) ∧
 R (.tuple #[]) w5
theorem request_writer_number_eq (a0 : Addr) (a1 : Addr) (R : Value → World → Prop) (w : World) :
 dnF Tryz.prog request_writer_number_an (code Tryz.f127) 400 [] (post3 Tryz.prog Tryz.f127 [] R) ⟨args0 0 [(.pointer (some a0)), (.pointer (some a1))], fun _ => undef⟩ ⟨[], w, [], [], true⟩ = request_writer_number_T a0 a1 R w := by kernel_rfl
theorem request_writer_number_go {a0 : Addr} {a1 : Addr} {R : Value → World → Prop} {w : World} (h : request_writer_number_T a0 a1 R w) :
 Calls Tryz.prog 127 #[(.pointer (some a0)), (.pointer (some a1))] w fun e w' => ∃ v, e = .returned v ∧ R v w' :=
 calls_none Tryz.wide_mixed (f := 127) (args := [(.pointer (some a0)), (.pointer (some a1))]) Tryz.func127 rfl rfl (by kernel_rfl) rfl (Eq.mpr (request_writer_number_eq a0 a1 R w) h)
def request_writer_name_an : List LA := []
def request_writer_name_T (a0 : Addr) (a1 : Addr) (R : Value → World → Prop) (w : World) : Prop :=
 ∀ w1, Adv [] [] w w1 →
 ldStr w1 a1 fun s2 =>
 Calls Tryz.prog 80 #[.string s2] w1 fun e w3 => ∃ s4 : ByteArray, e = .returned (.string s4) ∧
 Calls Tryz.prog 76 #[(.pointer (some a0)), .string s4] w3 fun e w5 => ∃ (x6 : Int) (v7 : Value), e = .returned (.tuple #[.int .i64 x6, v7]) ∧
 R (.tuple #[]) w5
theorem request_writer_name_eq (a0 : Addr) (a1 : Addr) (R : Value → World → Prop) (w : World) :
 dnF Tryz.prog request_writer_name_an (code Tryz.f206) 400 [] (post3 Tryz.prog Tryz.f206 [] R) ⟨args0 0 [(.pointer (some a0)), (.pointer (some a1))], fun _ => undef⟩ ⟨[], w, [], [], true⟩ = request_writer_name_T a0 a1 R w := by kernel_rfl
theorem request_writer_name_go {a0 : Addr} {a1 : Addr} {R : Value → World → Prop} {w : World} (h : request_writer_name_T a0 a1 R w) :
 Calls Tryz.prog 206 #[(.pointer (some a0)), (.pointer (some a1))] w fun e w' => ∃ v, e = .returned v ∧ R v w' :=
 calls_none Tryz.wide_mixed (f := 206) (args := [(.pointer (some a0)), (.pointer (some a1))]) Tryz.func206 rfl rfl (by kernel_rfl) rfl (Eq.mpr (request_writer_name_eq a0 a1 R w) h)
def request_part_an : List LA := []
def request_part_T (a1 : Addr) (a0 : Addr) (R : Value → World → Prop) (w : World) : Prop :=
 ∀ w1, Adv [] [] w w1 →
 Calls Tryz.prog 206 #[(.pointer (some a0)), (.pointer (some a1))] w1 fun e w2 => e = .returned (.tuple #[]) ∧
 ∀ w3, Adv [] [] w2 w3 →
 Calls Tryz.prog 127 #[(.pointer (some a0)), (.pointer (some (Addr.add a1 1)))] w3 fun e w4 => e = .returned (.tuple #[]) ∧
 R (.tuple #[]) w4
theorem request_part_eq (a1 : Addr) (a0 : Addr) (R : Value → World → Prop) (w : World) :
 dnF Tryz.prog request_part_an (code Tryz.f142) 400 [] (post3 Tryz.prog Tryz.f142 [] R) ⟨args0 0 [(.iface 182 (.pointer (some a0))), (.pointer (some a1))], fun _ => undef⟩ ⟨[], w, [], [], true⟩ = request_part_T a1 a0 R w := by kernel_rfl
theorem request_part_go {a1 : Addr} {a0 : Addr} {R : Value → World → Prop} {w : World} (h : request_part_T a1 a0 R w) :
 Calls Tryz.prog 142 #[(.iface 182 (.pointer (some a0))), (.pointer (some a1))] w fun e w' => ∃ v, e = .returned v ∧ R v w' :=
 calls_none Tryz.wide_mixed (f := 142) (args := [(.iface 182 (.pointer (some a0))), (.pointer (some a1))]) Tryz.func142 rfl rfl (by kernel_rfl) rfl (Eq.mpr (request_part_eq a1 a0 R w) h)
def request_Reply_la1 : LA := ⟨[0, 0, 1, 0, 1, 1, 1], [1, 5, 33, 34, 35], [(1, 0, 0), (5, 1, 0)], 2, [1]⟩
def request_Reply_la2 : LA := ⟨[0, 0, 1, 0, 1, 1, 1, 1], [1, 5, 43, 44, 45], [(1, 0, 0), (5, 1, 0)], 2, [1]⟩
def request_Reply_la3 : LA := ⟨[0, 0, 1, 0, 1, 1, 1, 1, 1, 1, 1], [5, 70, 71, 72], [(5, 1, 0)], 3, [1, 2]⟩
def request_Reply_an : List LA := [request_Reply_la1, request_Reply_la2, request_Reply_la3]
def request_Reply_v1 (a0 : Option Addr) (a2 a1 bm0 bm1 : Nat) (a3 : Int) : List Value := [(.pointer (some ⟨bm0, 0, none⟩)), (.pointer (some ⟨bm1, 0, none⟩)), .slice a0 a2 a1, (.int .i64 (5 : Int)), .int .i64 a3]
def request_Reply_m1 (bm0 : Nat) (b0 b1 b2 b3 : Int) (a0 : Option Addr) (a6 a3 : Nat) (a1 : Option Addr) (a7 a4 bm1 : Nat) (a9 a2 : Option Addr) (a8 a5 : Nat) : List TB := [⟨bm0, 43, [.int .i64 b0, .int .i64 b1, .int .i64 b2, .int .i64 b3, .slice a0 a6 a3, .slice a1 a7 a4], false⟩, ⟨bm1, 184, [.pointer a9, .slice a2 a8 a5], true⟩]
def request_Reply_v2 (a0 : Option Addr) (a2 a1 : Nat) (a3 : Int) (bm0 bm1 : Nat) (a4 : Int) : List Value := [(.pointer (some ⟨bm0, 0, none⟩)), (.pointer (some ⟨bm1, 0, none⟩)), .slice a0 a2 a1, .int .i64 a3, .int .i64 a4]
def request_Reply_m2 (bm0 : Nat) (b0 b1 b2 b3 : Int) (a0 : Option Addr) (a6 a3 : Nat) (a1 : Option Addr) (a7 a4 bm1 : Nat) (a9 a2 : Option Addr) (a8 a5 : Nat) : List TB := [⟨bm0, 43, [.int .i64 b0, .int .i64 b1, .int .i64 b2, .int .i64 b3, .slice a0 a6 a3, .slice a1 a7 a4], false⟩, ⟨bm1, 184, [.pointer a9, .slice a2 a8 a5], true⟩]
def request_Reply_v3 (a0 : Option Addr) (a2 a1 : Nat) (a3 : Int) (bm1 : Nat) (a4 : Int) : List Value := [(.pointer (some ⟨bm1, 0, none⟩)), .slice a0 a2 a1, .int .i64 a3, .int .i64 a4]
def request_Reply_m3 (bm0 : Nat) (b0 b1 b2 b3 : Int) (a0 : Option Addr) (a6 a3 : Nat) (a1 : Option Addr) (a7 a4 bm1 bm2 : Nat) (a9 a2 : Option Addr) (a8 a5 : Nat) (b4 : Int) : List TB := [⟨bm0, 43, [.int .i64 b0, .int .i64 b1, .int .i64 b2, .int .i64 b3, .slice a0 a6 a3, .slice a1 a7 a4], false⟩, ⟨bm1, 184, [.pointer a9, .slice a2 a8 a5], true⟩, ⟨bm2, 3, [.int .i64 b4], true⟩]
def request_Reply_L1 (b5 : Option Addr) (b6 b7 bm0 : Nat) (b0 b1 b2 b3 : Int) (a1 : Option Addr) (a0 a3 : Nat) (a7 : Option Addr) (a9 a8 bm1 : Nat) (b4 : Int) (a6 a2 : Option Addr) (a5 a4 : Nat) (K1 : Kh) (R : Value → World → Prop) (w : World) : Prop :=
 w.heap[bm1]? = some (.cells #[.pointer a6, .slice a2 a5 a4] 184) →
 brB (decide (b4 < (5 : Int))) (
 ixA b5 b6 b4 1 fun q9 =>
 ldInt .i64 w q9 fun x10 =>
 ∀ b11, w.heap.size ≤ b11 →
 ∀ w12, Adv [] [b11] w w12 → w12.heap[bm1]? = some (.cells #[.pointer a6, .slice a2 a5 a4] 184) →
 w12.heap[b11]? = some (.cells #[.int .i64 x10] 3) →
 Calls Tryz.prog 127 #[(.pointer (some ⟨bm1, 0, none⟩)), (.pointer (some ⟨b11, 0, none⟩))] w12 fun e w13 => e = .returned (.tuple #[]) ∧ KeepE [bm1, b11] [(bm0, 43)] [bm0] w12 w13 ∧ ∃ (p14 a15 : Option Addr) (n16 c17 : Nat), w13.heap[bm1]? = some (.cells #[.pointer p14, .slice a15 n16 c17] 184) ∧ ∃ x18 : Int, w13.heap[b11]? = some (.cells #[.int .i64 x18] 3) ∧
 K1 (request_Reply_v1 b5 b6 b7 bm0 bm1 (IntKind.wrap .i64 (b4 + 1))) (request_Reply_m1 bm0 b0 b1 b2 b3 a1 a0 a3 a7 a9 a8 bm1 p14 a15 n16 c17) w13)
 (
 loopD3 request_Reply_la2 (dnF Tryz.prog request_Reply_an (code Tryz.f114) 394 [0, 0, 1, 0, 1, 1, 1, 1]) (kont3 Tryz.prog request_Reply_an (code Tryz.f114) [1, 1, 1, 1, 0, 1, 0] [] (post3 Tryz.prog Tryz.f114 [] R)) (request_Reply_v2 a1 a0 a3 (a0 : Int) bm0 bm1 0) (request_Reply_m2 bm0 b0 b1 b2 b3 a1 a0 a3 a7 a9 a8 bm1 a6 a2 a5 a4) w)
theorem request_Reply_L1_eq (b4 : Option Addr) (b6 b5 bm0 : Nat) (b0 b1 b2 b3 : Int) (a0 : Option Addr) (a6 a3 : Nat) (a1 : Option Addr) (a7 a4 bm1 : Nat) (b7 : Int) (a9 a2 : Option Addr) (a8 a5 : Nat) (K1 : Kh) (js : Nat → Value) (R : Value → World → Prop) (w : World) :
 headA request_Reply_la1 ((dnF Tryz.prog request_Reply_an (code Tryz.f114) 395 [0, 0, 1, 0, 1, 1, 1]) (kthen3 (atA request_Reply_la1 K1) (kont3 Tryz.prog request_Reply_an (code Tryz.f114) [1, 1, 1, 0, 1, 0] [] (post3 Tryz.prog Tryz.f114 [] R)))) (request_Reply_v1 b4 b6 b5 bm0 bm1 b7) js (request_Reply_m1 bm0 b0 b1 b2 b3 a0 a6 a3 a1 a7 a4 bm1 a9 a2 a8 a5) w = request_Reply_L1 b4 b6 b5 bm0 b0 b1 b2 b3 a0 a6 a3 a1 a7 a4 bm1 b7 a9 a2 a8 a5 K1 R w := by kernel_rfl
def request_Reply_K1 (b5 : Option Addr) (b7 b6 bm0 : Nat) (b1 b2 b3 b4 : Int) (a4 : Option Addr) (a8 a6 : Nat) (a5 : Option Addr) (a9 a7 bm1 : Nat) (I : Nat → Int → Option Addr → Option Addr → Nat → Nat → World → Prop) (m : Nat) (vals : List Value) (mem : List TB) (w : World) : Prop := ∃ m', m' < m ∧ ∃ b0 a3 a0 a2 a1, vals = (request_Reply_v1 b5 b7 b6 bm0 bm1 b0) ∧ mem = (request_Reply_m1 bm0 b1 b2 b3 b4 a4 a8 a6 a5 a9 a7 bm1 a3 a0 a2 a1) ∧ I m' b0 a3 a0 a2 a1 w
theorem request_Reply_leaf1 {b4 : Option Addr} {b6 b5 bm0 : Nat} {b0 b1 b2 b3 : Int} {a0 : Option Addr} {a6 a3 : Nat} {a1 : Option Addr} {a7 a4 bm1 : Nat} {I : Nat → Int → Option Addr → Option Addr → Nat → Nat → World → Prop} {m : Nat} {b7 : Int} {a9 a2 : Option Addr} {a8 a5 : Nat} {w : World} (m' : Nat) (h1 : m' < m) (h2 : I m' b7 a9 a2 a8 a5 w) : request_Reply_K1 b4 b6 b5 bm0 b0 b1 b2 b3 a0 a6 a3 a1 a7 a4 bm1 I m (request_Reply_v1 b4 b6 b5 bm0 bm1 b7) (request_Reply_m1 bm0 b0 b1 b2 b3 a0 a6 a3 a1 a7 a4 bm1 a9 a2 a8 a5) w := ⟨m', h1, _, _, _, _, _, rfl, rfl, h2⟩
theorem request_Reply_rule1 {b9 : Option Addr} {c1 c0 bm0 : Nat} {b1 b2 b3 b4 : Int} {a5 : Option Addr} {a9 a7 : Nat} {a6 : Option Addr} {b0 a8 bm1 : Nat} {c2 : Int} {b8 b5 : Option Addr} {b7 b6 : Nat} {R : Value → World → Prop} {w0 : World} (I : Nat → Int → Option Addr → Option Addr → Nat → Nat → World → Prop) (m0 : Nat) (h0 : I m0 c2 b8 b5 b7 b6 w0)
 (hr : ∀ (m : Nat) (a4 : Int) (a3 a0 : Option Addr) (a2 a1 : Nat) (w : World), I m a4 a3 a0 a2 a1 w → request_Reply_L1 b9 c1 c0 bm0 b1 b2 b3 b4 a5 a9 a7 a6 b0 a8 bm1 a4 a3 a0 a2 a1 (request_Reply_K1 b9 c1 c0 bm0 b1 b2 b3 b4 a5 a9 a7 a6 b0 a8 bm1 I m) R w) :
 loopD3 request_Reply_la1 (dnF Tryz.prog request_Reply_an (code Tryz.f114) 395 [0, 0, 1, 0, 1, 1, 1]) (kont3 Tryz.prog request_Reply_an (code Tryz.f114) [1, 1, 1, 0, 1, 0] [] (post3 Tryz.prog Tryz.f114 [] R)) (request_Reply_v1 b9 c1 c0 bm0 bm1 c2) (request_Reply_m1 bm0 b1 b2 b3 b4 a5 a9 a7 a6 b0 a8 bm1 b8 b5 b7 b6) w0 := by
 refine ⟨fun m vals mem w => ∃ a4 a3 a0 a2 a1, vals = (request_Reply_v1 b9 c1 c0 bm0 bm1 a4) ∧ mem = (request_Reply_m1 bm0 b1 b2 b3 b4 a5 a9 a7 a6 b0 a8 bm1 a3 a0 a2 a1) ∧ I m a4 a3 a0 a2 a1 w, m0, ⟨_, _, _, _, _, rfl, rfl, h0⟩, ?_⟩
 rintro m vals mem w ⟨a4, a3, a0, a2, a1, rfl, rfl, hI⟩
 refine ⟨rfl, rfl, fun js => ?_⟩
 have h := hr m a4 a3 a0 a2 a1 w hI
 rw [← request_Reply_L1_eq _ _ _ _ _ _ _ _ _ _ _ _ _ _ _ _ _ _ _ _ _ js] at h
 exact h
def request_Reply_L2 (b5 : Option Addr) (b6 b8 : Nat) (b7 : Int) (bm0 : Nat) (b0 b1 b2 b3 : Int) (a7 : Option Addr) (a9 a8 : Nat) (a1 : Option Addr) (a0 a3 bm1 : Nat) (b4 : Int) (a6 a2 : Option Addr) (a5 a4 : Nat) (K2 : Kh) (R : Value → World → Prop) (w : World) : Prop :=
 w.heap[bm1]? = some (.cells #[.pointer a6, .slice a2 a5 a4] 184) →
 brB (decide (b4 < b7)) (
 ixA b5 b6 b4 5 fun q19 =>
 ldInt .i64 w q19 fun x20 => ldBool w (Addr.add q19 1) fun t21 => ldStr w (Addr.add q19 2) fun s22 => ldBool w (Addr.add q19 3) fun t23 => ldStr w (Addr.add q19 4) fun s24 =>
 ∀ b25, w.heap.size ≤ b25 →
 ∀ w26, Adv [] [b25] w w26 → w26.heap[bm1]? = some (.cells #[.pointer a6, .slice a2 a5 a4] 184) →
 w26.heap[b25]? = some (.cells #[.int .i64 x20, .bool t21, .string s22, .bool t23, .string s24] 152) →
 Calls Tryz.prog 127 #[(.pointer (some ⟨bm1, 0, none⟩)), (.pointer (some ⟨b25, 0, none⟩))] w26 fun e w27 => e = .returned (.tuple #[]) ∧ KeepE [bm1, b25] [(bm0, 43)] [bm0] w26 w27 ∧ ∃ (p28 a29 : Option Addr) (n30 c31 : Nat), w27.heap[bm1]? = some (.cells #[.pointer p28, .slice a29 n30 c31] 184) ∧ ∃ (x32 : Int) (t33 : Bool) (s34 : ByteArray) (t35 : Bool) (s36 : ByteArray), w27.heap[b25]? = some (.cells #[.int .i64 x32, .bool t33, .string s34, .bool t35, .string s36] 152) ∧
 Calls Tryz.prog 147 #[(.agg #[.bool t33, .string s34, .bool t35, .string s36])] w27 fun e w37 => ∃ (s38 : ByteArray) (x39 : Int), e = .returned (.tuple #[.string s38, .int .i64 x39]) ∧ KeepE [bm1, b25] [(bm0, 43)] [bm0] w27 w37 ∧ ∃ (p40 a41 : Option Addr) (n42 c43 : Nat), w37.heap[bm1]? = some (.cells #[.pointer p40, .slice a41 n42 c43] 184) ∧ ∃ (x44 : Int) (t45 : Bool) (s46 : ByteArray) (t47 : Bool) (s48 : ByteArray), w37.heap[b25]? = some (.cells #[.int .i64 x44, .bool t45, .string s46, .bool t47, .string s48] 152) ∧
 Calls Tryz.prog 76 #[(.pointer (some ⟨bm1, 0, none⟩)), .string s38] w37 fun e w49 => ∃ (x50 : Int) (v51 : Value), e = .returned (.tuple #[.int .i64 x50, v51]) ∧ KeepE [bm1, b25] [(bm0, 43)] [bm0] w37 w49 ∧ ∃ (p52 a53 : Option Addr) (n54 c55 : Nat), w49.heap[bm1]? = some (.cells #[.pointer p52, .slice a53 n54 c55] 184) ∧ ∃ (x56 : Int) (t57 : Bool) (s58 : ByteArray) (t59 : Bool) (s60 : ByteArray), w49.heap[b25]? = some (.cells #[.int .i64 x56, .bool t57, .string s58, .bool t59, .string s60] 152) ∧
 K2 (request_Reply_v2 b5 b6 b8 b7 bm0 bm1 (IntKind.wrap .i64 (b4 + 1))) (request_Reply_m2 bm0 b0 b1 b2 b3 a7 a9 a8 a1 a0 a3 bm1 p52 a53 n54 c55) w49)
 (
 ∀ b61, w.heap.size ≤ b61 →
 ∀ w62, Adv [] [b61] w w62 → w62.heap[bm1]? = some (.cells #[.pointer a6, .slice a2 a5 a4] 184) →
 w62.heap[b61]? = some (.cells #[(.int .i64 (a0 : Int))] 3) →
 Calls Tryz.prog 127 #[(.pointer (some ⟨bm1, 0, none⟩)), (.pointer (some ⟨b61, 0, none⟩))] w62 fun e w63 => e = .returned (.tuple #[]) ∧ KeepE [bm1, b61] [(bm0, 43)] [bm0] w62 w63 ∧ ∃ (p64 a65 : Option Addr) (n66 c67 : Nat), w63.heap[bm1]? = some (.cells #[.pointer p64, .slice a65 n66 c67] 184) ∧ ∃ x68 : Int, w63.heap[b61]? = some (.cells #[.int .i64 x68] 3) ∧
 loopD3 request_Reply_la3 (dnF Tryz.prog request_Reply_an (code Tryz.f114) 391 [0, 0, 1, 0, 1, 1, 1, 1, 1, 1, 1]) (kont3 Tryz.prog request_Reply_an (code Tryz.f114) [1, 1, 1, 1, 1, 1, 1, 0, 1, 0] [] (post3 Tryz.prog Tryz.f114 [] R)) (request_Reply_v3 a1 a0 a3 (a0 : Int) bm1 0) (request_Reply_m3 bm0 b0 b1 b2 b3 a7 a9 a8 a1 a0 a3 bm1 b61 p64 a65 n66 c67 x68) w63)
theorem request_Reply_L2_eq (b4 : Option Addr) (b6 b5 : Nat) (b7 : Int) (bm0 : Nat) (b0 b1 b2 b3 : Int) (a0 : Option Addr) (a6 a3 : Nat) (a1 : Option Addr) (a7 a4 bm1 : Nat) (b8 : Int) (a9 a2 : Option Addr) (a8 a5 : Nat) (K2 : Kh) (js : Nat → Value) (R : Value → World → Prop) (w : World) :
 headA request_Reply_la2 ((dnF Tryz.prog request_Reply_an (code Tryz.f114) 394 [0, 0, 1, 0, 1, 1, 1, 1]) (kthen3 (atA request_Reply_la2 K2) (kont3 Tryz.prog request_Reply_an (code Tryz.f114) [1, 1, 1, 1, 0, 1, 0] [] (post3 Tryz.prog Tryz.f114 [] R)))) (request_Reply_v2 b4 b6 b5 b7 bm0 bm1 b8) js (request_Reply_m2 bm0 b0 b1 b2 b3 a0 a6 a3 a1 a7 a4 bm1 a9 a2 a8 a5) w = request_Reply_L2 b4 b6 b5 b7 bm0 b0 b1 b2 b3 a0 a6 a3 a1 a7 a4 bm1 b8 a9 a2 a8 a5 K2 R w := by kernel_rfl
def request_Reply_K2 (b5 : Option Addr) (b7 b6 : Nat) (b8 : Int) (bm0 : Nat) (b1 b2 b3 b4 : Int) (a4 : Option Addr) (a8 a6 : Nat) (a5 : Option Addr) (a9 a7 bm1 : Nat) (I : Nat → Int → Option Addr → Option Addr → Nat → Nat → World → Prop) (m : Nat) (vals : List Value) (mem : List TB) (w : World) : Prop := ∃ m', m' < m ∧ ∃ b0 a3 a0 a2 a1, vals = (request_Reply_v2 b5 b7 b6 b8 bm0 bm1 b0) ∧ mem = (request_Reply_m2 bm0 b1 b2 b3 b4 a4 a8 a6 a5 a9 a7 bm1 a3 a0 a2 a1) ∧ I m' b0 a3 a0 a2 a1 w
theorem request_Reply_leaf2 {b4 : Option Addr} {b6 b5 : Nat} {b7 : Int} {bm0 : Nat} {b0 b1 b2 b3 : Int} {a0 : Option Addr} {a6 a3 : Nat} {a1 : Option Addr} {a7 a4 bm1 : Nat} {I : Nat → Int → Option Addr → Option Addr → Nat → Nat → World → Prop} {m : Nat} {b8 : Int} {a9 a2 : Option Addr} {a8 a5 : Nat} {w : World} (m' : Nat) (h1 : m' < m) (h2 : I m' b8 a9 a2 a8 a5 w) : request_Reply_K2 b4 b6 b5 b7 bm0 b0 b1 b2 b3 a0 a6 a3 a1 a7 a4 bm1 I m (request_Reply_v2 b4 b6 b5 b7 bm0 bm1 b8) (request_Reply_m2 bm0 b0 b1 b2 b3 a0 a6 a3 a1 a7 a4 bm1 a9 a2 a8 a5) w := ⟨m', h1, _, _, _, _, _, rfl, rfl, h2⟩
theorem request_Reply_rule2 {b9 : Option Addr} {c1 c0 : Nat} {c2 : Int} {bm0 : Nat} {b1 b2 b3 b4 : Int} {a5 : Option Addr} {a9 a7 : Nat} {a6 : Option Addr} {b0 a8 bm1 : Nat} {c3 : Int} {b8 b5 : Option Addr} {b7 b6 : Nat} {R : Value → World → Prop} {w0 : World} (I : Nat → Int → Option Addr → Option Addr → Nat → Nat → World → Prop) (m0 : Nat) (h0 : I m0 c3 b8 b5 b7 b6 w0)
 (hr : ∀ (m : Nat) (a4 : Int) (a3 a0 : Option Addr) (a2 a1 : Nat) (w : World), I m a4 a3 a0 a2 a1 w → request_Reply_L2 b9 c1 c0 c2 bm0 b1 b2 b3 b4 a5 a9 a7 a6 b0 a8 bm1 a4 a3 a0 a2 a1 (request_Reply_K2 b9 c1 c0 c2 bm0 b1 b2 b3 b4 a5 a9 a7 a6 b0 a8 bm1 I m) R w) :
 loopD3 request_Reply_la2 (dnF Tryz.prog request_Reply_an (code Tryz.f114) 394 [0, 0, 1, 0, 1, 1, 1, 1]) (kont3 Tryz.prog request_Reply_an (code Tryz.f114) [1, 1, 1, 1, 0, 1, 0] [] (post3 Tryz.prog Tryz.f114 [] R)) (request_Reply_v2 b9 c1 c0 c2 bm0 bm1 c3) (request_Reply_m2 bm0 b1 b2 b3 b4 a5 a9 a7 a6 b0 a8 bm1 b8 b5 b7 b6) w0 := by
 refine ⟨fun m vals mem w => ∃ a4 a3 a0 a2 a1, vals = (request_Reply_v2 b9 c1 c0 c2 bm0 bm1 a4) ∧ mem = (request_Reply_m2 bm0 b1 b2 b3 b4 a5 a9 a7 a6 b0 a8 bm1 a3 a0 a2 a1) ∧ I m a4 a3 a0 a2 a1 w, m0, ⟨_, _, _, _, _, rfl, rfl, h0⟩, ?_⟩
 rintro m vals mem w ⟨a4, a3, a0, a2, a1, rfl, rfl, hI⟩
 refine ⟨rfl, rfl, fun js => ?_⟩
 have h := hr m a4 a3 a0 a2 a1 w hI
 rw [← request_Reply_L2_eq _ _ _ _ _ _ _ _ _ _ _ _ _ _ _ _ _ _ _ _ _ _ js] at h
 exact h
def request_Reply_L3 (a6 : Option Addr) (b1 b9 : Nat) (b4 : Int) (bm0 : Nat) (b5 b6 b7 b8 : Int) (a7 : Option Addr) (b2 a9 : Nat) (a8 : Option Addr) (b3 b0 bm1 bm2 : Nat) (a5 : Int) (a3 a0 : Option Addr) (a2 a1 : Nat) (a4 : Int) (K3 : Kh) (R : Value → World → Prop) (w : World) : Prop :=
 w.heap[bm1]? = some (.cells #[.pointer a3, .slice a0 a2 a1] 184) →
 w.heap[bm2]? = some (.cells #[.int .i64 a4] 3) →
 brB (decide (a5 < b4)) (
 ixA a6 b1 a5 2 fun q69 =>
 ldStr w q69 fun s70 => ldInt .i64 w (Addr.add q69 1) fun x71 =>
 ∀ b72, w.heap.size ≤ b72 →
 ∀ w73, Adv [] [b72] w w73 → w73.heap[bm1]? = some (.cells #[.pointer a3, .slice a0 a2 a1] 184) →
 w73.heap[bm2]? = some (.cells #[.int .i64 a4] 3) →
 w73.heap[b72]? = some (.cells #[.string s70, .int .i64 x71] 32) →
 Calls Tryz.prog 142 #[(.iface 182 (.pointer (some ⟨bm1, 0, none⟩))), (.pointer (some ⟨b72, 0, none⟩))] w73 fun e w74 => e = .returned (.tuple #[]) ∧ KeepE [bm1, bm2, b72] [(bm0, 43)] [bm0] w73 w74 ∧ ∃ (p75 a76 : Option Addr) (n77 c78 : Nat), w74.heap[bm1]? = some (.cells #[.pointer p75, .slice a76 n77 c78] 184) ∧ ∃ x79 : Int, w74.heap[bm2]? = some (.cells #[.int .i64 x79] 3) ∧ ∃ (s80 : ByteArray) (x81 : Int), w74.heap[b72]? = some (.cells #[.string s80, .int .i64 x81] 32) ∧
 K3 (request_Reply_v3 a6 b1 b9 b4 bm1 (IntKind.wrap .i64 (a5 + 1))) (request_Reply_m3 bm0 b5 b6 b7 b8 a7 b2 a9 a8 b3 b0 bm1 bm2 p75 a76 n77 c78 x79) w74)
 (
 Calls Tryz.prog 81 #[(.pointer (some ⟨bm1, 0, none⟩))] w fun e w82 => ∃ s83 : ByteArray, e = .returned (.string s83) ∧ KeepE [bm1, bm2] [(bm0, 43)] [bm0] w w82 ∧ ∃ (p84 a85 : Option Addr) (n86 c87 : Nat), w82.heap[bm1]? = some (.cells #[.pointer p84, .slice a85 n86 c87] 184) ∧ ∃ x88 : Int, w82.heap[bm2]? = some (.cells #[.int .i64 x88] 3) ∧
 R (.tuple #[.string s83, .int .i64 0]) w82)
theorem request_Reply_L3_eq (b5 : Option Addr) (b7 b6 : Nat) (b8 : Int) (bm0 : Nat) (b0 b1 b2 b3 : Int) (a0 : Option Addr) (a6 a3 : Nat) (a1 : Option Addr) (a7 a4 bm1 bm2 : Nat) (b9 : Int) (a9 a2 : Option Addr) (a8 a5 : Nat) (b4 : Int) (K3 : Kh) (js : Nat → Value) (R : Value → World → Prop) (w : World) :
 headA request_Reply_la3 ((dnF Tryz.prog request_Reply_an (code Tryz.f114) 391 [0, 0, 1, 0, 1, 1, 1, 1, 1, 1, 1]) (kthen3 (atA request_Reply_la3 K3) (kont3 Tryz.prog request_Reply_an (code Tryz.f114) [1, 1, 1, 1, 1, 1, 1, 0, 1, 0] [] (post3 Tryz.prog Tryz.f114 [] R)))) (request_Reply_v3 b5 b7 b6 b8 bm1 b9) js (request_Reply_m3 bm0 b0 b1 b2 b3 a0 a6 a3 a1 a7 a4 bm1 bm2 a9 a2 a8 a5 b4) w = request_Reply_L3 b5 b7 b6 b8 bm0 b0 b1 b2 b3 a0 a6 a3 a1 a7 a4 bm1 bm2 b9 a9 a2 a8 a5 b4 K3 R w := by kernel_rfl
def request_Reply_K3 (b6 : Option Addr) (b8 b7 : Nat) (b9 : Int) (bm0 : Nat) (b2 b3 b4 b5 : Int) (a5 : Option Addr) (a9 a7 : Nat) (a6 : Option Addr) (b0 a8 bm1 bm2 : Nat) (I : Nat → Int → Option Addr → Option Addr → Nat → Nat → Int → World → Prop) (m : Nat) (vals : List Value) (mem : List TB) (w : World) : Prop := ∃ m', m' < m ∧ ∃ b1 a3 a0 a2 a1 a4, vals = (request_Reply_v3 b6 b8 b7 b9 bm1 b1) ∧ mem = (request_Reply_m3 bm0 b2 b3 b4 b5 a5 a9 a7 a6 b0 a8 bm1 bm2 a3 a0 a2 a1 a4) ∧ I m' b1 a3 a0 a2 a1 a4 w
theorem request_Reply_leaf3 {b5 : Option Addr} {b7 b6 : Nat} {b8 : Int} {bm0 : Nat} {b0 b1 b2 b3 : Int} {a0 : Option Addr} {a6 a3 : Nat} {a1 : Option Addr} {a7 a4 bm1 bm2 : Nat} {I : Nat → Int → Option Addr → Option Addr → Nat → Nat → Int → World → Prop} {m : Nat} {b9 : Int} {a9 a2 : Option Addr} {a8 a5 : Nat} {b4 : Int} {w : World} (m' : Nat) (h1 : m' < m) (h2 : I m' b9 a9 a2 a8 a5 b4 w) : request_Reply_K3 b5 b7 b6 b8 bm0 b0 b1 b2 b3 a0 a6 a3 a1 a7 a4 bm1 bm2 I m (request_Reply_v3 b5 b7 b6 b8 bm1 b9) (request_Reply_m3 bm0 b0 b1 b2 b3 a0 a6 a3 a1 a7 a4 bm1 bm2 a9 a2 a8 a5 b4) w := ⟨m', h1, _, _, _, _, _, _, rfl, rfl, h2⟩
theorem request_Reply_rule3 {c1 : Option Addr} {c3 c2 : Nat} {c4 : Int} {bm0 : Nat} {b2 b3 b4 b5 : Int} {a6 : Option Addr} {b0 a8 : Nat} {a7 : Option Addr} {b1 a9 bm1 bm2 : Nat} {c5 : Int} {b9 b6 : Option Addr} {b8 b7 : Nat} {c0 : Int} {R : Value → World → Prop} {w0 : World} (I : Nat → Int → Option Addr → Option Addr → Nat → Nat → Int → World → Prop) (m0 : Nat) (h0 : I m0 c5 b9 b6 b8 b7 c0 w0)
 (hr : ∀ (m : Nat) (a5 : Int) (a3 a0 : Option Addr) (a2 a1 : Nat) (a4 : Int) (w : World), I m a5 a3 a0 a2 a1 a4 w → request_Reply_L3 c1 c3 c2 c4 bm0 b2 b3 b4 b5 a6 b0 a8 a7 b1 a9 bm1 bm2 a5 a3 a0 a2 a1 a4 (request_Reply_K3 c1 c3 c2 c4 bm0 b2 b3 b4 b5 a6 b0 a8 a7 b1 a9 bm1 bm2 I m) R w) :
 loopD3 request_Reply_la3 (dnF Tryz.prog request_Reply_an (code Tryz.f114) 391 [0, 0, 1, 0, 1, 1, 1, 1, 1, 1, 1]) (kont3 Tryz.prog request_Reply_an (code Tryz.f114) [1, 1, 1, 1, 1, 1, 1, 0, 1, 0] [] (post3 Tryz.prog Tryz.f114 [] R)) (request_Reply_v3 c1 c3 c2 c4 bm1 c5) (request_Reply_m3 bm0 b2 b3 b4 b5 a6 b0 a8 a7 b1 a9 bm1 bm2 b9 b6 b8 b7 c0) w0 := by
 refine ⟨fun m vals mem w => ∃ a5 a3 a0 a2 a1 a4, vals = (request_Reply_v3 c1 c3 c2 c4 bm1 a5) ∧ mem = (request_Reply_m3 bm0 b2 b3 b4 b5 a6 b0 a8 a7 b1 a9 bm1 bm2 a3 a0 a2 a1 a4) ∧ I m a5 a3 a0 a2 a1 a4 w, m0, ⟨_, _, _, _, _, _, rfl, rfl, h0⟩, ?_⟩
 rintro m vals mem w ⟨a5, a3, a0, a2, a1, a4, rfl, rfl, hI⟩
 refine ⟨rfl, rfl, fun js => ?_⟩
 have h := hr m a5 a3 a0 a2 a1 a4 w hI
 rw [← request_Reply_L3_eq _ _ _ _ _ _ _ _ _ _ _ _ _ _ _ _ _ _ _ _ _ _ _ _ js] at h
 exact h
def request_Reply_T (a1 a2 a3 a4 : Int) (a5 : Option Addr) (a0 a6 : Nat) (a7 : Option Addr) (a9 a8 : Nat) (R : Value → World → Prop) (w : World) : Prop :=
 ∀ b1, w.heap.size ≤ b1 →
 ∀ w2, Adv [] [b1] w w2 →
 Calls Tryz.prog 146 #[(.agg #[.int .i64 a1, .int .i64 a2, .int .i64 a3, .int .i64 a4, .slice a5 a0 a6, .slice a7 a9 a8])] w2 fun e w3 => ∃ x4 : Int, e = .returned (.int .i64 x4) ∧ Keep [b1] w2 w3 ∧
 brB (x4 != 0) (
 R (.tuple #[(.string (⟨#[]⟩ : ByteArray)), .int .i64 x4]) w3)
 (
 ∀ b5, w3.heap.size ≤ b5 →
 ∀ w6, Adv [] [b5] w3 w6 →
 al w6 (.cells #[.int .i64 a1, .int .i64 a2, .int .i64 a3, .int .i64 a4, (.int .i64 (a0 : Int))] 3) fun b7 w8 =>
 ∀ w89, Adv [] [] w8 w89 → w89.heap[b5]? = some (.cells #[.pointer none, .slice none 0 0] 184) →
 loopD3 request_Reply_la1 (dnF Tryz.prog request_Reply_an (code Tryz.f114) 395 [0, 0, 1, 0, 1, 1, 1]) (kont3 Tryz.prog request_Reply_an (code Tryz.f114) [1, 1, 1, 0, 1, 0] [] (post3 Tryz.prog Tryz.f114 [] R)) (request_Reply_v1 (some ⟨b7, 0, none⟩) 5 5 b1 b5 0) (request_Reply_m1 b1 a1 a2 a3 a4 a5 a0 a6 a7 a9 a8 b5 none none 0 0) w89)
theorem request_Reply_eq (a6 a7 a8 a9 : Int) (a0 : Option Addr) (a2 a1 : Nat) (a3 : Option Addr) (a5 a4 : Nat) (R : Value → World → Prop) (w : World) :
 dnF Tryz.prog request_Reply_an (code Tryz.f114) 400 [] (post3 Tryz.prog Tryz.f114 [] R) ⟨args0 0 [(.agg #[.int .i64 a6, .int .i64 a7, .int .i64 a8, .int .i64 a9, .slice a0 a2 a1, .slice a3 a5 a4])], fun _ => undef⟩ ⟨[], w, [], [], true⟩ = request_Reply_T a6 a7 a8 a9 a0 a2 a1 a3 a5 a4 R w := by kernel_rfl
theorem request_Reply_go {a6 a7 a8 a9 : Int} {a0 : Option Addr} {a2 a1 : Nat} {a3 : Option Addr} {a5 a4 : Nat} {R : Value → World → Prop} {w : World} (h : request_Reply_T a6 a7 a8 a9 a0 a2 a1 a3 a5 a4 R w) :
 Calls Tryz.prog 114 #[(.agg #[.int .i64 a6, .int .i64 a7, .int .i64 a8, .int .i64 a9, .slice a0 a2 a1, .slice a3 a5 a4])] w fun e w' => ∃ v, e = .returned v ∧ R v w' :=
 calls_none Tryz.wide_mixed (f := 114) (args := [(.agg #[.int .i64 a6, .int .i64 a7, .int .i64 a8, .int .i64 a9, .slice a0 a2 a1, .slice a3 a5 a4])]) Tryz.func114 rfl rfl (by kernel_rfl) rfl (Eq.mpr (request_Reply_eq a6 a7 a8 a9 a0 a2 a1 a3 a5 a4 R w) h)

end Go.Proofs.YtohgihgddknmmaaGreat

/- A reply's bytes: records, texts, numbers, as they are written. -/
namespace Go.Proofs.YtohgihgddknmmaaGreat
open Go Go.RowKit
set_option linter.unusedVariables false
set_option linter.unusedSimpArgs false

def bs (l : List UInt8) : ByteArray := ⟨l.toArray⟩
theorem bs_size (l : List UInt8) : (bs l).size = l.length := by simp [bs, ByteArray.size]
theorem bs_append (a : List UInt8) (s : ByteArray) : bs a ++ s = bs (a ++ s.data.toList) := by
  apply ByteArray.ext
  simp [bs, ByteArray.data_append]
theorem bs_app (a b : List UInt8) : bs a ++ bs b = bs (a ++ b) := by rw [bs_append]; simp [bs]
theorem vPutL_len (n : Nat) (hn : n < 18446744073709551616) : 1 ≤ (vPutL n).length ∧ (vPutL n).length ≤ 10 := by
  have := sevL_len 9 n (by omega)
  simp [vPutL]; omega
def putT (s : ByteArray) : List UInt8 := vPutL s.size ++ s.data.toList
theorem putT_len (s : ByteArray) (hs : s.size ≤ 4611686018427387904) : 1 ≤ (putT s).length ∧ (putT s).length ≤ s.size + 10 := by
  have h := vPutL_len s.size (by omega)
  have e : (putT s).length = (vPutL s.size).length + s.size := by rw [putT, List.length_append, Array.length_toList]; rfl
  omega
theorem wrapU {n : Nat} (hn : n < 18446744073709551616) : IntKind.wrap .u64 (n : Int) = (n : Int) := by rw [IntKind.wrap_u64]; omega

theorem PutText_ok (s : ByteArray) (hs : s.size ≤ 4611686018427387904) (w : World) : Calls Tryz.prog 80 #[.string s] w fun e w' => e = .returned (.string (bs (putT s))) ∧ Mod [] w w' := by
  refine go_of (varint_PutText_go ?_)
  unfold varint_PutText_T
  rw [wrapU (by omega)]
  refine (Put_ok s.size (by omega) w).mono ?_
  rintro e w1 ⟨rfl, M1⟩
  have h2 := vPut_size s.size (by omega)
  exact ⟨_, rfl, by omega, congrArg Value.string (bs_append _ _), M1⟩

/-! ### records -/
def kindB (r : PRec) : UInt8 := if r.tomb then 3 else if r.hk then 1 else 0
theorem kind_ok (r : PRec) (w : World) : Calls Tryz.prog 172 #[r.v] w fun e w' => e = .returned (.int .u8 ((kindB r).toNat : Int)) ∧ Mod [] w w' := by
  obtain ⟨hk, key, tomb, val⟩ := r
  refine go_of (record_kind_go ?_)
  intro b1 f1
  refine brB_of (fun h => ?_) fun h => ?_
  · intro w1 A1; subst h; exact ⟨rfl, A1.mod⟩
  · subst h
    refine brB_of (fun h => ?_) fun h => ?_
    · intro w1 A1; subst h; exact ⟨rfl, A1.mod⟩
    · intro w1 A1; subst h; exact ⟨rfl, A1.mod⟩
def recB (r : PRec) : List UInt8 := [kindB r] ++ (if r.hk then putT r.key else []) ++ (if r.tomb then [] else putT r.val)
theorem recE_small {r : PRec} (h : recE r = 0) : r.key.size ≤ 64 ∧ r.val.size ≤ 512 := by
  unfold recE recN at h
  split at h
  · omega
  · split at h <;> omega
theorem text_ok (r : PRec) (hr : recE r = 0) (w : World) : Calls Tryz.prog 164 #[r.v] w fun e w' => e = .returned (.string (bs (recB r))) ∧ Mod [] w w' := by
  obtain ⟨hk, vs⟩ := recE_small hr
  refine go_of (record_text_go ?_)
  intro b1 f1 w1 A1
  refine (kind_ok r w1).mono ?_
  rintro e w2 ⟨rfl, M2⟩
  refine ⟨_, rfl, Keep.of0 M2, ?_⟩
  have N2 := A1.mod.go0 M2 (by simp)
  refine al_of fun b3 w3 c3 M3 f3 => ?_
  have N3 := N2.go0 M3 (by simp)
  have hcv := run_convert_bytes_back (P := Tryz.prog) w3 122 9 5 ⟨b3, 0, none⟩ 1 [kindB r] Tryz.underlying122 Tryz.underlying5 Tryz.underlying9 fun j hj => by
    simp at hj; subst hj
    rw [addr_add, cell_at c3]; rfl
  refine ⟨_, _, hcv, Keep.of0 (Mod.refl _), ?_⟩
  obtain ⟨h1, key, h3, val⟩ := r
  have e0 : (⟨[kindB ⟨h1, key, h3, val⟩].toArray⟩ : ByteArray) = bs [kindB ⟨h1, key, h3, val⟩] := rfl
  rw [e0]
  simp only at hk vs
  have l1 : (putT key).length ≤ 74 := by have := putT_len key (by omega); omega
  have l2 : (putT val).length ≤ 522 := by have := putT_len val (by omega); omega
  refine brB_of (fun g1 => ?_) fun g1 => ?_
  · subst g1
    refine (PutText_ok key (by omega) w3).mono ?_
    rintro e w4 ⟨rfl, M4⟩
    refine ⟨_, rfl, Keep.of0 M4, by simp only [bs_size]; simp; omega, ?_⟩
    rw [bs_app]
    refine brB_of (fun g2 => ?_) fun g2 => ?_
    · have g2 : h3 = false := notT g2
      subst g2
      refine (PutText_ok val (by omega) w4).mono ?_
      rintro e w5 ⟨rfl, M5⟩
      refine ⟨_, rfl, Keep.of0 M5, by simp only [bs_size]; simp; omega, ?_⟩
      exact ⟨by rw [bs_app]; simp [recB], (N3.go0 M4 (by simp)).go0 M5 (by simp)⟩
    · have g2 : h3 = true := notF g2
      subst g2
      exact ⟨by simp [recB], N3.go0 M4 (by simp)⟩
  · subst g1
    refine brB_of (fun g2 => ?_) fun g2 => ?_
    · have g2 : h3 = false := notT g2
      subst g2
      refine (PutText_ok val (by omega) w3).mono ?_
      rintro e w5 ⟨rfl, M5⟩
      refine ⟨_, rfl, Keep.of0 M5, by simp only [bs_size]; simp; omega, ?_⟩
      exact ⟨by rw [bs_app]; simp [recB], N3.go0 M5 (by simp)⟩
    · have g2 : h3 = true := notF g2
      subst g2
      exact ⟨by simp [recB], N3⟩
theorem recB_len {r : PRec} (hr : recE r = 0) : (recB r).length ≤ 600 := by
  obtain ⟨hk, vs⟩ := recE_small hr
  have l1 : (putT r.key).length ≤ 74 := by have := putT_len r.key (by omega); omega
  have l2 : (putT r.val).length ≤ 522 := by have := putT_len r.val (by omega); omega
  unfold recB
  split <;> split <;> simp <;> omega
theorem RecPut_ok (r : PRec) (w : World) : Calls Tryz.prog 147 #[r.v] w fun e w' => e = .returned (.tuple #[.string (if recE r = 0 then bs (recB r) else bs []), .int .i64 (recE r)]) ∧ Mod [] w w' := by
  refine go_of (record_Put_go ?_)
  intro b1 f1 w1 A1
  refine (RecCheck_ok r w1).mono ?_
  rintro e w2 ⟨rfl, M2⟩
  refine ⟨_, rfl, Keep.of0 M2, ?_⟩
  have N2 := A1.mod.go0 M2 (by simp)
  refine brB_of (fun g1 => ?_) fun g1 => ?_
  · have g : ¬ recE r = 0 := by simpa using g1
    rw [if_neg g]; exact ⟨rfl, N2⟩
  · have g : recE r = 0 := by simpa using g1
    refine (text_ok r g w2).mono ?_
    rintro e w3 ⟨rfl, M3⟩
    refine ⟨_, rfl, Keep.of0 M3, ?_, N2.go0 M3 (by simp)⟩
    rw [if_pos g, g]

/-! ### the writer -/
theorem BTw : BT 184 := ⟨by kernel_rfl, by decide⟩
/-- What has been written. -/
abbrev Bd (B b : Nat) (l : List UInt8) (w : World) : Prop := Lib.IsBuilderF 184 5 B b (Lib.byteCells l) w
/-- What a method of it leaves. -/
structure Wr (B b : Nat) (w w' : World) : Prop where
  bel : Below B w w'
  oth : Lib.OthersKept 5 (some b) w w'
theorem Wr.of0 {B b : Nat} {w w' : World} (M : Mod [] w w') (hB : B ≤ w.heap.size) : Wr B b w w' :=
  ⟨⟨M.os, M.tape, M.output, M.size, fun k hk => M.block k (by omega) (by simp)⟩, fun k o hk _ _ => M.keep0 hk⟩
theorem Wr.trans {B b : Nat} {x y z : World} (h : Wr B b x y) (k : Wr B b y z) : Wr B b x z := ⟨h.bel.trans k.bel, h.oth.trans k.oth⟩
theorem Bd.keep0 {B b : Nat} {l : List UInt8} {w w' : World} (h : Bd B b l w) (M : Mod [] w w') : Bd B b l w' := by
  have one : ∀ {p bs}, Lib.BuilderAtF 184 5 B b p bs w → Lib.BuilderAtF 184 5 B b p bs w' := by
    rintro p bs ⟨hB, v, hb, ⟨hl, ho⟩, hne⟩
    refine ⟨hB, v, M.keep0 hb, ⟨hl, ?_⟩, hne⟩
    rcases ho with ho | ⟨g, cap, cur, fz, hv, hg, hh, r⟩
    · exact .inl ho
    · exact .inr ⟨g, cap, cur, fz, hv, hg, M.keep0 hh, r⟩
  exact h.elim (fun x => .inl (one x)) (fun x => .inr (one x))
theorem Bd.lt {B b : Nat} {l : List UInt8} {w : World} (h : Bd B b l w) : B ≤ b ∧ b < w.heap.size := h.elim (fun x => ⟨x.1, x.lt⟩) (fun x => ⟨x.1, x.lt⟩)
theorem Bd.cells {B b : Nat} {l : List UInt8} {w : World} (h : Bd B b l w) : ∃ (p a : Option Addr) (n c : Nat), w.heap[b]? = some (.cells #[.pointer p, .slice a n c] 184) := by
  have one : ∀ {p bs}, Lib.BuilderAtF 184 5 B b (.pointer p) bs w → ∃ (p a : Option Addr) (n c : Nat), w.heap[b]? = some (.cells #[.pointer p, .slice a n c] 184) := by
    rintro p bs ⟨hB, v, hb, ⟨hl, ho⟩, hne⟩
    rcases ho with ⟨rfl, _⟩ | ⟨g, cap, cur, fz, rfl, hg, hh, r⟩
    · exact ⟨_, _, _, _, hb⟩
    · exact ⟨_, _, _, _, hb⟩
  exact h.elim one one
theorem WS_ok {B b : Nat} {l l2 : List UInt8} {w : World} (h : Bd B b l w) (hlen : l.length + l2.length ≤ 100000000000) (hB : B ≤ w.heap.size) :
    Calls Tryz.prog 76 #[.pointer (some ⟨b, 0, none⟩), .string (bs l2)] w fun e w' => e = .returned (.tuple #[.int .i64 ((bs l2).size : Nat), .nilIface]) ∧ (Bd B b (l ++ l2) w' ∧ Wr B b w w') := by
  refine (WriteString_ok BTw B b (Lib.byteCells l) (bs l2) w h (by rw [Lib.byteCells_length, bs_size]; omega) hB).mono ?_
  rintro e w' ⟨rfl, h1, h2, h3⟩
  refine ⟨rfl, .inr ?_, ⟨h2, h3⟩⟩
  have e : Lib.byteCells (l ++ l2) = Lib.byteCells l ++ Lib.strCells (bs l2) := by simp [Lib.byteCells, Lib.strCells, bs]
  rw [e]; exact h1
theorem Wnum_ok {B b : Nat} {l : List UInt8} {w : World} {a : Addr} {x : Nat} (h : Bd B b l w) (hlen : l.length ≤ 10000000000) (hB : B ≤ w.heap.size) (ha : w.cell? a = some (.int .i64 (x : Nat))) (hx : x < 9223372036854775808) :
    Calls Tryz.prog 127 #[.pointer (some ⟨b, 0, none⟩), .pointer (some a)] w fun e w' => e = .returned (.tuple #[]) ∧ (Bd B b (l ++ vPutL x) w' ∧ Wr B b w w') := by
  refine go_of (request_writer_number_go ?_)
  intro w1 A1
  refine ldInt_of (A1.mod.cell0 ha) ?_
  rw [wrapU (by omega)]
  refine (Put_ok x (by omega) w1).mono ?_
  rintro e w2 ⟨rfl, M2⟩
  have N2 := A1.mod.go0 M2 (by simp)
  have s2 := N2.size
  have := vPutL_len x (by omega)
  refine ⟨_, rfl, (WS_ok (h.keep0 N2) (l2 := vPutL x) (by omega) (by omega)).mono ?_⟩
  rintro e w3 ⟨rfl, h3, W3⟩
  exact ⟨_, _, rfl, rfl, h3, (Wr.of0 N2 hB).trans W3⟩
theorem Wname_ok {B b : Nat} {l : List UInt8} {w : World} {a : Addr} {s : ByteArray} (h : Bd B b l w) (hlen : l.length ≤ 10000000000) (hB : B ≤ w.heap.size) (ha : w.cell? a = some (.string s)) (hs : s.size ≤ 1000000000) :
    Calls Tryz.prog 206 #[.pointer (some ⟨b, 0, none⟩), .pointer (some a)] w fun e w' => e = .returned (.tuple #[]) ∧ (Bd B b (l ++ putT s) w' ∧ Wr B b w w') := by
  refine go_of (request_writer_name_go ?_)
  intro w1 A1
  refine ldStr_of (A1.mod.cell0 ha) ?_
  refine (PutText_ok s (by omega) w1).mono ?_
  rintro e w2 ⟨rfl, M2⟩
  have N2 := A1.mod.go0 M2 (by simp)
  have s2 := N2.size
  have l2 : (putT s).length ≤ 1000000010 := by have := putT_len s (by omega); omega
  refine ⟨_, rfl, (WS_ok (h.keep0 N2) (l2 := putT s) (by omega) (by omega)).mono ?_⟩
  rintro e w3 ⟨rfl, h3, W3⟩
  exact ⟨_, _, rfl, rfl, h3, (Wr.of0 N2 hB).trans W3⟩
end Go.Proofs.YtohgihgddknmmaaGreat

/- The conditions of Go functions' bodies, printed by gen2.py. -/
namespace Go.Proofs.YtohgihgddknmmaaGreat
open Go Go.RowKit
set_option linter.unusedVariables false
set_option maxRecDepth 100000

def crc_rows_1_la1 : LA := ⟨[0, 0, 1, 0, 1], [0, 3], [], 0, []⟩
def crc_rows_1_an : List LA := [crc_rows_1_la1]
def crc_rows_1_v1 (a0 a1 : Int) : List Value := [.int .u32 a0, .int .i64 a1]
def crc_rows_1_m1 : List TB := []
def crc_rows_1_L1 (a0 a1 : Int) (K1 : Kh) (R : Value → World → Prop) (w : World) : Prop :=
 brB (decide (a1 < 4)) (nn 1 (
 K1 (crc_rows_1_v1 (bXor .u32 (Int.fdiv a0 (2 ^ (min (Int.toNat 1) 32))) (bAnd .u32 3988292384 (IntKind.wrap .u32 (0 - (bAnd .u32 a0 1))))) (IntKind.wrap .i64 (a1 + 1))) (crc_rows_1_m1) w))
 (
 R (.int .u32 a0) w)
theorem crc_rows_1_L1_eq (a0 a1 : Int) (K1 : Kh) (js : Nat → Value) (R : Value → World → Prop) (w : World) :
 headA crc_rows_1_la1 ((dnF Tryz.prog crc_rows_1_an (code Tryz.f173) 397 [0, 0, 1, 0, 1]) (kthen3 (atA crc_rows_1_la1 K1) (kont3 Tryz.prog crc_rows_1_an (code Tryz.f173) [1, 0, 1, 0] [] (post3 Tryz.prog Tryz.f173 [] R)))) (crc_rows_1_v1 a0 a1) js (crc_rows_1_m1) w = crc_rows_1_L1 a0 a1 K1 R w := by kernel_rfl
def crc_rows_1_K1 (I : Nat → Int → Int → World → Prop) (m : Nat) (vals : List Value) (mem : List TB) (w : World) : Prop := ∃ m', m' < m ∧ ∃ a0 a1, vals = (crc_rows_1_v1 a0 a1) ∧ mem = (crc_rows_1_m1) ∧ I m' a0 a1 w
theorem crc_rows_1_leaf1 {I : Nat → Int → Int → World → Prop} {m : Nat} {a0 a1 : Int} {w : World} (m' : Nat) (h1 : m' < m) (h2 : I m' a0 a1 w) : crc_rows_1_K1 I m (crc_rows_1_v1 a0 a1) (crc_rows_1_m1) w := ⟨m', h1, _, _, rfl, rfl, h2⟩
theorem crc_rows_1_rule1 {a2 a3 : Int} {R : Value → World → Prop} {w0 : World} (I : Nat → Int → Int → World → Prop) (m0 : Nat) (h0 : I m0 a2 a3 w0)
 (hr : ∀ (m : Nat) (a0 a1 : Int) (w : World), I m a0 a1 w → crc_rows_1_L1 a0 a1 (crc_rows_1_K1 I m) R w) :
 loopD3 crc_rows_1_la1 (dnF Tryz.prog crc_rows_1_an (code Tryz.f173) 397 [0, 0, 1, 0, 1]) (kont3 Tryz.prog crc_rows_1_an (code Tryz.f173) [1, 0, 1, 0] [] (post3 Tryz.prog Tryz.f173 [] R)) (crc_rows_1_v1 a2 a3) (crc_rows_1_m1) w0 := by
 refine ⟨fun m vals mem w => ∃ a0 a1, vals = (crc_rows_1_v1 a0 a1) ∧ mem = (crc_rows_1_m1) ∧ I m a0 a1 w, m0, ⟨_, _, rfl, rfl, h0⟩, ?_⟩
 rintro m vals mem w ⟨a0, a1, rfl, rfl, hI⟩
 refine ⟨rfl, rfl, fun js => ?_⟩
 have h := hr m a0 a1 w hI
 rw [← crc_rows_1_L1_eq _ _ _ js] at h
 exact h
def crc_rows_1_T (a0 : Int) (R : Value → World → Prop) (w : World) : Prop :=
 loopD3 crc_rows_1_la1 (dnF Tryz.prog crc_rows_1_an (code Tryz.f173) 397 [0, 0, 1, 0, 1]) (kont3 Tryz.prog crc_rows_1_an (code Tryz.f173) [1, 0, 1, 0] [] (post3 Tryz.prog Tryz.f173 [] R)) (crc_rows_1_v1 a0 0) (crc_rows_1_m1) w
theorem crc_rows_1_eq (a0 : Int) (R : Value → World → Prop) (w : World) :
 dnF Tryz.prog crc_rows_1_an (code Tryz.f173) 400 [] (post3 Tryz.prog Tryz.f173 [] R) ⟨args0 0 [.int .u32 a0], fun _ => undef⟩ ⟨[], w, [], [], true⟩ = crc_rows_1_T a0 R w := by kernel_rfl
theorem crc_rows_1_go {a0 : Int} {R : Value → World → Prop} {w : World} (h : crc_rows_1_T a0 R w) :
 Calls Tryz.prog 173 #[.int .u32 a0] w fun e w' => ∃ v, e = .returned v ∧ R v w' :=
 calls_none Tryz.wide_mixed (f := 173) (args := [.int .u32 a0]) Tryz.func173 rfl rfl (by kernel_rfl) rfl (Eq.mpr (crc_rows_1_eq a0 R w) h)
def crc_rows_la1 : LA := ⟨[0, 0, 1, 0, 1, 1, 1], [0, 1, 2, 4], [(0, 0, 0), (1, 1, 0)], 2, [1]⟩
def crc_rows_an : List LA := [crc_rows_la1]
def crc_rows_v1 (bm0 bm1 : Nat) (a0 : Int) : List Value := [(.pointer (some ⟨bm0, 0, none⟩)), (.pointer (some ⟨bm1, 0, none⟩)), (.func (.func 173) #[] #[]), .int .i64 a0]
def crc_rows_m1 (bm0 bm1 : Nat) (a6 a7 a8 a9 b0 b1 b2 b3 b4 b5 a0 a1 a2 a3 a4 a5 : Int) : List TB := [⟨bm0, 226, [.int .u32 0, .int .u32 0, .int .u32 0, .int .u32 0, .int .u32 0, .int .u32 0, .int .u32 0, .int .u32 0, .int .u32 0, .int .u32 0, .int .u32 0, .int .u32 0, .int .u32 0, .int .u32 0, .int .u32 0, .int .u32 0], false⟩, ⟨bm1, 226, [.int .u32 a6, .int .u32 a7, .int .u32 a8, .int .u32 a9, .int .u32 b0, .int .u32 b1, .int .u32 b2, .int .u32 b3, .int .u32 b4, .int .u32 b5, .int .u32 a0, .int .u32 a1, .int .u32 a2, .int .u32 a3, .int .u32 a4, .int .u32 a5], true⟩]
def crc_rows_L1 (bm0 bm1 : Nat) (b6 a6 a7 a8 a9 b0 b1 b2 b3 b4 b5 a0 a1 a2 a3 a4 a5 : Int) (K1 : Kh) (R : Value → World → Prop) (w : World) : Prop :=
 w.heap[bm1]? = some (.cells #[.int .u32 a6, .int .u32 a7, .int .u32 a8, .int .u32 a9, .int .u32 b0, .int .u32 b1, .int .u32 b2, .int .u32 b3, .int .u32 b4, .int .u32 b5, .int .u32 a0, .int .u32 a1, .int .u32 a2, .int .u32 a3, .int .u32 a4, .int .u32 a5] 226) →
 brB (decide (b6 < 16)) (
 Calls Tryz.prog 173 #[(.int .u32 (IntKind.wrap .u32 b6))] w fun e w3 => ∃ x4 : Int, e = .returned (.int .u32 x4) ∧ KeepE [bm1] [(bm0, 226)] [bm0] w w3 ∧ ∃ x5 x6 x7 x8 x9 x10 x11 x12 x13 x14 x15 x16 x17 x18 x19 x20 : Int, w3.heap[bm1]? = some (.cells #[.int .u32 x5, .int .u32 x6, .int .u32 x7, .int .u32 x8, .int .u32 x9, .int .u32 x10, .int .u32 x11, .int .u32 x12, .int .u32 x13, .int .u32 x14, .int .u32 x15, .int .u32 x16, .int .u32 x17, .int .u32 x18, .int .u32 x19, .int .u32 x20] 226) ∧ 0 ≤ b6 ∧ b6 < ((16 : Nat) : Int) ∧
 st w3 (Addr.add ⟨bm1, 0, none⟩ (Int.toNat b6 * 1)) [.int .u32 x4] fun w21 => KeepE [bm1] [(bm0, 226)] [bm0] w3 w21 ∧ ∃ x22 x23 x24 x25 x26 x27 x28 x29 x30 x31 x32 x33 x34 x35 x36 x37 : Int, w21.heap[bm1]? = some (.cells #[.int .u32 x22, .int .u32 x23, .int .u32 x24, .int .u32 x25, .int .u32 x26, .int .u32 x27, .int .u32 x28, .int .u32 x29, .int .u32 x30, .int .u32 x31, .int .u32 x32, .int .u32 x33, .int .u32 x34, .int .u32 x35, .int .u32 x36, .int .u32 x37] 226) ∧
 K1 (crc_rows_v1 bm0 bm1 (IntKind.wrap .i64 (b6 + 1))) (crc_rows_m1 bm0 bm1 x22 x23 x24 x25 x26 x27 x28 x29 x30 x31 x32 x33 x34 x35 x36 x37) w21)
 (
 ∀ w38, Adv [bm0] [] w w38 → w38.heap[bm1]? = some (.cells #[.int .u32 a6, .int .u32 a7, .int .u32 a8, .int .u32 a9, .int .u32 b0, .int .u32 b1, .int .u32 b2, .int .u32 b3, .int .u32 b4, .int .u32 b5, .int .u32 a0, .int .u32 a1, .int .u32 a2, .int .u32 a3, .int .u32 a4, .int .u32 a5] 226) →
 R (.agg #[.int .u32 a6, .int .u32 a7, .int .u32 a8, .int .u32 a9, .int .u32 b0, .int .u32 b1, .int .u32 b2, .int .u32 b3, .int .u32 b4, .int .u32 b5, .int .u32 a0, .int .u32 a1, .int .u32 a2, .int .u32 a3, .int .u32 a4, .int .u32 a5]) w38)
theorem crc_rows_L1_eq (bm0 bm1 : Nat) (b6 a6 a7 a8 a9 b0 b1 b2 b3 b4 b5 a0 a1 a2 a3 a4 a5 : Int) (K1 : Kh) (js : Nat → Value) (R : Value → World → Prop) (w : World) :
 headA crc_rows_la1 ((dnF Tryz.prog crc_rows_an (code Tryz.f165) 395 [0, 0, 1, 0, 1, 1, 1]) (kthen3 (atA crc_rows_la1 K1) (kont3 Tryz.prog crc_rows_an (code Tryz.f165) [1, 1, 1, 0, 1, 0] [] (post3 Tryz.prog Tryz.f165 [] R)))) (crc_rows_v1 bm0 bm1 b6) js (crc_rows_m1 bm0 bm1 a6 a7 a8 a9 b0 b1 b2 b3 b4 b5 a0 a1 a2 a3 a4 a5) w = crc_rows_L1 bm0 bm1 b6 a6 a7 a8 a9 b0 b1 b2 b3 b4 b5 a0 a1 a2 a3 a4 a5 K1 R w := by kernel_rfl
def crc_rows_K1 (bm0 bm1 : Nat) (I : Nat → Int → Int → Int → Int → Int → Int → Int → Int → Int → Int → Int → Int → Int → Int → Int → Int → Int → World → Prop) (m : Nat) (vals : List Value) (mem : List TB) (w : World) : Prop := ∃ m', m' < m ∧ ∃ b6 a6 a7 a8 a9 b0 b1 b2 b3 b4 b5 a0 a1 a2 a3 a4 a5, vals = (crc_rows_v1 bm0 bm1 b6) ∧ mem = (crc_rows_m1 bm0 bm1 a6 a7 a8 a9 b0 b1 b2 b3 b4 b5 a0 a1 a2 a3 a4 a5) ∧ I m' b6 a6 a7 a8 a9 b0 b1 b2 b3 b4 b5 a0 a1 a2 a3 a4 a5 w
theorem crc_rows_leaf1 {bm0 bm1 : Nat} {I : Nat → Int → Int → Int → Int → Int → Int → Int → Int → Int → Int → Int → Int → Int → Int → Int → Int → Int → World → Prop} {m : Nat} {b6 a6 a7 a8 a9 b0 b1 b2 b3 b4 b5 a0 a1 a2 a3 a4 a5 : Int} {w : World} (m' : Nat) (h1 : m' < m) (h2 : I m' b6 a6 a7 a8 a9 b0 b1 b2 b3 b4 b5 a0 a1 a2 a3 a4 a5 w) : crc_rows_K1 bm0 bm1 I m (crc_rows_v1 bm0 bm1 b6) (crc_rows_m1 bm0 bm1 a6 a7 a8 a9 b0 b1 b2 b3 b4 b5 a0 a1 a2 a3 a4 a5) w := ⟨m', h1, _, _, _, _, _, _, _, _, _, _, _, _, _, _, _, _, _, rfl, rfl, h2⟩
theorem crc_rows_rule1 {bm0 bm1 : Nat} {d2 c3 a0 c4 c5 c6 c7 c8 c9 d0 d1 b7 b8 b9 c0 c1 c2 : Int} {R : Value → World → Prop} {w0 : World} (I : Nat → Int → Int → Int → Int → Int → Int → Int → Int → Int → Int → Int → Int → Int → Int → Int → Int → Int → World → Prop) (m0 : Nat) (h0 : I m0 d2 c3 a0 c4 c5 c6 c7 c8 c9 d0 d1 b7 b8 b9 c0 c1 c2 w0)
 (hr : ∀ (m : Nat) (b6 a6 a7 a8 a9 b0 b1 b2 b3 b4 b5 a0 a1 a2 a3 a4 a5 : Int) (w : World), I m b6 a6 a7 a8 a9 b0 b1 b2 b3 b4 b5 a0 a1 a2 a3 a4 a5 w → crc_rows_L1 bm0 bm1 b6 a6 a7 a8 a9 b0 b1 b2 b3 b4 b5 a0 a1 a2 a3 a4 a5 (crc_rows_K1 bm0 bm1 I m) R w) :
 loopD3 crc_rows_la1 (dnF Tryz.prog crc_rows_an (code Tryz.f165) 395 [0, 0, 1, 0, 1, 1, 1]) (kont3 Tryz.prog crc_rows_an (code Tryz.f165) [1, 1, 1, 0, 1, 0] [] (post3 Tryz.prog Tryz.f165 [] R)) (crc_rows_v1 bm0 bm1 d2) (crc_rows_m1 bm0 bm1 c3 a0 c4 c5 c6 c7 c8 c9 d0 d1 b7 b8 b9 c0 c1 c2) w0 := by
 refine ⟨fun m vals mem w => ∃ b6 a6 a7 a8 a9 b0 b1 b2 b3 b4 b5 a0 a1 a2 a3 a4 a5, vals = (crc_rows_v1 bm0 bm1 b6) ∧ mem = (crc_rows_m1 bm0 bm1 a6 a7 a8 a9 b0 b1 b2 b3 b4 b5 a0 a1 a2 a3 a4 a5) ∧ I m b6 a6 a7 a8 a9 b0 b1 b2 b3 b4 b5 a0 a1 a2 a3 a4 a5 w, m0, ⟨_, _, _, _, _, _, _, _, _, _, _, _, _, _, _, _, _, rfl, rfl, h0⟩, ?_⟩
 rintro m vals mem w ⟨b6, a6, a7, a8, a9, b0, b1, b2, b3, b4, b5, a0, a1, a2, a3, a4, a5, rfl, rfl, hI⟩
 refine ⟨rfl, rfl, fun js => ?_⟩
 have h := hr m b6 a6 a7 a8 a9 b0 b1 b2 b3 b4 b5 a0 a1 a2 a3 a4 a5 w hI
 rw [← crc_rows_L1_eq _ _ _ _ _ _ _ _ _ _ _ _ _ _ _ _ _ _ _ _ js] at h
 exact h
def crc_rows_T (R : Value → World → Prop) (w : World) : Prop :=
 ∀ b1, w.heap.size ≤ b1 →
 ∀ b2, w.heap.size ≤ b2 →
 ∀ w39, Adv [] [b2, b1] w w39 → w39.heap[b2]? = some (.cells #[.int .u32 0, .int .u32 0, .int .u32 0, .int .u32 0, .int .u32 0, .int .u32 0, .int .u32 0, .int .u32 0, .int .u32 0, .int .u32 0, .int .u32 0, .int .u32 0, .int .u32 0, .int .u32 0, .int .u32 0, .int .u32 0] 226) →
 loopD3 crc_rows_la1 (dnF Tryz.prog crc_rows_an (code Tryz.f165) 395 [0, 0, 1, 0, 1, 1, 1]) (kont3 Tryz.prog crc_rows_an (code Tryz.f165) [1, 1, 1, 0, 1, 0] [] (post3 Tryz.prog Tryz.f165 [] R)) (crc_rows_v1 b1 b2 0) (crc_rows_m1 b1 b2 0 0 0 0 0 0 0 0 0 0 0 0 0 0 0 0) w39
theorem crc_rows_eq (R : Value → World → Prop) (w : World) :
 dnF Tryz.prog crc_rows_an (code Tryz.f165) 400 [] (post3 Tryz.prog Tryz.f165 [] R) ⟨args0 0 [], fun _ => undef⟩ ⟨[], w, [], [], true⟩ = crc_rows_T R w := by kernel_rfl
theorem crc_rows_go {R : Value → World → Prop} {w : World} (h : crc_rows_T R w) :
 Calls Tryz.prog 165 #[] w fun e w' => ∃ v, e = .returned v ∧ R v w' :=
 calls_none Tryz.wide_mixed (f := 165) (args := []) Tryz.func165 rfl rfl (by kernel_rfl) rfl (Eq.mpr (crc_rows_eq R w) h)
def crc_More_la1 : LA := ⟨[0, 0, 1, 0, 1, 1, 1], [1, 5, 6, 12, 13], [(5, 0, 0)], 1, [0]⟩
def crc_More_an : List LA := [crc_More_la1]
def crc_More_v1 (a2 : ByteArray) (a0 : Int) (bm0 : Nat) (a3 a1 : Int) : List Value := [.string a2, (.pointer (some ⟨bm0, 0, none⟩)), .int .u32 a3, .int .i64 a0, .int .i64 a1]
def crc_More_m1 (bm0 : Nat) (a6 a7 a8 a9 b0 b1 b2 b3 b4 b5 a0 a1 a2 a3 a4 a5 : Int) : List TB := [⟨bm0, 226, [.int .u32 a6, .int .u32 a7, .int .u32 a8, .int .u32 a9, .int .u32 b0, .int .u32 b1, .int .u32 b2, .int .u32 b3, .int .u32 b4, .int .u32 b5, .int .u32 a0, .int .u32 a1, .int .u32 a2, .int .u32 a3, .int .u32 a4, .int .u32 a5], true⟩]
def crc_More_L1 (b9 : ByteArray) (b8 : Int) (bm0 : Nat) (a7 a8 a9 b0 b1 b2 b3 b4 b5 b6 a1 a2 a3 a4 a5 a6 a0 b7 : Int) (K1 : Kh) (R : Value → World → Prop) (w : World) : Prop :=
 w.heap[bm0]? = some (.cells #[.int .u32 a7, .int .u32 a8, .int .u32 a9, .int .u32 b0, .int .u32 b1, .int .u32 b2, .int .u32 b3, .int .u32 b4, .int .u32 b5, .int .u32 b6, .int .u32 a1, .int .u32 a2, .int .u32 a3, .int .u32 a4, .int .u32 a5, .int .u32 a6] 226) →
 brB (decide (b7 < b8)) (
 ixS b9 b7 fun x19 => nn 4 (nz 16 (0 ≤ (Int.tmod (bXor .u32 a0 (IntKind.wrap .u32 x19)) 16) ∧ (Int.tmod (bXor .u32 a0 (IntKind.wrap .u32 x19)) 16) < ((16 : Nat) : Int) ∧
 ldInt .u32 w (Addr.add ⟨bm0, 0, none⟩ (Int.toNat (Int.tmod (bXor .u32 a0 (IntKind.wrap .u32 x19)) 16) * 1)) fun x20 => nn 4 (nz 16 (0 ≤ (Int.tmod (bXor .u32 (Int.fdiv (bXor .u32 a0 (IntKind.wrap .u32 x19)) (2 ^ (min (Int.toNat 4) 32))) x20) 16) ∧ (Int.tmod (bXor .u32 (Int.fdiv (bXor .u32 a0 (IntKind.wrap .u32 x19)) (2 ^ (min (Int.toNat 4) 32))) x20) 16) < ((16 : Nat) : Int) ∧
 ldInt .u32 w (Addr.add ⟨bm0, 0, none⟩ (Int.toNat (Int.tmod (bXor .u32 (Int.fdiv (bXor .u32 a0 (IntKind.wrap .u32 x19)) (2 ^ (min (Int.toNat 4) 32))) x20) 16) * 1)) fun x21 =>
 K1 (crc_More_v1 b9 b8 bm0 (bXor .u32 (Int.fdiv (bXor .u32 (Int.fdiv (bXor .u32 a0 (IntKind.wrap .u32 x19)) (2 ^ (min (Int.toNat 4) 32))) x20) (2 ^ (min (Int.toNat 4) 32))) x21) (IntKind.wrap .i64 (b7 + 1))) (crc_More_m1 bm0 a7 a8 a9 b0 b1 b2 b3 b4 b5 b6 a1 a2 a3 a4 a5 a6) w)))))
 (
 R (.int .u32 (bXor .u32 4294967295 a0)) w)
theorem crc_More_L1_eq (b8 : ByteArray) (b6 : Int) (bm0 : Nat) (a6 a7 a8 a9 b0 b1 b2 b3 b4 b5 a0 a1 a2 a3 a4 a5 b9 b7 : Int) (K1 : Kh) (js : Nat → Value) (R : Value → World → Prop) (w : World) :
 headA crc_More_la1 ((dnF Tryz.prog crc_More_an (code Tryz.f154) 395 [0, 0, 1, 0, 1, 1, 1]) (kthen3 (atA crc_More_la1 K1) (kont3 Tryz.prog crc_More_an (code Tryz.f154) [1, 1, 1, 0, 1, 0] [] (post3 Tryz.prog Tryz.f154 [] R)))) (crc_More_v1 b8 b6 bm0 b9 b7) js (crc_More_m1 bm0 a6 a7 a8 a9 b0 b1 b2 b3 b4 b5 a0 a1 a2 a3 a4 a5) w = crc_More_L1 b8 b6 bm0 a6 a7 a8 a9 b0 b1 b2 b3 b4 b5 a0 a1 a2 a3 a4 a5 b9 b7 K1 R w := by kernel_rfl
def crc_More_K1 (b9 : ByteArray) (b8 : Int) (bm0 : Nat) (a7 a8 a9 b0 b1 b2 b3 b4 b5 b6 a0 a1 a2 a3 a4 a5 : Int) (I : Nat → Int → Int → World → Prop) (m : Nat) (vals : List Value) (mem : List TB) (w : World) : Prop := ∃ m', m' < m ∧ ∃ b7 a6, vals = (crc_More_v1 b9 b8 bm0 b7 a6) ∧ mem = (crc_More_m1 bm0 a7 a8 a9 b0 b1 b2 b3 b4 b5 b6 a0 a1 a2 a3 a4 a5) ∧ I m' b7 a6 w
theorem crc_More_leaf1 {b8 : ByteArray} {b6 : Int} {bm0 : Nat} {a6 a7 a8 a9 b0 b1 b2 b3 b4 b5 a0 a1 a2 a3 a4 a5 : Int} {I : Nat → Int → Int → World → Prop} {m : Nat} {b9 b7 : Int} {w : World} (m' : Nat) (h1 : m' < m) (h2 : I m' b9 b7 w) : crc_More_K1 b8 b6 bm0 a6 a7 a8 a9 b0 b1 b2 b3 b4 b5 a0 a1 a2 a3 a4 a5 I m (crc_More_v1 b8 b6 bm0 b9 b7) (crc_More_m1 bm0 a6 a7 a8 a9 b0 b1 b2 b3 b4 b5 a0 a1 a2 a3 a4 a5) w := ⟨m', h1, _, _, rfl, rfl, h2⟩
theorem crc_More_rule1 {b9 : ByteArray} {b8 : Int} {bm0 : Nat} {a7 a8 a9 b0 b1 b2 b3 b4 b5 b6 a0 a1 a2 a3 a4 a5 c1 c0 : Int} {R : Value → World → Prop} {w0 : World} (I : Nat → Int → Int → World → Prop) (m0 : Nat) (h0 : I m0 c1 c0 w0)
 (hr : ∀ (m : Nat) (b7 a6 : Int) (w : World), I m b7 a6 w → crc_More_L1 b9 b8 bm0 a7 a8 a9 b0 b1 b2 b3 b4 b5 b6 a0 a1 a2 a3 a4 a5 b7 a6 (crc_More_K1 b9 b8 bm0 a7 a8 a9 b0 b1 b2 b3 b4 b5 b6 a0 a1 a2 a3 a4 a5 I m) R w) :
 loopD3 crc_More_la1 (dnF Tryz.prog crc_More_an (code Tryz.f154) 395 [0, 0, 1, 0, 1, 1, 1]) (kont3 Tryz.prog crc_More_an (code Tryz.f154) [1, 1, 1, 0, 1, 0] [] (post3 Tryz.prog Tryz.f154 [] R)) (crc_More_v1 b9 b8 bm0 c1 c0) (crc_More_m1 bm0 a7 a8 a9 b0 b1 b2 b3 b4 b5 b6 a0 a1 a2 a3 a4 a5) w0 := by
 refine ⟨fun m vals mem w => ∃ b7 a6, vals = (crc_More_v1 b9 b8 bm0 b7 a6) ∧ mem = (crc_More_m1 bm0 a7 a8 a9 b0 b1 b2 b3 b4 b5 b6 a0 a1 a2 a3 a4 a5) ∧ I m b7 a6 w, m0, ⟨_, _, rfl, rfl, h0⟩, ?_⟩
 rintro m vals mem w ⟨b7, a6, rfl, rfl, hI⟩
 refine ⟨rfl, rfl, fun js => ?_⟩
 have h := hr m b7 a6 w hI
 rw [← crc_More_L1_eq _ _ _ _ _ _ _ _ _ _ _ _ _ _ _ _ _ _ _ _ _ _ js] at h
 exact h
def crc_More_T (a0 : Int) (a1 : ByteArray) (R : Value → World → Prop) (w : World) : Prop :=
 Calls Tryz.prog 165 #[] w fun e w1 => ∃ x2 x3 x4 x5 x6 x7 x8 x9 x10 x11 x12 x13 x14 x15 x16 x17 : Int, e = .returned (.agg #[.int .u32 x2, .int .u32 x3, .int .u32 x4, .int .u32 x5, .int .u32 x6, .int .u32 x7, .int .u32 x8, .int .u32 x9, .int .u32 x10, .int .u32 x11, .int .u32 x12, .int .u32 x13, .int .u32 x14, .int .u32 x15, .int .u32 x16, .int .u32 x17]) ∧
 ∀ b18, w1.heap.size ≤ b18 →
 ∀ w22, Adv [] [b18] w1 w22 → w22.heap[b18]? = some (.cells #[.int .u32 x2, .int .u32 x3, .int .u32 x4, .int .u32 x5, .int .u32 x6, .int .u32 x7, .int .u32 x8, .int .u32 x9, .int .u32 x10, .int .u32 x11, .int .u32 x12, .int .u32 x13, .int .u32 x14, .int .u32 x15, .int .u32 x16, .int .u32 x17] 226) →
 loopD3 crc_More_la1 (dnF Tryz.prog crc_More_an (code Tryz.f154) 395 [0, 0, 1, 0, 1, 1, 1]) (kont3 Tryz.prog crc_More_an (code Tryz.f154) [1, 1, 1, 0, 1, 0] [] (post3 Tryz.prog Tryz.f154 [] R)) (crc_More_v1 a1 (a1.size : Int) b18 (bXor .u32 4294967295 a0) 0) (crc_More_m1 b18 x2 x3 x4 x5 x6 x7 x8 x9 x10 x11 x12 x13 x14 x15 x16 x17) w22
theorem crc_More_eq (a0 : Int) (a1 : ByteArray) (R : Value → World → Prop) (w : World) :
 dnF Tryz.prog crc_More_an (code Tryz.f154) 400 [] (post3 Tryz.prog Tryz.f154 [] R) ⟨args0 0 [.int .u32 a0, .string a1], fun _ => undef⟩ ⟨[], w, [], [], true⟩ = crc_More_T a0 a1 R w := by kernel_rfl
theorem crc_More_go {a0 : Int} {a1 : ByteArray} {R : Value → World → Prop} {w : World} (h : crc_More_T a0 a1 R w) :
 Calls Tryz.prog 154 #[.int .u32 a0, .string a1] w fun e w' => ∃ v, e = .returned v ∧ R v w' :=
 calls_none Tryz.wide_mixed (f := 154) (args := [.int .u32 a0, .string a1]) Tryz.func154 rfl rfl (by kernel_rfl) rfl (Eq.mpr (crc_More_eq a0 a1 R w) h)
def crc_Sum_an : List LA := []
def crc_Sum_T (a0 : ByteArray) (R : Value → World → Prop) (w : World) : Prop :=
 Calls Tryz.prog 154 #[.int .u32 0, .string a0] w fun e w1 => ∃ x2 : Int, e = .returned (.int .u32 x2) ∧
 R (.int .u32 x2) w1
theorem crc_Sum_eq (a0 : ByteArray) (R : Value → World → Prop) (w : World) :
 dnF Tryz.prog crc_Sum_an (code Tryz.f129) 400 [] (post3 Tryz.prog Tryz.f129 [] R) ⟨args0 0 [.string a0], fun _ => undef⟩ ⟨[], w, [], [], true⟩ = crc_Sum_T a0 R w := by kernel_rfl
theorem crc_Sum_go {a0 : ByteArray} {R : Value → World → Prop} {w : World} (h : crc_Sum_T a0 R w) :
 Calls Tryz.prog 129 #[.string a0] w fun e w' => ∃ v, e = .returned v ∧ R v w' :=
 calls_none Tryz.wide_mixed (f := 129) (args := [.string a0]) Tryz.func129 rfl rfl (by kernel_rfl) rfl (Eq.mpr (crc_Sum_eq a0 R w) h)
def crc_laid_la1 : LA := ⟨[0, 0, 1, 0, 1, 1], [0, 3, 7, 8], [], 0, []⟩
def crc_laid_an : List LA := [crc_laid_la1]
def crc_laid_v1 (a3 : Int) (a0 : Option Addr) (a2 a1 : Nat) (a4 a5 : Int) : List Value := [.int .u32 a3, .slice a0 a2 a1, .int .i64 a4, .int .i64 a5]
def crc_laid_m1 : List TB := []
def crc_laid_L1 (a4 : Int) (a1 : Option Addr) (a2 a3 : Nat) (a5 a0 : Int) (K1 : Kh) (R : Value → World → Prop) (w : World) : Prop :=
 brB (decide (a0 < a5)) (nn (IntKind.wrap .i64 (8 * a0)) (
 ixA a1 a2 a0 1 fun q5 =>
 st w q5 [(.int .u8 (IntKind.wrap .u8 (Int.fdiv a4 (2 ^ (min (Int.toNat (IntKind.wrap .i64 (8 * a0))) 32)))))] fun w6 =>
 K1 (crc_laid_v1 a4 a1 a2 a3 a5 (IntKind.wrap .i64 (a0 + 1))) (crc_laid_m1) w6))
 (
 ∃ s7 w8, Sem.run Tryz.prog (Go.convert 122 9 (.slice a1 a2 a3)) w = .ok (.string s7) w8 ∧
 R (.string s7) w8)
theorem crc_laid_L1_eq (a3 : Int) (a0 : Option Addr) (a2 a1 : Nat) (a4 a5 : Int) (K1 : Kh) (js : Nat → Value) (R : Value → World → Prop) (w : World) :
 headA crc_laid_la1 ((dnF Tryz.prog crc_laid_an (code Tryz.f128) 396 [0, 0, 1, 0, 1, 1]) (kthen3 (atA crc_laid_la1 K1) (kont3 Tryz.prog crc_laid_an (code Tryz.f128) [1, 1, 0, 1, 0] [] (post3 Tryz.prog Tryz.f128 [] R)))) (crc_laid_v1 a3 a0 a2 a1 a4 a5) js (crc_laid_m1) w = crc_laid_L1 a3 a0 a2 a1 a4 a5 K1 R w := by kernel_rfl
def crc_laid_K1 (a4 : Int) (a1 : Option Addr) (a3 a2 : Nat) (a5 : Int) (I : Nat → Int → World → Prop) (m : Nat) (vals : List Value) (mem : List TB) (w : World) : Prop := ∃ m', m' < m ∧ ∃ a0, vals = (crc_laid_v1 a4 a1 a3 a2 a5 a0) ∧ mem = (crc_laid_m1) ∧ I m' a0 w
theorem crc_laid_leaf1 {a3 : Int} {a0 : Option Addr} {a2 a1 : Nat} {a4 : Int} {I : Nat → Int → World → Prop} {m : Nat} {a5 : Int} {w : World} (m' : Nat) (h1 : m' < m) (h2 : I m' a5 w) : crc_laid_K1 a3 a0 a2 a1 a4 I m (crc_laid_v1 a3 a0 a2 a1 a4 a5) (crc_laid_m1) w := ⟨m', h1, _, rfl, rfl, h2⟩
theorem crc_laid_rule1 {a4 : Int} {a1 : Option Addr} {a3 a2 : Nat} {a5 a6 : Int} {R : Value → World → Prop} {w0 : World} (I : Nat → Int → World → Prop) (m0 : Nat) (h0 : I m0 a6 w0)
 (hr : ∀ (m : Nat) (a0 : Int) (w : World), I m a0 w → crc_laid_L1 a4 a1 a3 a2 a5 a0 (crc_laid_K1 a4 a1 a3 a2 a5 I m) R w) :
 loopD3 crc_laid_la1 (dnF Tryz.prog crc_laid_an (code Tryz.f128) 396 [0, 0, 1, 0, 1, 1]) (kont3 Tryz.prog crc_laid_an (code Tryz.f128) [1, 1, 0, 1, 0] [] (post3 Tryz.prog Tryz.f128 [] R)) (crc_laid_v1 a4 a1 a3 a2 a5 a6) (crc_laid_m1) w0 := by
 refine ⟨fun m vals mem w => ∃ a0, vals = (crc_laid_v1 a4 a1 a3 a2 a5 a0) ∧ mem = (crc_laid_m1) ∧ I m a0 w, m0, ⟨_, rfl, rfl, h0⟩, ?_⟩
 rintro m vals mem w ⟨a0, rfl, rfl, hI⟩
 refine ⟨rfl, rfl, fun js => ?_⟩
 have h := hr m a0 w hI
 rw [← crc_laid_L1_eq _ _ _ _ _ _ _ js] at h
 exact h
def crc_laid_T (a0 : Int) (R : Value → World → Prop) (w : World) : Prop :=
 effSl Tryz.prog (Instr.makeSlice 122 (.int .i64 4) (.int .i64 4)) w fun a1 n2 c3 w4 =>
 loopD3 crc_laid_la1 (dnF Tryz.prog crc_laid_an (code Tryz.f128) 396 [0, 0, 1, 0, 1, 1]) (kont3 Tryz.prog crc_laid_an (code Tryz.f128) [1, 1, 0, 1, 0] [] (post3 Tryz.prog Tryz.f128 [] R)) (crc_laid_v1 a0 a1 n2 c3 (n2 : Int) 0) (crc_laid_m1) w4
theorem crc_laid_eq (a0 : Int) (R : Value → World → Prop) (w : World) :
 dnF Tryz.prog crc_laid_an (code Tryz.f128) 400 [] (post3 Tryz.prog Tryz.f128 [] R) ⟨args0 0 [.int .u32 a0], fun _ => undef⟩ ⟨[], w, [], [], true⟩ = crc_laid_T a0 R w := by kernel_rfl
theorem crc_laid_go {a0 : Int} {R : Value → World → Prop} {w : World} (h : crc_laid_T a0 R w) :
 Calls Tryz.prog 128 #[.int .u32 a0] w fun e w' => ∃ v, e = .returned v ∧ R v w' :=
 calls_none Tryz.wide_mixed (f := 128) (args := [.int .u32 a0]) Tryz.func128 rfl rfl (by kernel_rfl) rfl (Eq.mpr (crc_laid_eq a0 R w) h)
def crc_Frame_an : List LA := []
def crc_Frame_T (a0 : ByteArray) (R : Value → World → Prop) (w : World) : Prop :=
 Calls Tryz.prog 80 #[.string a0] w fun e w1 => ∃ s2 : ByteArray, e = .returned (.string s2) ∧
 Calls Tryz.prog 129 #[.string a0] w1 fun e w3 => ∃ x4 : Int, e = .returned (.int .u32 x4) ∧
 Calls Tryz.prog 128 #[.int .u32 x4] w3 fun e w5 => ∃ s6 : ByteArray, e = .returned (.string s6) ∧
 catS s2 s6 fun s7 =>
 R (.string s7) w5
theorem crc_Frame_eq (a0 : ByteArray) (R : Value → World → Prop) (w : World) :
 dnF Tryz.prog crc_Frame_an (code Tryz.f79) 400 [] (post3 Tryz.prog Tryz.f79 [] R) ⟨args0 0 [.string a0], fun _ => undef⟩ ⟨[], w, [], [], true⟩ = crc_Frame_T a0 R w := by kernel_rfl
theorem crc_Frame_go {a0 : ByteArray} {R : Value → World → Prop} {w : World} (h : crc_Frame_T a0 R w) :
 Calls Tryz.prog 79 #[.string a0] w fun e w' => ∃ v, e = .returned v ∧ R v w' :=
 calls_none Tryz.wide_mixed (f := 79) (args := [.string a0]) Tryz.func79 rfl rfl (by kernel_rfl) rfl (Eq.mpr (crc_Frame_eq a0 R w) h)
end Go.Proofs.YtohgihgddknmmaaGreat

/- Sums of bytes, frames. -/
namespace Go.Proofs.YtohgihgddknmmaaGreat
open Go Go.RowKit
set_option linter.unusedVariables false
set_option linter.unusedSimpArgs false

theorem bXor_range {x y : Int} : 0 ≤ bXor .u32 x y ∧ bXor .u32 x y < 4294967296 := by
  unfold bXor
  rw [IntKind.wrap_u32]
  omega
def rowStep (c : Int) : Int := bXor .u32 (Int.fdiv c (2 ^ (min (Int.toNat 1) 32))) (bAnd .u32 3988292384 (IntKind.wrap .u32 (0 - (bAnd .u32 c 1))))
def rowIt (c : Int) : Nat → Int
  | 0 => c
  | k + 1 => rowStep (rowIt c k)
def rowC (j : Nat) : Int := rowIt (IntKind.wrap .u32 (j : Nat)) 4
theorem row_ok (c : Int) (w : World) : Calls Tryz.prog 173 #[.int .u32 c] w fun e w' => e = .returned (.int .u32 (rowIt c 4)) ∧ w' = w := by
  refine go_of (crc_rows_1_go ?_)
  refine crc_rows_1_rule1 (fun mm x y w' => ∃ k : Nat, y = k ∧ k ≤ 4 ∧ x = rowIt c k ∧ w' = w ∧ mm = 4 - k) 4 ⟨0, rfl, by omega, rfl, rfl, rfl⟩ ?_
  rintro mm x y w' ⟨k, rfl, hk, rfl, rfl, rfl⟩
  refine brB_dec (fun h => ⟨by omega, ?_⟩) fun h => ?_
  · exact crc_rows_1_leaf1 (4 - (k + 1)) (by omega) ⟨k + 1, by rw [wrap_id (by omega) (by omega)]; omega, by omega, rfl, rfl, rfl⟩
  · have hk : k = 4 := by omega
    subst hk
    exact ⟨rfl, rfl⟩
def tabA (k j : Nat) : Int := if j < k then rowC j else 0
def tabV : Value := .agg #[.int .u32 (rowC 0), .int .u32 (rowC 1), .int .u32 (rowC 2), .int .u32 (rowC 3), .int .u32 (rowC 4), .int .u32 (rowC 5), .int .u32 (rowC 6), .int .u32 (rowC 7), .int .u32 (rowC 8), .int .u32 (rowC 9), .int .u32 (rowC 10), .int .u32 (rowC 11), .int .u32 (rowC 12), .int .u32 (rowC 13), .int .u32 (rowC 14), .int .u32 (rowC 15)]
set_option maxHeartbeats 4000000 in
theorem rows_ok (w : World) : Calls Tryz.prog 165 #[] w fun e w' => e = .returned tabV ∧ Mod [] w w' := by
  refine go_of (crc_rows_go ?_)
  intro b1 f1 b2 f2 w0 A0 h0
  refine crc_rows_rule1 (fun mm x x0 x1 x2 x3 x4 x5 x6 x7 x8 x9 x10 x11 x12 x13 x14 x15 w' => ∃ k : Nat, x = k ∧ k ≤ 16 ∧ x0 = tabA k 0 ∧ x1 = tabA k 1 ∧ x2 = tabA k 2 ∧ x3 = tabA k 3 ∧ x4 = tabA k 4 ∧ x5 = tabA k 5 ∧ x6 = tabA k 6 ∧ x7 = tabA k 7 ∧ x8 = tabA k 8 ∧ x9 = tabA k 9 ∧ x10 = tabA k 10 ∧ x11 = tabA k 11 ∧ x12 = tabA k 12 ∧ x13 = tabA k 13 ∧ x14 = tabA k 14 ∧ x15 = tabA k 15 ∧ Mod [] w w' ∧ mm = 16 - k) 16 ⟨0, rfl, by omega, rfl, rfl, rfl, rfl, rfl, rfl, rfl, rfl, rfl, rfl, rfl, rfl, rfl, rfl, rfl, rfl, A0.mod, rfl⟩ ?_
  rintro mm x x0 x1 x2 x3 x4 x5 x6 x7 x8 x9 x10 x11 x12 x13 x14 x15 w1 ⟨k, rfl, hk, rfl, rfl, rfl, rfl, rfl, rfl, rfl, rfl, rfl, rfl, rfl, rfl, rfl, rfl, rfl, rfl, M1, rfl⟩ hc
  refine brB_dec (fun hlt => ?_) fun hge => ?_
  · refine (row_ok _ w1).mono ?_
    rintro e w2 ⟨rfl, rfl⟩
    refine ⟨_, rfl, Keep.of0 (Mod.refl _), _, _, _, _, _, _, _, _, _, _, _, _, _, _, _, _, hc, by omega, by omega, ?_⟩
    have hb2 : w.heap.size ≤ b2 := f2
    rw [show (⟨b2, 0, none⟩ : Addr).add (Int.toNat (k : Int) * 1) = ⟨b2, k, none⟩ by rw [addr_add]; simp]
    refine st_of (b := b2) (o := k) hc rfl (by simp; omega) fun w3 h3 M3 => ?_
    refine ⟨Keep.ofE M3 fun b hb _ he => by simpa using he, ?_⟩
    have hM : Mod [] w w3 := M1.go0 M3 (by simpa using f2)
    have ek : IntKind.wrap .i64 ((k : Int) + 1) = ((k + 1 : Nat) : Int) := by rw [wrap_id (by omega) (by omega)]; omega
    have hcs : k = 0 ∨ k = 1 ∨ k = 2 ∨ k = 3 ∨ k = 4 ∨ k = 5 ∨ k = 6 ∨ k = 7 ∨ k = 8 ∨ k = 9 ∨ k = 10 ∨ k = 11 ∨ k = 12 ∨ k = 13 ∨ k = 14 ∨ k = 15 := by omega
    rcases hcs with rfl | rfl | rfl | rfl | rfl | rfl | rfl | rfl | rfl | rfl | rfl | rfl | rfl | rfl | rfl | rfl
    · exact ⟨tabA 1 0, tabA 1 1, tabA 1 2, tabA 1 3, tabA 1 4, tabA 1 5, tabA 1 6, tabA 1 7, tabA 1 8, tabA 1 9, tabA 1 10, tabA 1 11, tabA 1 12, tabA 1 13, tabA 1 14, tabA 1 15, h3, crc_rows_leaf1 (16 - (0 + 1)) (by omega) ⟨0 + 1, ek, by omega, rfl, rfl, rfl, rfl, rfl, rfl, rfl, rfl, rfl, rfl, rfl, rfl, rfl, rfl, rfl, rfl, hM, rfl⟩⟩
    · exact ⟨tabA 2 0, tabA 2 1, tabA 2 2, tabA 2 3, tabA 2 4, tabA 2 5, tabA 2 6, tabA 2 7, tabA 2 8, tabA 2 9, tabA 2 10, tabA 2 11, tabA 2 12, tabA 2 13, tabA 2 14, tabA 2 15, h3, crc_rows_leaf1 (16 - (1 + 1)) (by omega) ⟨1 + 1, ek, by omega, rfl, rfl, rfl, rfl, rfl, rfl, rfl, rfl, rfl, rfl, rfl, rfl, rfl, rfl, rfl, rfl, hM, rfl⟩⟩
    · exact ⟨tabA 3 0, tabA 3 1, tabA 3 2, tabA 3 3, tabA 3 4, tabA 3 5, tabA 3 6, tabA 3 7, tabA 3 8, tabA 3 9, tabA 3 10, tabA 3 11, tabA 3 12, tabA 3 13, tabA 3 14, tabA 3 15, h3, crc_rows_leaf1 (16 - (2 + 1)) (by omega) ⟨2 + 1, ek, by omega, rfl, rfl, rfl, rfl, rfl, rfl, rfl, rfl, rfl, rfl, rfl, rfl, rfl, rfl, rfl, rfl, hM, rfl⟩⟩
    · exact ⟨tabA 4 0, tabA 4 1, tabA 4 2, tabA 4 3, tabA 4 4, tabA 4 5, tabA 4 6, tabA 4 7, tabA 4 8, tabA 4 9, tabA 4 10, tabA 4 11, tabA 4 12, tabA 4 13, tabA 4 14, tabA 4 15, h3, crc_rows_leaf1 (16 - (3 + 1)) (by omega) ⟨3 + 1, ek, by omega, rfl, rfl, rfl, rfl, rfl, rfl, rfl, rfl, rfl, rfl, rfl, rfl, rfl, rfl, rfl, rfl, hM, rfl⟩⟩
    · exact ⟨tabA 5 0, tabA 5 1, tabA 5 2, tabA 5 3, tabA 5 4, tabA 5 5, tabA 5 6, tabA 5 7, tabA 5 8, tabA 5 9, tabA 5 10, tabA 5 11, tabA 5 12, tabA 5 13, tabA 5 14, tabA 5 15, h3, crc_rows_leaf1 (16 - (4 + 1)) (by omega) ⟨4 + 1, ek, by omega, rfl, rfl, rfl, rfl, rfl, rfl, rfl, rfl, rfl, rfl, rfl, rfl, rfl, rfl, rfl, rfl, hM, rfl⟩⟩
    · exact ⟨tabA 6 0, tabA 6 1, tabA 6 2, tabA 6 3, tabA 6 4, tabA 6 5, tabA 6 6, tabA 6 7, tabA 6 8, tabA 6 9, tabA 6 10, tabA 6 11, tabA 6 12, tabA 6 13, tabA 6 14, tabA 6 15, h3, crc_rows_leaf1 (16 - (5 + 1)) (by omega) ⟨5 + 1, ek, by omega, rfl, rfl, rfl, rfl, rfl, rfl, rfl, rfl, rfl, rfl, rfl, rfl, rfl, rfl, rfl, rfl, hM, rfl⟩⟩
    · exact ⟨tabA 7 0, tabA 7 1, tabA 7 2, tabA 7 3, tabA 7 4, tabA 7 5, tabA 7 6, tabA 7 7, tabA 7 8, tabA 7 9, tabA 7 10, tabA 7 11, tabA 7 12, tabA 7 13, tabA 7 14, tabA 7 15, h3, crc_rows_leaf1 (16 - (6 + 1)) (by omega) ⟨6 + 1, ek, by omega, rfl, rfl, rfl, rfl, rfl, rfl, rfl, rfl, rfl, rfl, rfl, rfl, rfl, rfl, rfl, rfl, hM, rfl⟩⟩
    · exact ⟨tabA 8 0, tabA 8 1, tabA 8 2, tabA 8 3, tabA 8 4, tabA 8 5, tabA 8 6, tabA 8 7, tabA 8 8, tabA 8 9, tabA 8 10, tabA 8 11, tabA 8 12, tabA 8 13, tabA 8 14, tabA 8 15, h3, crc_rows_leaf1 (16 - (7 + 1)) (by omega) ⟨7 + 1, ek, by omega, rfl, rfl, rfl, rfl, rfl, rfl, rfl, rfl, rfl, rfl, rfl, rfl, rfl, rfl, rfl, rfl, hM, rfl⟩⟩
    · exact ⟨tabA 9 0, tabA 9 1, tabA 9 2, tabA 9 3, tabA 9 4, tabA 9 5, tabA 9 6, tabA 9 7, tabA 9 8, tabA 9 9, tabA 9 10, tabA 9 11, tabA 9 12, tabA 9 13, tabA 9 14, tabA 9 15, h3, crc_rows_leaf1 (16 - (8 + 1)) (by omega) ⟨8 + 1, ek, by omega, rfl, rfl, rfl, rfl, rfl, rfl, rfl, rfl, rfl, rfl, rfl, rfl, rfl, rfl, rfl, rfl, hM, rfl⟩⟩
    · exact ⟨tabA 10 0, tabA 10 1, tabA 10 2, tabA 10 3, tabA 10 4, tabA 10 5, tabA 10 6, tabA 10 7, tabA 10 8, tabA 10 9, tabA 10 10, tabA 10 11, tabA 10 12, tabA 10 13, tabA 10 14, tabA 10 15, h3, crc_rows_leaf1 (16 - (9 + 1)) (by omega) ⟨9 + 1, ek, by omega, rfl, rfl, rfl, rfl, rfl, rfl, rfl, rfl, rfl, rfl, rfl, rfl, rfl, rfl, rfl, rfl, hM, rfl⟩⟩
    · exact ⟨tabA 11 0, tabA 11 1, tabA 11 2, tabA 11 3, tabA 11 4, tabA 11 5, tabA 11 6, tabA 11 7, tabA 11 8, tabA 11 9, tabA 11 10, tabA 11 11, tabA 11 12, tabA 11 13, tabA 11 14, tabA 11 15, h3, crc_rows_leaf1 (16 - (10 + 1)) (by omega) ⟨10 + 1, ek, by omega, rfl, rfl, rfl, rfl, rfl, rfl, rfl, rfl, rfl, rfl, rfl, rfl, rfl, rfl, rfl, rfl, hM, rfl⟩⟩
    · exact ⟨tabA 12 0, tabA 12 1, tabA 12 2, tabA 12 3, tabA 12 4, tabA 12 5, tabA 12 6, tabA 12 7, tabA 12 8, tabA 12 9, tabA 12 10, tabA 12 11, tabA 12 12, tabA 12 13, tabA 12 14, tabA 12 15, h3, crc_rows_leaf1 (16 - (11 + 1)) (by omega) ⟨11 + 1, ek, by omega, rfl, rfl, rfl, rfl, rfl, rfl, rfl, rfl, rfl, rfl, rfl, rfl, rfl, rfl, rfl, rfl, hM, rfl⟩⟩
    · exact ⟨tabA 13 0, tabA 13 1, tabA 13 2, tabA 13 3, tabA 13 4, tabA 13 5, tabA 13 6, tabA 13 7, tabA 13 8, tabA 13 9, tabA 13 10, tabA 13 11, tabA 13 12, tabA 13 13, tabA 13 14, tabA 13 15, h3, crc_rows_leaf1 (16 - (12 + 1)) (by omega) ⟨12 + 1, ek, by omega, rfl, rfl, rfl, rfl, rfl, rfl, rfl, rfl, rfl, rfl, rfl, rfl, rfl, rfl, rfl, rfl, hM, rfl⟩⟩
    · exact ⟨tabA 14 0, tabA 14 1, tabA 14 2, tabA 14 3, tabA 14 4, tabA 14 5, tabA 14 6, tabA 14 7, tabA 14 8, tabA 14 9, tabA 14 10, tabA 14 11, tabA 14 12, tabA 14 13, tabA 14 14, tabA 14 15, h3, crc_rows_leaf1 (16 - (13 + 1)) (by omega) ⟨13 + 1, ek, by omega, rfl, rfl, rfl, rfl, rfl, rfl, rfl, rfl, rfl, rfl, rfl, rfl, rfl, rfl, rfl, rfl, hM, rfl⟩⟩
    · exact ⟨tabA 15 0, tabA 15 1, tabA 15 2, tabA 15 3, tabA 15 4, tabA 15 5, tabA 15 6, tabA 15 7, tabA 15 8, tabA 15 9, tabA 15 10, tabA 15 11, tabA 15 12, tabA 15 13, tabA 15 14, tabA 15 15, h3, crc_rows_leaf1 (16 - (14 + 1)) (by omega) ⟨14 + 1, ek, by omega, rfl, rfl, rfl, rfl, rfl, rfl, rfl, rfl, rfl, rfl, rfl, rfl, rfl, rfl, rfl, rfl, hM, rfl⟩⟩
    · exact ⟨tabA 16 0, tabA 16 1, tabA 16 2, tabA 16 3, tabA 16 4, tabA 16 5, tabA 16 6, tabA 16 7, tabA 16 8, tabA 16 9, tabA 16 10, tabA 16 11, tabA 16 12, tabA 16 13, tabA 16 14, tabA 16 15, h3, crc_rows_leaf1 (16 - (15 + 1)) (by omega) ⟨15 + 1, ek, by omega, rfl, rfl, rfl, rfl, rfl, rfl, rfl, rfl, rfl, rfl, rfl, rfl, rfl, rfl, rfl, rfl, hM, rfl⟩⟩
  · have hk : k = 16 := by omega
    subst hk
    intro w2 A2 _
    exact ⟨rfl, M1.go0 A2.mod (by simpa using f1)⟩
def crcStep (c : Int) (b : UInt8) : Int :=
  bXor .u32 (Int.fdiv (bXor .u32 (Int.fdiv (bXor .u32 c (IntKind.wrap .u32 (b.toNat : Nat))) (2 ^ (min (Int.toNat 4) 32))) (rowC (Int.tmod (bXor .u32 c (IntKind.wrap .u32 (b.toNat : Nat))) 16).toNat)) (2 ^ (min (Int.toNat 4) 32)))
    (rowC (Int.tmod (bXor .u32 (Int.fdiv (bXor .u32 c (IntKind.wrap .u32 (b.toNat : Nat))) (2 ^ (min (Int.toNat 4) 32))) (rowC (Int.tmod (bXor .u32 c (IntKind.wrap .u32 (b.toNat : Nat))) 16).toNat)) 16).toNat)
theorem tab_cell {w : World} {b : Nat} {T : TypeId} (h : w.heap[b]? = some (.cells #[.int .u32 (rowC 0), .int .u32 (rowC 1), .int .u32 (rowC 2), .int .u32 (rowC 3), .int .u32 (rowC 4), .int .u32 (rowC 5), .int .u32 (rowC 6), .int .u32 (rowC 7), .int .u32 (rowC 8), .int .u32 (rowC 9), .int .u32 (rowC 10), .int .u32 (rowC 11), .int .u32 (rowC 12), .int .u32 (rowC 13), .int .u32 (rowC 14), .int .u32 (rowC 15)] T)) {i : Nat} (hi : i < 16) : w.cell? ((⟨b, 0, none⟩ : Addr).add (i * 1)) = some (.int .u32 (rowC i)) := by
  rw [addr_add, Nat.zero_add, Nat.mul_one, cell_at h]
  have e : i = 0 ∨ i = 1 ∨ i = 2 ∨ i = 3 ∨ i = 4 ∨ i = 5 ∨ i = 6 ∨ i = 7 ∨ i = 8 ∨ i = 9 ∨ i = 10 ∨ i = 11 ∨ i = 12 ∨ i = 13 ∨ i = 14 ∨ i = 15 := by omega
  rcases e with rfl | rfl | rfl | rfl | rfl | rfl | rfl | rfl | rfl | rfl | rfl | rfl | rfl | rfl | rfl | rfl <;> rfl
theorem tmod16 {x : Int} (h : 0 ≤ x) : 0 ≤ Int.tmod x 16 ∧ Int.tmod x 16 < ((16 : Nat) : Int) := by
  rw [Int.tmod_eq_emod_of_nonneg h]; omega
def crcM (c : Int) (l : List UInt8) : Int := bXor .u32 4294967295 (l.foldl crcStep (bXor .u32 4294967295 c))
theorem More_ok (c : Int) (s : ByteArray) (hs : s.size ≤ 1000000000000) (w : World) : Calls Tryz.prog 154 #[.int .u32 c, .string s] w fun e w' => e = .returned (.int .u32 (crcM c s.data.toList)) ∧ Mod [] w w' := by
  refine go_of (crc_More_go ?_)
  refine (rows_ok w).mono ?_
  rintro e w1 ⟨rfl, M1⟩
  refine ⟨_, _, _, _, _, _, _, _, _, _, _, _, _, _, _, _, rfl, ?_⟩
  intro b2 f2 w2 A2 h2
  have N2 := M1.go0 A2.mod (by simp)
  refine crc_More_rule1 (fun mm x y w' => ∃ k : Nat, y = k ∧ k ≤ s.size ∧ x = (s.data.toList.take k).foldl crcStep (bXor .u32 4294967295 c) ∧ w' = w2 ∧ mm = s.size - k) s.size ⟨0, rfl, by omega, by simp, rfl, rfl⟩ ?_
  rintro mm x y w3 ⟨k, rfl, hk, rfl, rfl, rfl⟩ _
  refine brB_dec (fun hlt => ?_) fun hge => ?_
  · have hk' : k < s.size := by omega
    obtain ⟨b, hb, hv⟩ := byteAt_mem hk'
    refine ⟨by omega, by omega, ?_⟩
    rw [Int.toNat_natCast, hv]
    have t1 := tmod16 (x := bXor .u32 ((s.data.toList.take k).foldl crcStep (bXor .u32 4294967295 c)) (IntKind.wrap .u32 (b.toNat : Nat))) bXor_range.1
    refine ⟨by omega, by omega, t1.1, t1.2, ldInt_of (tab_cell h2 (by omega)) ?_⟩
    have t2 := tmod16 (x := bXor .u32 (Int.fdiv (bXor .u32 ((s.data.toList.take k).foldl crcStep (bXor .u32 4294967295 c)) (IntKind.wrap .u32 (b.toNat : Nat))) (2 ^ (min (Int.toNat 4) 32))) (rowC (Int.tmod (bXor .u32 ((s.data.toList.take k).foldl crcStep (bXor .u32 4294967295 c)) (IntKind.wrap .u32 (b.toNat : Nat))) 16).toNat)) bXor_range.1
    refine ⟨by omega, by omega, t2.1, t2.2, ldInt_of (tab_cell h2 (by omega)) ?_⟩
    refine crc_More_leaf1 (s.size - (k + 1)) (by omega) ⟨k + 1, by rw [wrap_id (by omega) (by omega)]; omega, by omega, ?_, rfl, rfl⟩
    rw [List.take_add_one, hb]
    simp [crcStep]
  · have hk : k = s.size := by omega
    subst hk
    rw [List.take_of_length_le (by simp)]
    exact ⟨rfl, N2⟩
def crcN (l : List UInt8) : Int := crcM 0 l
theorem Sum_ok (s : ByteArray) (hs : s.size ≤ 1000000000000) (w : World) : Calls Tryz.prog 129 #[.string s] w fun e w' => e = .returned (.int .u32 (crcN s.data.toList)) ∧ Mod [] w w' := by
  refine go_of (crc_Sum_go ?_)
  refine (More_ok 0 s hs w).mono ?_
  rintro e w1 ⟨rfl, M1⟩
  exact ⟨_, rfl, rfl, M1⟩

/-! ### a sum in four bytes -/
def lbI (n : Int) (k : Nat) : Int := IntKind.wrap .u8 (Int.fdiv n (2 ^ (min (Int.toNat ((8 * k : Nat) : Int)) 32)))
def lb (n : Int) (k : Nat) : UInt8 := UInt8.ofNat (lbI n k).toNat
theorem lb_int (n : Int) (k : Nat) : ((lb n k).toNat : Int) = lbI n k := by
  have h : 0 ≤ lbI n k ∧ lbI n k < 256 := by unfold lbI; rw [IntKind.wrap_u8]; omega
  have : (lb n k).toNat = (lbI n k).toNat := by simp [lb]; omega
  omega
theorem made4 : madeCells #[Value.int .u8 0] 4 = #[.int .u8 0, .int .u8 0, .int .u8 0, .int .u8 0] := by kernel_rfl
def laidB (n : Int) : List UInt8 := [lb n 0, lb n 1, lb n 2, lb n 3]
theorem laid_ok (n : Int) (w : World) : Calls Tryz.prog 128 #[.int .u32 n] w fun e w' => e = .returned (.string (bs (laidB n))) ∧ Mod [] w w' := by
  refine go_of (crc_laid_go ?_)
  obtain ⟨i0, hi, hz0, hz1, hz2⟩ := info_parts infoU8
  have hmk : (Instr.makeSlice 122 (.int .i64 4) (.int .i64 4)).run Tryz.prog w = .ok (.slice (some ⟨w.heap.size, 0, none⟩) 4 4) (w.alloc (.cells (madeCells #[Value.int .u8 0] 4) 5)) := by
    have h := run_makeSlice (P := Tryz.prog) w 122 5 i0 (.int .u8 0) Tryz.underlying122 hi hz0 .i64 .i64 4 4 (by omega) (by omega) (by rw [hz1]; decide) (by rw [hz2]; decide) (by decide)
    rw [hz1] at h
    exact h
  refine ⟨_, _, _, _, hmk, ?_⟩
  have M1 : Mod [] w (w.alloc (.cells (madeCells #[Value.int .u8 0] 4) 5)) := Mod.of_below ((Below.refl _ _).alloc (Nat.le_refl _) _)
  have h1 : (w.alloc (.cells (madeCells #[Value.int .u8 0] 4) 5)).heap[w.heap.size]? = some (.cells #[.int .u8 0, .int .u8 0, .int .u8 0, .int .u8 0] 5) := by
    have := World.alloc_heap_new w (.cells (madeCells #[Value.int .u8 0] 4) 5)
    rw [this, made4]
  obtain ⟨f, hf⟩ : ∃ f : Nat → Nat → Value, f = fun k j => if j < k then .int .u8 (lbI n j) else .int .u8 0 := ⟨_, rfl⟩
  refine crc_laid_rule1 (fun mm x w' => ∃ k : Nat, x = k ∧ k ≤ 4 ∧ w'.heap[w.heap.size]? = some (.cells #[f k 0, f k 1, f k 2, f k 3] 5) ∧ Mod [] w w' ∧ mm = 4 - k) 4 ⟨0, rfl, by omega, by rw [hf]; exact h1, M1, rfl⟩ ?_
  rintro mm x w2 ⟨k, rfl, hk, h2, M2, rfl⟩
  have e8 : k ≤ 3 → IntKind.wrap .i64 (8 * (k : Int)) = ((8 * k : Nat) : Int) := fun _ => by rw [wrap_id (by omega) (by omega)]; omega
  refine brB_dec (fun hlt => ⟨by rw [e8 (by omega)]; omega, ?_⟩) fun hge => ?_
  · rw [e8 (by omega)]
    refine ⟨_, rfl, by omega, by omega, ?_⟩
    rw [show (⟨w.heap.size, 0, none⟩ : Addr).add (Int.toNat (k : Int) * 1) = ⟨w.heap.size, k, none⟩ by rw [addr_add]; simp]
    have ek : IntKind.wrap .i64 ((k : Int) + 1) = ((k + 1 : Nat) : Int) := by rw [wrap_id (by omega) (by omega)]; omega
    refine st_of (o := k) h2 rfl (by simp; omega) fun w3 h3 M3 => ?_
    have hM : Mod [] w w3 := M2.go0 M3 (by simp)
    refine crc_laid_leaf1 (4 - (k + 1)) (by omega) ⟨k + 1, ek, by omega, ?_, hM, rfl⟩
    rw [h3]
    have hcs : k = 0 ∨ k = 1 ∨ k = 2 ∨ k = 3 := by omega
    subst hf
    rcases hcs with rfl | rfl | rfl | rfl <;> rfl
  · have hk : k = 4 := by omega
    subst hk
    refine ⟨_, _, run_convert_bytes_back w2 _ _ 5 ⟨w.heap.size, 0, none⟩ 4 (laidB n) Tryz.underlying122 Tryz.underlying5 Tryz.underlying9 fun j hj => ?_, rfl, M2⟩
    rw [addr_add, Nat.zero_add, cell_at h2]
    subst hf
    have hj : j < 4 := hj
    match j, hj with
    | 0, _ => simp [laidB, lb_int]
    | 1, _ => simp [laidB, lb_int]
    | 2, _ => simp [laidB, lb_int]
    | 3, _ => simp [laidB, lb_int]
def frameB (s : ByteArray) : List UInt8 := putT s ++ laidB (crcN s.data.toList)
theorem Frame_ok (s : ByteArray) (hs : s.size ≤ 1000000000000) (w : World) : Calls Tryz.prog 79 #[.string s] w fun e w' => e = .returned (.string (bs (frameB s))) ∧ Mod [] w w' := by
  refine go_of (crc_Frame_go ?_)
  refine (PutText_ok s (by omega) w).mono ?_
  rintro e w1 ⟨rfl, M1⟩
  refine ⟨_, rfl, ?_⟩
  refine (Sum_ok s hs w1).mono ?_
  rintro e w2 ⟨rfl, M2⟩
  refine ⟨_, rfl, ?_⟩
  refine (laid_ok _ w2).mono ?_
  rintro e w3 ⟨rfl, M3⟩
  have := putT_len s (by omega)
  refine ⟨_, rfl, by rw [bs_size, bs_size]; simp [laidB]; omega, ?_⟩
  exact ⟨by rw [bs_app]; rfl, (M1.go0 M2 (by simp)).go0 M3 (by simp)⟩
end Go.Proofs.YtohgihgddknmmaaGreat

/- What stands at a place: numbers, texts, frames. -/
namespace Go.Proofs.YtohgihgddknmmaaGreat
open Go Go.RowKit
set_option linter.unusedVariables false
set_option linter.unusedSimpArgs false

/-- The number ahead in some bytes, of which so many stood ahead; how many bytes it has. -/
def vg : Nat → List UInt8 → Option (Nat × Nat)
  | _, [] => none
  | k, c :: r => if (k = 9 ∧ 1 < c.toNat) ∨ (0 < k ∧ c.toNat = 0) then none
    else if c.toNat < 128 then some (c.toNat, 1)
    else (vg (k + 1) r).map fun p => (c.toNat % 128 + 128 * p.1, p.2 + 1)
/-- The text ahead in some bytes, how many bytes it has. -/
def tg (lim : Nat) (l : List UInt8) : Option (ByteArray × Nat) := match vg 0 l with
  | none => none
  | some (n, m) => if n ≤ lim ∧ n ≤ l.length - m then some (bs ((l.drop m).take n), m + n) else none
theorem frameB_len (s : ByteArray) : (frameB s).length = (putT s).length + 4 := by simp [frameB, laidB]
end Go.Proofs.YtohgihgddknmmaaGreat

/- Whether a reply may be: the reference. -/
namespace Go.Proofs.YtohgihgddknmmaaGreat
open Go Go.RowKit
set_option linter.unusedVariables false
set_option linter.unusedSimpArgs false

abbrev PostR (r : PRep) (w0 : World) : Value → World → Prop := fun v w' => v = .int .i64 (repE r) ∧ Mod [] w0 w'
theorem Right5 {w0 w : World} {bm : Nat} {r : PRep} {f p : Sl} (h : RepAt w0 r f p) (M : Mod [] w0 w) (hr : r.parts.any badP = false → repE r = 0) (hr2 : r.parts.any badP = true → repE r = 40) :
    loopD3 ref04_Right_la5 (dnF Tryz.prog ref04_Right_an (code Tryz.f148) 391 [0, 0, 1, 0, 1, 1, 1, 1, 1, 1, 1]) (kont3 Tryz.prog ref04_Right_an (code Tryz.f148) [1, 1, 1, 1, 1, 1, 1, 0, 1, 0] [] (post3 Tryz.prog Tryz.f148 [] (PostR r w0)))
      (ref04_Right_v5 bm 0) (ref04_Right_m5 bm r.e r.off r.n r.gen f.a f.n f.c p.a p.n p.c) w := by
  have e5 := h.parts.1
  have hl := h.lp
  refine ref04_Right_rule5 (fun mm x w' => ∃ k : Nat, x = k ∧ k ≤ r.parts.length ∧ (r.parts.take k).any badP = false ∧ Mod [] w0 w' ∧ mm = r.parts.length - k) r.parts.length ⟨0, rfl, by omega, by simp, M, rfl⟩ ?_
  rintro mm x w1 ⟨k, rfl, hk, ha, M1, rfl⟩
  refine brB_dec (fun hlt => ?_) fun hge => ?_
  · have g1 : k < r.parts.length := by omega
    obtain ⟨x, hx⟩ : ∃ x, r.parts[k]? = some x := ⟨_, List.getElem?_eq_getElem g1⟩
    have ek : IntKind.wrap .i64 ((k : Int) + 1) = ((k + 1 : Nat) : Int) := by rw [wrap_id (by omega) (by omega)]; omega
    refine (h.keep0 M1).parts.ix hx fun q hq => ldStr_of (by simpa [add_zero] using hq 0 _ rfl) ?_
    refine (RName_ok x.t w1).mono ?_
    rintro e w2 ⟨rfl, rfl⟩
    refine ⟨_, rfl, Keep.of0 (Mod.refl _), ?_⟩
    refine brB_of (fun g3 => ?_) (fun g3 => ?_)
    · exact ⟨by rw [hr2 (List.any_eq_true.2 ⟨x, List.mem_of_getElem? hx, g3⟩)], M1⟩
    · exact ref04_Right_leaf5 (r.parts.length - (k + 1)) (by omega) ⟨k + 1, ek, by omega, by rw [take_any hx, ha]; exact g3, M1, rfl⟩
  · have hk : k = r.parts.length := by omega
    subst hk
    rw [List.take_length] at ha
    exact ⟨by rw [hr ha], M1⟩
theorem Right3 {w0 w : World} {bm : Nat} {r : PRep} {f p : Sl} (h : RepAt w0 r f p) (M : Mod [] w0 w) {t : Bool} (ht : t = (ok0 r && r.found.all okF)) :
    loopD3 ref04_Right_la3 (dnF Tryz.prog ref04_Right_an (code Tryz.f148) 395 [0, 0, 1, 0, 1, 1, 1]) (kont3 Tryz.prog ref04_Right_an (code Tryz.f148) [1, 1, 1, 0, 1, 0] [] (post3 Tryz.prog Tryz.f148 [] (PostR r w0)))
      (ref04_Right_v3 bm t 0) (ref04_Right_m3 bm r.e r.off r.n r.gen f.a f.n f.c p.a p.n p.c) w := by
  have e5 := h.parts.1
  have e4 := h.found.1
  have hl := h.lp
  have hl4 := h.lf
  refine ref04_Right_rule3 (fun mm t x w' => ∃ k : Nat, x = k ∧ k ≤ r.parts.length ∧ t = (ok0 r && r.found.all okF && (r.parts.take k).all okP) ∧ Mod [] w0 w' ∧ mm = r.parts.length - k) r.parts.length ⟨0, rfl, by omega, by simp [ht], M, rfl⟩ ?_
  rintro mm t x w1 ⟨k, rfl, hk, rfl, M1, rfl⟩
  refine brB_dec (fun hlt => ?_) fun hge => ?_
  · have g1 : k < r.parts.length := by omega
    obtain ⟨x, hx⟩ : ∃ x, r.parts[k]? = some x := ⟨_, List.getElem?_eq_getElem g1⟩
    have ek : IntKind.wrap .i64 ((k : Int) + 1) = ((k + 1 : Nat) : Int) := by rw [wrap_id (by omega) (by omega)]; omega
    refine brB_of (fun g3 => ?_) (fun g3 => ?_)
    · refine (h.keep0 M1).parts.ix hx fun q hq => ldInt_of (hq 1 _ rfl) ?_
      refine (Num3_ok x.n w1).mono ?_
      rintro e w2 ⟨rfl, rfl⟩
      refine ⟨_, rfl, Keep.of0 (Mod.refl _), ?_⟩
      exact ref04_Right_leaf3 (r.parts.length - (k + 1)) (by omega) ⟨k + 1, ek, by omega, by rw [take_all hx, ← Bool.and_assoc, g3]; rfl, M1, rfl⟩
    · exact ref04_Right_leaf3 (r.parts.length - (k + 1)) (by omega) ⟨k + 1, ek, by omega, by rw [take_all hx, ← Bool.and_assoc, g3]; rfl, M1, rfl⟩
  · have hk : k = r.parts.length := by omega
    subst hk
    rw [List.take_length]
    refine brB_of (fun g1 => ⟨by rw [repE, if_pos (notT g1)], M1⟩) fun g1 => ?_
    have hR1 : repE r = if r.found.length > 64 then 2 else if r.parts.length > 64 then 2 else if (r.found.any badF || r.parts.any badP) = true then 40 else 0 := by
      rw [repE, if_neg (by rw [notF g1]; decide)]
    refine brB_dec (fun g2 => ⟨by rw [hR1, if_pos (by omega)], M1⟩) fun g2 => ?_
    rw [if_neg (by omega)] at hR1
    refine brB_dec (fun g3 => ⟨by rw [hR1, if_pos (by omega)], M1⟩) fun g3 => ?_
    rw [if_neg (by omega)] at hR1
    refine ref04_Right_rule4 (fun mm x w' => ∃ k : Nat, x = k ∧ k ≤ r.found.length ∧ (r.found.take k).any badF = false ∧ Mod [] w0 w' ∧ mm = r.found.length - k) r.found.length ⟨0, rfl, by omega, by simp, M1, rfl⟩ ?_
    rintro mm x w1 ⟨k, rfl, hk, ha, M1, rfl⟩
    refine brB_dec (fun hlt => ?_) fun hge => ?_
    · have g1 : k < r.found.length := by omega
      obtain ⟨x, hx⟩ : ∃ x, r.found[k]? = some x := ⟨_, List.getElem?_eq_getElem g1⟩
      have ek : IntKind.wrap .i64 ((k : Int) + 1) = ((k + 1 : Nat) : Int) := by rw [wrap_id (by omega) (by omega)]; omega
      refine (h.keep0 M1).found.ix hx fun q hq => ?_
      rw [add_add, add_add, add_add]
      refine ldBool_of (hq 1 _ rfl) (ldStr_of (hq 2 _ rfl) (ldBool_of (hq 3 _ rfl) (ldStr_of (hq 4 _ rfl) ?_)))
      refine (RefCheck_ok x.r w1).mono ?_
      rintro e w2 ⟨rfl, M2⟩
      refine ⟨_, rfl, Keep.of0 M2, ?_⟩
      have M3 := M1.go0 M2 (by simp)
      refine brB_of (fun g3 => ?_) (fun g3 => ?_)
      · have hb : r.found.any badF = true := List.any_eq_true.2 ⟨x, List.mem_of_getElem? hx, g3⟩
        exact ⟨by rw [hR1, if_pos (by rw [hb]; rfl)], M3⟩
      · exact ref04_Right_leaf4 (r.found.length - (k + 1)) (by omega) ⟨k + 1, ek, by omega, by rw [take_any hx, ha]; exact g3, M3, rfl⟩
    · have hk : k = r.found.length := by omega
      subst hk
      rw [List.take_length] at ha
      exact Right5 h M1 (fun hp => by rw [hR1, ha, hp]; rfl) (fun hp => by rw [hR1, ha, hp]; rfl)
theorem Right_rest {w0 w : World} {bm : Nat} {r : PRep} {f p : Sl} (h : RepAt w0 r f p) (M : Mod [] w0 w) {t : Bool} (ht : t = ok0 r) :
    ref04_Right_C1 t bm r.e r.off r.n r.gen f.a f.n f.c p.a p.n p.c (PostR r w0) w := by
  have e4 := h.found.1
  have hl := h.lf
  refine ref04_Right_rule2 (fun mm t x w' => ∃ k : Nat, x = k ∧ k ≤ r.found.length ∧ t = (ok0 r && (r.found.take k).all okF) ∧ Mod [] w0 w' ∧ mm = r.found.length - k) r.found.length ⟨0, rfl, by omega, by simp [ht], M, rfl⟩ ?_
  rintro mm t x w1 ⟨k, rfl, hk, rfl, M1, rfl⟩
  refine brB_dec (fun hlt => ?_) fun hge => ?_
  · have g1 : k < r.found.length := by omega
    obtain ⟨x, hx⟩ : ∃ x, r.found[k]? = some x := ⟨_, List.getElem?_eq_getElem g1⟩
    have ek : IntKind.wrap .i64 ((k : Int) + 1) = ((k + 1 : Nat) : Int) := by rw [wrap_id (by omega) (by omega)]; omega
    refine brB_of (fun g3 => ?_) (fun g3 => ?_)
    · refine (h.keep0 M1).found.ix hx fun q hq => ldInt_of (by simpa [add_zero] using hq 0 _ rfl) ?_
      refine (Num3_ok x.off w1).mono ?_
      rintro e w2 ⟨rfl, rfl⟩
      refine ⟨_, rfl, Keep.of0 (Mod.refl _), ?_⟩
      exact ref04_Right_leaf2 (r.found.length - (k + 1)) (by omega) ⟨k + 1, ek, by omega, by rw [take_all hx, ← Bool.and_assoc, g3]; rfl, M1, rfl⟩
    · exact ref04_Right_leaf2 (r.found.length - (k + 1)) (by omega) ⟨k + 1, ek, by omega, by rw [take_all hx, ← Bool.and_assoc, g3]; rfl, M1, rfl⟩
  · have hk : k = r.found.length := by omega
    subst hk
    rw [List.take_length]
    exact Right3 h M1 rfl
theorem Right_ok {w : World} {r : PRep} {f p : Sl} (h : RepAt w r f p) :
    Calls Tryz.prog 148 #[r.v f p] w fun e w' => e = .returned (.int .i64 (repE r)) ∧ Mod [] w w' := by
  refine go_of (ref04_Right_go ?_)
  intro b1 f1 w1 A1
  have rest : ∀ (t : Bool) (bm : Nat) (x0 x1 x2 x3 : Int) (a4 : Option Addr) (n4 c4 : Nat) (a5 : Option Addr) (n5 c5 : Nat) (w' : World), (t = ok0 r ∧ x0 = r.e ∧ x1 = r.off ∧ x2 = r.n ∧ x3 = r.gen ∧ a4 = f.a ∧ n4 = f.n ∧ c4 = f.c ∧ a5 = p.a ∧ n5 = p.n ∧ c5 = p.c ∧ Mod [] w w') → ref04_Right_C1 t bm x0 x1 x2 x3 a4 n4 c4 a5 n5 c5 (PostR r w) w' := by
    rintro t bm x0 x1 x2 x3 a4 n4 c4 a5 n5 c5 w' ⟨ht, rfl, rfl, rfl, rfl, rfl, rfl, rfl, rfl, rfl, rfl, M⟩
    exact Right_rest h M ht
  refine (Num3_ok _ _).mono ?_
  rintro e w2 ⟨rfl, rfl⟩
  refine ⟨_, rfl, Keep.of0 (Mod.refl _), brB_of (fun g1 => ?_) (fun g1 => ?_)⟩
  rotate_left
  · exact ref04_Right_cut1 _ ⟨by simp [ok0, g1], rfl, rfl, rfl, rfl, rfl, rfl, rfl, rfl, rfl, rfl, A1.mod⟩ rest
  refine (Num3_ok _ _).mono ?_
  rintro e w2 ⟨rfl, rfl⟩
  refine ⟨_, rfl, Keep.of0 (Mod.refl _), brB_of (fun g2 => ?_) (fun g2 => ?_)⟩
  rotate_left
  · exact ref04_Right_cut1 _ ⟨by simp [ok0, g2], rfl, rfl, rfl, rfl, rfl, rfl, rfl, rfl, rfl, rfl, A1.mod⟩ rest
  refine (Num3_ok _ _).mono ?_
  rintro e w2 ⟨rfl, rfl⟩
  refine ⟨_, rfl, Keep.of0 (Mod.refl _), brB_of (fun g3 => ?_) (fun g3 => ?_)⟩
  rotate_left
  · exact ref04_Right_cut1 _ ⟨by simp [ok0, g3], rfl, rfl, rfl, rfl, rfl, rfl, rfl, rfl, rfl, rfl, A1.mod⟩ rest
  refine (Num3_ok _ _).mono ?_
  rintro e w2 ⟨rfl, rfl⟩
  refine ⟨_, rfl, Keep.of0 (Mod.refl _), ?_⟩
  exact ref04_Right_cut1 _ ⟨by simp [ok0, g1, g2, g3], rfl, rfl, rfl, rfl, rfl, rfl, rfl, rfl, rfl, rfl, A1.mod⟩ rest
end Go.Proofs.YtohgihgddknmmaaGreat

/- Slices that are cut, rows that are written. -/
namespace Go.Proofs.YtohgihgddknmmaaGreat
open Go Go.RowKit
set_option linter.unusedVariables false
set_option linter.unusedSimpArgs false

theorem SlAt.ixW {α : Type} {w : World} {sz : Nat} {enc : α → List Value} {a : Option Addr} {n : Nat} {l : List α} {i : Nat} {x : α} {F : Addr → Prop} (h : SlAt w sz enc a n l) (hx : l[i]? = some x)
    (hF : ∀ q, (∀ w', Mod [] w w' → ∀ j v, (enc x)[j]? = some v → w'.cell? (q.add j) = some v) → F q) : ixA a n (i : Int) sz F := by
  obtain ⟨ad, ha, hc⟩ := h.2 i x hx
  have hl := (List.getElem?_eq_some_iff.1 hx).1
  refine ⟨ad, ha, by omega, by rw [h.1]; omega, hF _ fun w' M j v hj => ?_⟩
  obtain ⟨ad', ha', hc'⟩ := (h.keep0 M).2 i x hx
  rw [ha] at ha'; cases ha'
  simpa using hc' j v hj
end Go.Proofs.YtohgihgddknmmaaGreat

/- Commands, calls, messages as data. -/
namespace Go.Proofs.YtohgihgddknmmaaGreat
open Go Go.RowKit
set_option linter.unusedVariables false
set_option linter.unusedSimpArgs false

structure PBatch where
  prod : Int
  epoch : Int
  seq : Int
  recs : List PRec
  deriving DecidableEq
structure POp where
  kind : Int
  part : PPart
  n : Int
  off : Int
  b : PBatch
  g : ByteArray
  m : ByteArray
  gen : Int
  robin : Bool
  topics : List ByteArray
  deriving DecidableEq
structure PCall where
  c : Int
  n : Int
  op : POp
  deriving DecidableEq
def encR (r : PRec) : List Value := [.bool r.hk, .string r.key, .bool r.tomb, .string r.val]
def encS (s : ByteArray) : List Value := [.string s]
theorem encR_len (r : PRec) : (encR r).length = 4 := rfl
theorem encS_len (s : ByteArray) : (encS s).length = 1 := rfl
theorem encR_one (x : PRec) : ∀ u ∈ encR x, u.oneCell' = true := by simp [encR, Value.oneCell']
theorem encS_one (x : ByteArray) : ∀ u ∈ encS x, u.oneCell' = true := by simp [encS, Value.oneCell']
def POp.cs (o : POp) (rs ts : Sl) : List Value := [.int .i64 o.kind, .string o.part.t, .int .i64 o.part.n, .int .i64 o.n, .int .i64 o.off, .int .i64 o.b.prod, .int .i64 o.b.epoch, .int .i64 o.b.seq, .slice rs.a rs.n rs.c, .string o.g, .string o.m, .int .i64 o.gen, .bool o.robin, .slice ts.a ts.n ts.c]
def POp.v (o : POp) (rs ts : Sl) : Value := .agg #[.int .i64 o.kind, .string o.part.t, .int .i64 o.part.n, .int .i64 o.n, .int .i64 o.off, .int .i64 o.b.prod, .int .i64 o.b.epoch, .int .i64 o.b.seq, .slice rs.a rs.n rs.c, .string o.g, .string o.m, .int .i64 o.gen, .bool o.robin, .slice ts.a ts.n ts.c]
def batch0 : PBatch := ⟨0, 0, 0, []⟩
def op0 : POp := ⟨0, ⟨⟨#[]⟩, 0⟩, 0, 0, batch0, ⟨#[]⟩, ⟨#[]⟩, 0, false, []⟩
/-- What its slices read as. -/
structure OpAt (w : World) (o : POp) (rs ts : Sl) : Prop where
  recs : SlAt w 4 encR rs.a rs.n o.b.recs
  topics : SlAt w 1 encS ts.a ts.n o.topics
  lr : o.b.recs.length ≤ 1000000
  lt : o.topics.length ≤ 1000000
structure OpOwn (w : World) (base : Nat) (o : POp) (rs ts : Sl) : Prop where
  recs : Row w base 149 4 encR rs.a rs.n rs.c o.b.recs
  topics : Row w base 9 1 encS ts.a ts.n ts.c o.topics
  lr : o.b.recs.length ≤ 1000000
  lt : o.topics.length ≤ 1000000
theorem OpOwn.at {w : World} {base : Nat} {o : POp} {rs ts : Sl} (h : OpOwn w base o rs ts) : OpAt w o rs ts := ⟨h.recs.sl encR_len, h.topics.sl encS_len, h.lr, h.lt⟩
theorem OpAt.keep0 {w w' : World} {o : POp} {rs ts : Sl} (h : OpAt w o rs ts) (M : Mod [] w w') : OpAt w' o rs ts := ⟨h.recs.keep0 M, h.topics.keep0 M, h.lr, h.lt⟩
theorem OpOwn.keep0 {w w' : World} {base : Nat} {o : POp} {rs ts : Sl} (h : OpOwn w base o rs ts) (M : Mod [] w w') : OpOwn w' base o rs ts := ⟨h.recs.keep0 M, h.topics.keep0 M, h.lr, h.lt⟩
theorem OpOwn.rebase {w : World} {base base' : Nat} {o : POp} {rs ts : Sl} (h : OpOwn w base o rs ts) (hb : base' ≤ base) : OpOwn w base' o rs ts := ⟨h.recs.rebase hb, h.topics.rebase hb, h.lr, h.lt⟩
theorem op0_own (w : World) (base : Nat) : OpOwn w base op0 ⟨none, 0, 0⟩ ⟨none, 0, 0⟩ := ⟨Row.nil .., Row.nil .., by simp [op0, batch0], by simp [op0]⟩

/-! ### what may be -/
def batchE (b : PBatch) : Int :=
  if (num b.prod && num b.epoch && num b.seq) = false then 1 else if b.recs.length = 0 then 30 else if b.recs.length > 16 then 2 else
    match b.recs.find? fun r => recE r ≠ 0 with
    | none => 0
    | some r => recE r
/-- What a kind has, by letters' numbers. -/
def hasL (k : Int) : List Nat :=
  if k = 0 then [116, 110] else if k = 1 then [110] else if k = 2 then [112, 98] else if k = 3 then [112, 111, 110] else if k = 4 then [112, 111] else if k = 5 then [112]
  else if k = 6 then [103, 109, 110, 114, 108] else if k = 7 then [103, 109, 101] else if k = 8 then [103, 109, 101] else if k = 9 then [103, 109, 101] else if k = 10 then [103, 109, 101, 112, 111] else if k = 11 then [103, 112] else [110]
def ha (k : Int) (c : Nat) : Bool := (hasL k).contains c
def emptyB (s : ByteArray) : Bool := decide (s.size = 0)
/-- Does a text stand ahead of another one? -/
def lessB (s t : ByteArray) : Bool := Op.bytesLess s.toList t.toList
def riseB : List ByteArray → Bool
  | s :: t :: r => lessB s t && riseB (t :: r)
  | _ => true
def namesB (l : List ByteArray) : Bool := decide (1 ≤ l.length ∧ l.length ≤ 8) && l.all nameB && riseB l
def onlyB (o : POp) : Bool :=
  (ha o.kind 112 || ha o.kind 116 || emptyB o.part.t) && (ha o.kind 112 || decide (o.part.n = 0)) && (ha o.kind 110 || decide (o.n = 0)) && (ha o.kind 111 || decide (o.off = 0)) &&
  (ha o.kind 98 || decide (o.b = batch0)) && (ha o.kind 103 || emptyB o.g) && (ha o.kind 109 || emptyB o.m) && (ha o.kind 101 || decide (o.gen = 0)) && (ha o.kind 114 || (!o.robin && decide (o.topics = [])))
def formB (o : POp) : Bool :=
  onlyB o && (!(ha o.kind 112 || ha o.kind 116) || nameB o.part.t) && (!ha o.kind 103 || nameB o.g) && (!ha o.kind 109 || nameB o.m) && (!ha o.kind 108 || namesB o.topics)
def opE (o : POp) : Int :=
  if o.kind < 0 ∨ o.kind > 12 then 41 else if formB o = false then 40 else if (num o.part.n && num o.n && num o.off && num o.gen) = false then 1 else if o.kind = 2 then batchE o.b else 0
end Go.Proofs.YtohgihgddknmmaaGreat

/- Whether a command may be: what the checker's visit comes to, and what the document says, are the same. -/
namespace Go.Proofs.YtohgihgddknmmaaGreat
open Go Go.RowKit
set_option linter.unusedVariables false
set_option linter.unusedSimpArgs false

/-- What the checker's visit leaves: is a form odd, a number; the batch's error; the command. -/
def chF (o : POp) : Bool := (ha o.kind 103 && !nameB o.g) || (ha o.kind 109 && !nameB o.m) || ((ha o.kind 112 || ha o.kind 116) && !nameB o.part.t) || (ha o.kind 108 && !namesB o.topics)
def chA (o : POp) : Bool := (ha o.kind 112 && !num o.part.n) || (ha o.kind 110 && !num o.n) || (ha o.kind 111 && !num o.off) || (ha o.kind 101 && !num o.gen)
def chE (o : POp) : Int := if ha o.kind 98 then batchE o.b else 0
def es : ByteArray := ⟨#[]⟩
def chO (o : POp) : POp := ⟨o.kind, ⟨if ha o.kind 112 || ha o.kind 116 then es else o.part.t, if ha o.kind 112 then 0 else o.part.n⟩, if ha o.kind 110 then 0 else o.n, if ha o.kind 111 then 0 else o.off,
  if ha o.kind 98 then batch0 else o.b, if ha o.kind 103 then es else o.g, if ha o.kind 109 then es else o.m, if ha o.kind 101 then 0 else o.gen, if ha o.kind 114 then false else o.robin, if ha o.kind 114 then [] else o.topics⟩
theorem empty_iff (s : ByteArray) : emptyB s = decide (s = es) := by
  unfold emptyB es
  by_cases h : s.size = 0
  · rw [decide_eq_true h, decide_eq_true ((size0 s).2 h)]
  · rw [decide_eq_false h, decide_eq_false fun e => h ((size0 s).1 e)]
theorem ite_key {α : Type} (p : Bool) (x d : α) : ((if p = true then d else x) = d) ↔ (p = true ∨ x = d) := by cases p <;> simp
theorem ite_key2 {α : Type} (p t : Bool) (x d : α) : ((if p = true ∨ t = true then d else x) = d) ↔ (p = true ∨ t = true ∨ x = d) := by cases p <;> cases t <;> simp
theorem chO_only (o : POp) : decide ({ chO o with kind := 0 } = op0) = onlyB o := by
  rw [Bool.eq_iff_iff, decide_eq_true_iff]
  unfold onlyB
  rw [empty_iff, empty_iff, empty_iff]
  unfold chO op0
  simp only [POp.mk.injEq, PPart.mk.injEq, true_and, Bool.and_eq_true, decide_eq_true_iff, ite_key2, show (⟨#[]⟩ : ByteArray) = es from rfl, ite_key, Bool.or_eq_true, or_and_left, Bool.not_eq_true', and_assoc, or_assoc]
theorem num0 {p : Bool} {x : Int} (h : (p || decide (x = 0)) = true) : num x = !(p && !num x) := by
  cases p
  · have : x = 0 := by simpa using h
    subst this; rfl
  · simp
theorem ha98 {k : Int} (h0 : ¬ (k < 0 ∨ k > 12)) : ha k 98 = decide (k = 2) := by
  have : k = 0 ∨ k = 1 ∨ k = 2 ∨ k = 3 ∨ k = 4 ∨ k = 5 ∨ k = 6 ∨ k = 7 ∨ k = 8 ∨ k = 9 ∨ k = 10 ∨ k = 11 ∨ k = 12 := by omega
  rcases this with rfl | rfl | rfl | rfl | rfl | rfl | rfl | rfl | rfl | rfl | rfl | rfl | rfl <;> decide
theorem check_law (o : POp) (h0 : ¬ (o.kind < 0 ∨ o.kind > 12)) : opE o = if (chF o || !decide ({ chO o with kind := 0 } = op0)) = true then 40 else if chA o = true then 1 else chE o := by
  rw [chO_only, opE, if_neg h0]
  have hf : formB o = !(chF o || !onlyB o) := by
    unfold formB chF
    generalize onlyB o = a
    generalize ha o.kind 103 = b1
    generalize ha o.kind 109 = b2
    generalize (ha o.kind 112 || ha o.kind 116) = b3
    generalize ha o.kind 108 = b4
    cases a <;> cases b1 <;> cases b2 <;> cases b3 <;> cases b4 <;> simp [Bool.and_comm, Bool.and_assoc, Bool.and_left_comm]
  rw [hf]
  cases h : (chF o || !onlyB o)
  · simp only [Bool.not_false, Bool.true_eq_false, if_false, Bool.false_eq_true]
    have ho : onlyB o = true := by cases hh : onlyB o; rw [hh] at h; simp at h; rfl
    unfold onlyB at ho
    simp only [Bool.and_eq_true] at ho
    obtain ⟨⟨⟨⟨⟨⟨⟨⟨_, h1⟩, h2⟩, h3⟩, _⟩, _⟩, _⟩, h4⟩, _⟩ := ho
    have e : (num o.part.n && num o.n && num o.off && num o.gen) = !chA o := by
      rw [num0 h1, num0 h2, num0 h3, num0 h4]
      unfold chA
      simp only [Bool.not_or, Bool.and_assoc]
    rw [e, chE, ha98 h0]
    cases chA o <;> simp
  · simp
end Go.Proofs.YtohgihgddknmmaaGreat
