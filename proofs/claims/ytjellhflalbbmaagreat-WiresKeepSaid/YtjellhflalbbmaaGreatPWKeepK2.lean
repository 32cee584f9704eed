/- Part 2 of the proof of PWKeep. -/
import Derived.Test.YtjellhflalbbmaaGreatPWKeepK1
namespace Go.Proofs.YtjellhflalbbmaaGreat
open Go Go.RowKit Go.Shelf
set_option linter.unusedVariables false
set_option linter.unusedSimpArgs false
attribute [local go_sem] Oper.semAt_some
def ynH (n : Nat) : List (Nat × Bool) := if h : n < 128 then [(n, false)] else (n % 128, true) :: ynH (n / 128)
termination_by n
decreasing_by omega
theorem ydU {n : Nat} (h : n < 128) : ynH n = [(n, false)] := by rw [ynH, dif_pos h]
theorem yhH {n : Nat} (h : ¬ n < 128) : ynH n = (n % 128, true) :: ynH (n / 128) := by rw [ynH, dif_neg h]
theorem yeW : ∀ (k n : Nat), n < 128 ^ (k + 1) → 1 ≤ (ynH n).length ∧ (ynH n).length ≤ k + 1
 | 0, n, h => by rw [ydU (by simpa using h)]; simp
 | k + 1, n, h => by
  by_cases h1 : n < 128
  ·rw [ydU h1]; simp
  ·rw [yhH h1]
   have := yeW k (n / 128) (by rw [Nat.pow_succ] at h; omega)
   simp; omega
set_option maxRecDepth 100000 in
set_option maxHeartbeats 2000000 in
theorem yr4 (C n : Nat) (hn : n < 18446744073709551616) :
  yt2 pP 112 #[.pointer (some ⟨C, 0, none⟩)] (fun x : Nat × Bool => #[.int .u8 (x.1 : Nat), .bool x.2]) C 10 (.cells #[.int .u64 (n : Nat)] 116) (ynH n) := fun l J W hset hdrew hY h0 hC => by
 have hro : Fence.wide.round = none := rfl
 refine callsIn_of_wp Tryz.func112 rfl trivial ?_ hro
 simp only [Tryz.ntmps112, List.size_toArray, List.length_cons, List.length_nil, Nat.reduceAdd, Nat.reduceSub, Array.replicate_succ, Array.replicate_zero, List.push_toArray, List.append_toArray, List.nil_append, List.cons_append]
 have hcellOf : ∀ {wr : World} {m : Nat}, wr.heap[C]? = some (.cells #[.int .u64 (m : Nat)] 116) → wr.cell? ⟨C, 0, none⟩ = some (.int .u64 (m : Nat)) ∧ wr.frozen? ⟨C, 0, none⟩ = false := fun h => ⟨by rw [yaU h]; rfl, ymD h⟩
 gi_wp2
 gi_loopg [] n (fun k wr => ∃ pre, k < 18446744073709551616 ∧ ynH n = pre ++ ynH k ∧ wr.heap[C]? = some (.cells #[.int .u64 (k : Nat)] 116) ∧ J pre wr)
 case atStart => exact ⟨[], hn, rfl, hC, h0⟩
 case round =>
  obtain ⟨pre, hk, hs, hCw, hJ⟩ := hrel
  obtain ⟨hc, hf⟩ := hcellOf hCw
  have hlen := (yeW 9 n (by omega)).2
  rw [hs] at hlen
  have hk1 := (yeW 9 gk (by omega)).1
  rw [List.length_append] at hlen
  by_cases hb : gk < 128
  ·have hb' : ¬ (128 : Int) ≤ (gk : Int) := by omega
   obtain ⟨fn, tmps, assign, body, hy, hR⟩ := hY pre (gk, false) wr hJ (by omega)
   dsimp only at hy
   gi_wp2
   refine hR.mono ?_
   rintro e W3 ⟨rfl, hJ3, hC3⟩
   gi_wp2
   go_end0
   refine ⟨⟨_, rfl⟩, ?_⟩
   rw [hs, ydU hb]
   exact hJ3
  ·have hb' : (128 : Int) ≤ (gk : Int) := by omega
   have e7 : bits .and .u64 (gk : Int) 127 % 256 = (gk : Int) % 128 := by
    have h := bits_and_u64_nat gk 127 (by omega) (by omega)
    have h2 : (gk &&& 127 : Nat) = gk % 128 := Nat.and_two_pow_sub_one_eq_mod gk 7
    rw [h2] at h
    have h3 : bits .and .u64 (gk : Int) 127 = ((gk % 128 : Nat) : Int) := h
    rw [h3]; omega
   obtain ⟨fn, tmps, assign, body, hy, hR⟩ := hY pre (gk % 128, true) wr hJ (by omega)
   dsimp only at hy
   have e8 : ((gk % 128 : Nat) : Int) = (gk : Int) % 128 := by omega
   rw [e8] at hy
   gi_wp2
   refine hR.mono ?_
   rintro e W3 ⟨rfl, hJ3, hC3⟩
   obtain ⟨hc3, hf3⟩ := hcellOf (hC3.trans hCw)
   gi_wp2
   gi_roundg (gk / 128)
   case rel =>
    refine ⟨pre ++ [(gk % 128, true)], by omega, by rw [hs, yhH hb]; simp, ?_, hset _ _ _ hJ3⟩
    rw [ygV (hC3.trans hCw)]
    rfl
   case measure => omega
theorem yt3 (n : Int) (w : World) :
  CallsIn Fence.wide 1 pP 76 #[.int .u64 n] w fun e w' => e = .returned (.func (.func 112) #[] #[.pointer (some ⟨w.heap.size, 0, none⟩)]) ∧ w' = w.alloc (.cells #[.int .u64 n] 116) := by
 refine callsIn_of_wp Tryz.func76 rfl trivial ?_ rfl
 simp only [Tryz.ntmps76, List.size_toArray, List.length_cons, List.length_nil, Nat.reduceAdd, Nat.reduceSub, Array.replicate_succ, Array.replicate_zero, List.push_toArray, List.append_toArray, List.nil_append, List.cons_append]
 gi_wp2
 go_ret
 exact ⟨rfl, rfl⟩
def yCx (p : Nat × Bool) : Int := if p.2 then bits .or .u8 (p.1 : Nat) 128 else (p.1 : Nat)
def yaM (n : Nat) : List UInt8 := (ynH n).map fun p => UInt8.ofNat (if p.2 then p.1 + 128 else p.1)
def yyJ (n : Nat) : ByteArray := ⟨(yaM n).toArray⟩
theorem yFE : ∀ x : Fin 128, bits .or .u8 ((x.val : Nat) : Int) 128 = ((x.val + 128 : Nat) : Int) := by decide
theorem yr5 : ∀ (n : Nat), (ynH n).map (fun p => Value.int .u8 (yCx p)) = (yaM n).map fun b => Value.int .u8 (b.toNat : Int) := by
 intro n
 induction n using Nat.strongRecOn with
 | ind n ih =>
  by_cases h : n < 128
  ·have e : (UInt8.ofNat n).toNat = n := by simp; omega
   simp [yaM, ydU h, yCx]; omega
  ·have e := yFE ⟨n % 128, by omega⟩
   have ih := ih (n / 128) (by omega)
   unfold yaM at ih ⊢
   rw [yhH h, List.map_cons, List.map_cons, List.map_cons, ih]
   simp only [yCx, if_true]
   rw [e]
   simp; omega
theorem yAb : (Tryz.prog.info? 5).map (fun i => (i.zero, i.size, i.bytes)) = some (some (.int .u8 0), 1, 1) := by kernel_rfl
set_option maxRecDepth 100000 in
set_option maxHeartbeats 2000000 in
theorem yCy (n : Nat) (hn : n < 18446744073709551616) (w : World) :
  CallsIn Fence.wide 2 pP 52 #[.int .u64 (n : Nat)] w fun e w' => e = .returned (.string (yyJ n)) ∧ Below w.heap.size w w' := by
 have hro : Fence.wide.round = none := rfl
 obtain ⟨i0, hi, hz0, hz1, hz2⟩ := info_parts yAb
 refine callsIn_of_wp_marks Tryz.func52 rfl trivial ?_ hro
 simp only [Tryz.ntmps52, List.size_toArray, List.length_cons, List.length_nil, Nat.reduceAdd, Nat.reduceSub, Array.replicate_succ, Array.replicate_zero, List.push_toArray, List.append_toArray, List.nil_append, List.cons_append]
 have hmk : ∀ W : World, (Instr.makeSlice 104 (.int .i64 0) (.int .i64 10)).run pP W = .ok (.slice (some ⟨W.heap.size, 0, none⟩) 0 10) (W.alloc (.cells (madeCells #[Value.int .u8 0] 10) 5)) := fun W => by
  have h := run_makeSlice (P := pP) W 104 5 i0 (.int .u8 0) Tryz.underlying104 hi hz0 .i64 .i64 0 10 (by omega) (by omega) (by rw [hz1]; decide) (by rw [hz2]; decide) (by decide)
  rw [hz1] at h
  exact h
 gi_wp2_with (refine ⟨trivial, ?_⟩; gi_at_call 76; refine (yt3 _ _).mono ?_; rintro e w' ⟨rfl, rfl⟩)
 obtain ⟨W0, hW0⟩ : ∃ W0, (((w.alloc (Obj.cells (madeCells #[Value.int IntKind.u8 0] 10) 5)).alloc (Obj.cells #[Value.slice (some { block := w.heap.size, off := 0 }) 0 10] 104)).alloc (Obj.cells #[Value.int IntKind.u64 (n : Nat)] 116)) = W0 := ⟨_, rfl⟩
 have hsz : W0.heap.size = w.heap.size + 3 := by rw [← hW0]; simp
 have bO : Boxed W0 (w.heap.size + 1) 104 (.slice (some ⟨w.heap.size, 0, none⟩) 0 10) := by
  rw [← hW0]
  have := (Boxed.new (w.alloc (Obj.cells (madeCells #[Value.int IntKind.u8 0] 10) 5)) 104 (.slice (some ⟨w.heap.size, 0, none⟩) 0 10)).alloc (Obj.cells #[Value.int IntKind.u64 (n : Nat)] 116)
  rwa [World.size_alloc] at this
 have bN : Boxed W0 (w.heap.size + 1 + 1) 116 (.int .u64 (n : Nat)) := by
  rw [← hW0]
  have := Boxed.new ((w.alloc (Obj.cells (madeCells #[Value.int IntKind.u8 0] 10) 5)).alloc (Obj.cells #[Value.slice (some { block := w.heap.size, off := 0 }) 0 10] 104)) 116 (.int .u64 (n : Nat))
  rwa [World.size_alloc, World.size_alloc] at this
 have hR0 : W0.ownsRow w.heap.size 5 1 (.slice (some ⟨w.heap.size, 0, none⟩) 0 10) 0 [] := by
  rw [← hW0]
  exact ((World.ownsRow_made w _ 10 (Nat.le_refl _) (by unfold maxLen; decide) (by simp [size_madeCells])).alloc _).alloc _
 have hB0 : Below w.heap.size w W0 := by
  rw [← hW0]
  exact (((Below.refl _ w).alloc (Nat.le_refl _) _).alloc (by simp) _).alloc (by simp; omega) _
 rw [hW0]
 clear hW0
 refine yh7 (C := w.heap.size + 1 + 1) (N := 10) (xs := ynH n) rfl (enters_of Tryz.func112 (by kernel_rfl) rfl) (by omega) bN rfl (yr4 _ n hn) (fun _ => rfl)
  (fun pre W => ∃ v u, Boxed W (w.heap.size + 1) 104 v ∧ Boxed W (w.heap.size + 1 + 1) 116 u ∧ W.ownsRow w.heap.size 5 1 v pre.length (pre.map fun p => Value.int .u8 (yCx p)) ∧ Below w.heap.size w W)
  ?ia ?ip ?ic ?idr ⟨_, _, bO, bN, hR0, hB0⟩
  (fun x => { tmps := #[.int .u64 (n : Nat), undef, .string { data := #[] }, .pointer (some ⟨w.heap.size + 1, 0, none⟩), .int .u8 (x.1 : Nat), .bool x.2, .slice (some ⟨w.heap.size, 0, none⟩) 0 10, .int .u64 (n : Nat), .func (.func 112) #[] #[.pointer (some ⟨w.heap.size + 1 + 1, 0, none⟩)], .int .u8 (x.1 : Nat), .bool x.2, undef, undef, undef, undef, undef, undef, undef, undef, undef], defers := [] }) ?assign ?body ?done
 case ia =>
  rintro s W o ⟨v, u, h1, h2, h3, h4⟩
  exact ⟨v, u, h1.alloc o, h2.alloc o, h3.alloc o, h4.alloc h4.size o⟩
 case ip =>
  rintro s W l o o' hl ho hc ⟨v, u, h1, h2, h3, h4⟩
  have hne : ∀ {B t u}, Boxed W B t u → some B ≠ some l := fun h e => by cases e; rw [show W.heap[l]? = _ from h] at ho; cases ho; cases hc
  exact ⟨v, u, h1.kept (grownBy_putObj' W l o') (hne h1), h2.kept (grownBy_putObj' W l o') (hne h2), ownsRow_putObj h3 o' ho hc, h4.trans ⟨rfl, rfl, rfl, by simp [World.putObj], fun k hk => World.putObj_heap_other (by omega)⟩⟩
 case ic =>
  rintro s W v' ⟨v, u, h1, h2, h3, h4⟩
  exact ⟨v, v', h1.other (by omega) _, h2.set _, h3.kept (grownBy_setCell' W _ _) (.inr (h2.not_row (by decide) h3).symm), h4.setCell (p := ⟨w.heap.size + 1 + 1, 0, none⟩) (by show w.heap.size ≤ w.heap.size + 1 + 1; omega) _⟩
 case idr =>
  rintro s W ⟨v, u, h1, h2, h3, h4⟩
  exact ⟨v, u, h1, h2, h3, h4.drew⟩
 case assign =>
  intro l x W K hK
  gi_wp2
  exact hK
 case body =>
  rintro l pre x W ⟨v, u, hv, hu, hrow, hB⟩ hlen hCl
  have hc := hv.cell
  obtain ⟨x, f⟩ := x
  cases f
  all_goals
   gi_wp2_with (gi_at_builtin; refine wpListIn_append_own _ rfl _ _ 104 rfl w.heap.size 5 i0 (.int .u8 0) 1 1 Tryz.underlying104 hi hz0 hz1 hz2 rfl (by decide) _ _ _ rfl (hrow.alloc _) ⟨W.heap.size, 0, none⟩ 1 1 [_] rfl rfl (cell_one_new _ _ _) (by simp [Value.oneCell']) (by unfold maxLen; omega) (by omega) (by have := hB.size; simp; omega) ?_; intro v' w1 hown' hgrow _; obtain ⟨g', cap', rfl⟩ := ownsRow_succ hown'; have hu1 := (hu.alloc _).kept hgrow (hu.not_row (by decide) hrow); obtain ⟨hv1, hv2, hr2, hk2, hb2⟩ := hv.appended (by decide) hrow hB.size (Nat.le_add_right _ _) hown' hgrow; have hc1 := hv1.cell; have hf1 := hv1.frozen)
   have hu2 := hu1.other (B' := w.heap.size + 1) (by omega) (Value.slice (some { block := g', off := 0 }) (pre.length + 1) cap')
   refine ⟨hk2.from _, (show _ = _ from hu2).trans ((show _ = _ from hu).symm.trans (by simp [hCl])), _, hv2, ⟨_, hu2⟩, ?_, hB.trans hb2⟩
   simpa [yCx] using hr2
 case done =>
  rintro D W hD ⟨v, u, hv, hu, hrow, hB⟩ hK
  have hc := hv.cell
  rw [yr5, show (ynH n).length = (yaM n).length by simp [yaM]] at hrow
  have hl1 : 1 ≤ (yaM n).length := by have := (yeW 9 n (by omega)).1; simp [yaM]; omega
  obtain ⟨g, cap, rfl⟩ : ∃ g cap, v = .slice (some ⟨g, 0, none⟩) (yaM n).length cap := by
   obtain ⟨m, hm⟩ : ∃ m, (yaM n).length = m + 1 := ⟨(yaM n).length - 1, by omega⟩
   have h' := hrow
   rw [hm] at h'
   rw [hm]
   exact ownsRow_succ h'
  have hcv : (convert 104 9 (.slice (some ⟨g, 0, none⟩) (yaM n).length cap)).run pP W = .ok (.string (yyJ n)) W :=
   run_convert_bytes_back W _ _ 5 ⟨g, 0, none⟩ cap (yaM n) Tryz.underlying104 Tryz.underlying5 Tryz.underlying9 fun j hj => by
    rw [ya0, Nat.zero_add, World.ownsRow.cellAt hrow j (by omega)]
    simp [hj]
  gi_wp2
  refine ⟨by simp, .inl ⟨_, _, rfl, run_takeDeferred hK, ?_⟩⟩
  exact ⟨_, results_tmp rfl _ _ _, rfl, hB.trans ⟨rfl, rfl, rfl, by simp [World.putObj], fun k hk => World.putObj_heap_other (by omega)⟩⟩
theorem yh8 (n : Nat) (hn : n < 18446744073709551616) (w : World) :
  Calls pP 52 #[.int .u64 (n : Nat)] w fun e w' => e = .returned (.string (yyJ n)) ∧ Mod [] w w' :=
 (callsIn_wide.1 (yCy n hn w)).mono fun e w' ⟨h1, h2⟩ => ⟨h1, Mod.of_below h2⟩
theorem yt4 (n : Nat) (hn : n < 18446744073709551616) : 1 ≤ (yyJ n).size ∧ (yyJ n).size ≤ 10 := by
 have := yeW 9 n (by omega)
 have e : (yyJ n).size = (ynH n).length := by simp [yyJ, yaM, ByteArray.size]
 omega
end Go.Proofs.YtjellhflalbbmaaGreat
namespace Go.Proofs.YtjellhflalbbmaaGreat
open Go Go.RowKit
set_option linter.all false
structure PRec where
 hk : Bool
 key : ByteArray
 tomb : Bool
 val : ByteArray
 deriving DecidableEq
structure PFound where
 off : Int
 r : PRec
 deriving DecidableEq
structure PPart where
 t : ByteArray
 n : Int
 deriving DecidableEq
structure PRep where
 e : Int
 off : Int
 n : Int
 gen : Int
 found : List PFound
 parts : List PPart
 deriving DecidableEq
structure Sl where
 a : Option Addr
 n : Nat
 c : Nat
def PRec.v (r : PRec) : Value := .agg #[.bool r.hk, .string r.key, .bool r.tomb, .string r.val]
def PFound.v (x : PFound) : Value := .agg #[.int .i64 x.off, .bool x.r.hk, .string x.r.key, .bool x.r.tomb, .string x.r.val]
def PPart.v (x : PPart) : Value := .agg #[.string x.t, .int .i64 x.n]
def yi0 (x : PFound) : List Value := [.int .i64 x.off, .bool x.r.hk, .string x.r.key, .bool x.r.tomb, .string x.r.val]
def yk6 (x : PPart) : List Value := [.string x.t, .int .i64 x.n]
theorem ypX (x : PFound) : (yi0 x).length = 5 := rfl
theorem ypY (x : PPart) : (yk6 x).length = 2 := rfl
def PRep.cs (r : PRep) (f p : Sl) : List Value := [.int .i64 r.e, .int .i64 r.off, .int .i64 r.n, .int .i64 r.gen, .slice f.a f.n f.c, .slice p.a p.n p.c]
def PRep.v (r : PRep) (f p : Sl) : Value := .agg #[.int .i64 r.e, .int .i64 r.off, .int .i64 r.n, .int .i64 r.gen, .slice f.a f.n f.c, .slice p.a p.n p.c]
structure RepAt (w : World) (r : PRep) (f p : Sl) : Prop where
 found : yb2 w 5 yi0 f.a f.n r.found
 parts : yb2 w 2 yk6 p.a p.n r.parts
 lf : r.found.length ≤ 1000000
 lp : r.parts.length ≤ 1000000
structure RepOwn (w : World) (base : Nat) (r : PRep) (f p : Sl) : Prop where
 found : Row w base 101 5 yi0 f.a f.n f.c r.found
 parts : Row w base 42 2 yk6 p.a p.n p.c r.parts
 lf : r.found.length ≤ 1000000
 lp : r.parts.length ≤ 1000000
theorem RepOwn.at {w : World} {base : Nat} {r : PRep} {f p : Sl} (h : RepOwn w base r f p) : RepAt w r f p := ⟨h.found.sl ypX, h.parts.sl ypY, h.lf, h.lp⟩
theorem RepAt.keep0 {w w' : World} {r : PRep} {f p : Sl} (h : RepAt w r f p) (M : Mod [] w w') : RepAt w' r f p := ⟨h.found.keep0 M, h.parts.keep0 M, h.lf, h.lp⟩
structure RepAtW (w : World) (r : PRep) (f p : Sl) : Prop where
 found : yb2 w 5 yi0 f.a f.n r.found
 parts : yb2 w 2 yk6 p.a p.n r.parts
 lf : r.found.length ≤ 9223372036854775807
 lp : r.parts.length ≤ 9223372036854775807
theorem RepAtW.keep0 {w w' : World} {r : PRep} {f p : Sl} (h : RepAtW w r f p) (M : Mod [] w w') : RepAtW w' r f p := ⟨h.found.keep0 M, h.parts.keep0 M, h.lf, h.lp⟩
theorem RepAt.wide {w : World} {r : PRep} {f p : Sl} (h : RepAt w r f p) : RepAtW w r f p := ⟨h.found, h.parts, by have := h.lf; omega, by have := h.lp; omega⟩
theorem RepOwn.keep0 {w w' : World} {base : Nat} {r : PRep} {f p : Sl} (h : RepOwn w base r f p) (M : Mod [] w w') : RepOwn w' base r f p := ⟨h.found.keep0 M, h.parts.keep0 M, h.lf, h.lp⟩
theorem RepOwn.rebase {w : World} {base base' : Nat} {r : PRep} {f p : Sl} (h : RepOwn w base r f p) (hb : base' ≤ base) : RepOwn w base' r f p := ⟨h.found.rebase hb, h.parts.rebase hb, h.lf, h.lp⟩
theorem neF (x y : PFound) (o1 o2 : Operand) (w : World) : Sem.run pP (do eqGuard .neq 101 o1 o2 x.v y.v; Go.binOp .neq 101 x.v y.v) w = .ok (.bool (decide (x ≠ y))) w := by
 obtain ⟨a, b, c, d, e⟩ := x
 obtain ⟨a', b', c', d', e'⟩ := y
 simp [go_sem, Sem.run_bind, PFound.v]
 by_cases h1 : a = a' <;> by_cases h2 : b = b' <;> by_cases h3 : c = c' <;> by_cases h4 : d = d' <;> by_cases h5 : e = e' <;> simp [h1, h2, h3, h4, h5, ycU]
theorem neP (x y : PPart) (o1 o2 : Operand) (w : World) : Sem.run pP (do eqGuard .neq 42 o1 o2 x.v y.v; Go.binOp .neq 42 x.v y.v) w = .ok (.bool (decide (x ≠ y))) w := by
 obtain ⟨a, b⟩ := x
 obtain ⟨a', b'⟩ := y
 simp [go_sem, Sem.run_bind, PPart.v]
 by_cases h1 : a = a' <;> by_cases h2 : b = b' <;> simp [h1, h2, ycU]
section
set_option maxRecDepth 100000
variable {R : VWP} {w w0 : World} {m : Nat} {i0 i1 i2 i3 i4 i5 i6 i7 i8 i9 j0 j1 j2 j3 j4 j5 j6 j7 j8 j9 k0 k1 k2 k3 k4 k5 k6 k7 k8 k9 l0 l1 l2 l3 l4 l5 l6 l7 l8 l9 : Int} {s0 s1 s2 s3 s4 s5 s6 s7 s8 s9 t0 t1 t2 t3 t4 t5 t6 t7 t8 t9 : BA} {n0 n1 n2 n3 n4 n5 n6 n7 n8 n9 o0 o1 o2 o3 o4 o5 o6 o7 o8 o9 p0 p1 p2 p3 p4 p5 p6 p7 p8 p9 : Nat} {q0 q1 q2 q3 q4 q5 q6 q7 q8 q9 r0 r1 r2 r3 r4 r5 r6 r7 r8 r9 : OA} {B0 B1 B2 B3 B4 B5 B6 B7 B8 B9 : Bool} {M0 M1 M2 M3 : Option Nat} {V0 V1 V2 V3 V4 V5 : Value} {A0 A1 A2 : Addr}
abbrev hpC (w : World) (b : Nat) (c : Array Value) (T : TypeId) : Prop := w.heap[b]? = some (.cells c T)
abbrev Z0 (x0 x1 x2 x3 x4 x5 x6 x7 x8 x9 : Int) (x10 : OA) (x11 x12 : Nat) (x13 x14 x15 x16 : Int) (x17 : OA) (x18 x19 : Nat) (x20 : OA) (x21 x22 : Nat) : Array Value := #[.int .i64 x0, .int .i64 x1, .int .i64 x2, .int .i64 x3, .int .i64 x4, .int .i64 x5, .int .i64 x6, .int .i64 x7, .int .i64 x8, .int .i64 x9, .slice x10 x11 x12, .int .i64 x13, .int .i64 x14, .int .i64 x15, .int .i64 x16, .slice x17 x18 x19, .slice x20 x21 x22]
abbrev Z1 (x0 : Int) (x1 : BA) (x2 x3 x4 x5 x6 x7 : Int) (x8 : OA) (x9 x10 : Nat) (x11 x12 : BA) (x13 : Int) (x14 : Bool) (x15 : OA) (x16 x17 : Nat) : Array Value := #[.int .i64 x0, .string x1, .int .i64 x2, .int .i64 x3, .int .i64 x4, .int .i64 x5, .int .i64 x6, .int .i64 x7, .slice x8 x9 x10, .string x11, .string x12, .int .i64 x13, .bool x14, .slice x15 x16 x17]
abbrev Z2 (x0 : BA) (x1 x2 : Int) : Array Value := #[.string x0, .int .i64 x1, .int .i64 x2]
abbrev Z3 (x0 x1 x2 x3 : Int) (x4 : OA) (x5 x6 : Nat) (x7 : OA) (x8 x9 : Nat) : Array Value := #[.int .i64 x0, .int .i64 x1, .int .i64 x2, .int .i64 x3, .slice x4 x5 x6, .slice x7 x8 x9]
abbrev Z4 (x0 : Int) (x1 : Bool) (x2 : BA) (x3 : Bool) (x4 : BA) : Array Value := #[.int .i64 x0, .bool x1, .string x2, .bool x3, .string x4]
abbrev Z5 (x0 x1 x2 : Int) (x3 : BA) (x4 x5 x6 x7 x8 x9 : Int) (x10 : OA) (x11 x12 : Nat) (x13 x14 : BA) (x15 : Int) (x16 : Bool) (x17 : OA) (x18 x19 : Nat) : Array Value := #[.int .i64 x0, .int .i64 x1, .int .i64 x2, .string x3, .int .i64 x4, .int .i64 x5, .int .i64 x6, .int .i64 x7, .int .i64 x8, .int .i64 x9, .slice x10 x11 x12, .string x13, .string x14, .int .i64 x15, .bool x16, .slice x17 x18 x19]
abbrev Z6 (x0 x1 x2 x3 x4 x5 x6 x7 x8 x9 : OA) : Array Value := #[.pointer x0, .pointer x1, .pointer x2, .pointer x3, .pointer x4, .pointer x5, .pointer x6, .pointer x7, .pointer x8, .pointer x9]
abbrev Z7 (x0 : Bool) (x1 : BA) (x2 : Bool) (x3 : BA) : Array Value := #[.bool x0, .string x1, .bool x2, .string x3]
abbrev Z8 (x0 x1 x2 : Int) (x3 : OA) (x4 x5 : Nat) : Array Value := #[.int .i64 x0, .int .i64 x1, .int .i64 x2, .slice x3 x4 x5]
abbrev Z9 (x0 x1 x2 x3 : Int) : Array Value := #[.int .i64 x0, .int .i64 x1, .int .i64 x2, .int .i64 x3]
abbrev Z10 (x0 : OA) (x1 x2 : Int) : Array Value := #[.pointer x0, .int .i64 x1, .int .i64 x2]
theorem yFF (h :
 brB (decide (i0 ≥ 0)) (
 R (.bool (decide (i0 ≤ 1099511627776))) w)
 (
 R (.bool false) w)) :
 CR pP 118 #[.int .i64 i0] w R :=
 yaA Tryz.wide_mixed (an := []) Tryz.func118 rfl rfl (by kernel_rfl) rfl (Eq.mpr (by kernel_rfl) h)
theorem yFG (h :
 ∀ b1, w.heap.size ≤ b1 →
 brB (!B0) (
 brB (!(s0.toList == (⟨#[]⟩ : BA).toList)) (
 brB (!(s0.toList == (⟨#[]⟩ : BA).toList)) (
 ∀ w2, Adv [] [b1] w w2 →
 R (.int .i64 30) w2)
 (
 brB (decide ((s0.size : Int) > 64)) (
 brB (decide ((s0.size : Int) > 64)) (
 ∀ w3, Adv [] [b1] w w3 →
 R (.int .i64 2) w3)
 (
 ∀ w4, Adv [] [b1] w w4 →
 R (.int .i64 0) w4))
 (
 brB (decide ((s1.size : Int) > 512)) (
 ∀ w5, Adv [] [b1] w w5 →
 R (.int .i64 2) w5)
 (
 ∀ w6, Adv [] [b1] w w6 →
 R (.int .i64 0) w6))))
 (
 brB B1 (
 brB (!B0) (
 ∀ w7, Adv [] [b1] w w7 →
 R (.int .i64 30) w7)
 (
 brB (!(s1.toList == (⟨#[]⟩ : BA).toList)) (
 ∀ w8, Adv [] [b1] w w8 →
 R (.int .i64 30) w8)
 (
 brB (decide ((s0.size : Int) > 64)) (
 brB (decide ((s0.size : Int) > 64)) (
 ∀ w9, Adv [] [b1] w w9 →
 R (.int .i64 2) w9)
 (
 ∀ a4, Adv [] [b1] w a4 →
 R (.int .i64 0) a4))
 (
 brB (decide ((s1.size : Int) > 512)) (
 ∀ a5, Adv [] [b1] w a5 →
 R (.int .i64 2) a5)
 (
 ∀ a6, Adv [] [b1] w a6 →
 R (.int .i64 0) a6)))))
 (
 brB (decide ((s0.size : Int) > 64)) (
 brB (decide ((s0.size : Int) > 64)) (
 ∀ a7, Adv [] [b1] w a7 →
 R (.int .i64 2) a7)
 (
 ∀ a8, Adv [] [b1] w a8 →
 R (.int .i64 0) a8))
 (
 brB (decide ((s1.size : Int) > 512)) (
 ∀ a9, Adv [] [b1] w a9 →
 R (.int .i64 2) a9)
 (
 ∀ b0, Adv [] [b1] w b0 →
 R (.int .i64 0) b0)))))
 (
 brB B1 (
 brB (!B0) (
 ∀ b2, Adv [] [b1] w b2 →
 R (.int .i64 30) b2)
 (
 brB (!(s1.toList == (⟨#[]⟩ : BA).toList)) (
 ∀ b3, Adv [] [b1] w b3 →
 R (.int .i64 30) b3)
 (
 brB (decide ((s0.size : Int) > 64)) (
 brB (decide ((s0.size : Int) > 64)) (
 ∀ b4, Adv [] [b1] w b4 →
 R (.int .i64 2) b4)
 (
 ∀ b5, Adv [] [b1] w b5 →
 R (.int .i64 0) b5))
 (
 brB (decide ((s1.size : Int) > 512)) (
 ∀ b6, Adv [] [b1] w b6 →
 R (.int .i64 2) b6)
 (
 ∀ b7, Adv [] [b1] w b7 →
 R (.int .i64 0) b7)))))
 (
 brB (decide ((s0.size : Int) > 64)) (
 brB (decide ((s0.size : Int) > 64)) (
 ∀ b8, Adv [] [b1] w b8 →
 R (.int .i64 2) b8)
 (
 ∀ b9, Adv [] [b1] w b9 →
 R (.int .i64 0) b9))
 (
 brB (decide ((s1.size : Int) > 512)) (
 ∀ c0, Adv [] [b1] w c0 →
 R (.int .i64 2) c0)
 (
 ∀ c1, Adv [] [b1] w c1 →
 R (.int .i64 0) c1))))) :
 CR pP 119 #[(.agg (Z7 B0 s0 B1 s1))] w R :=
 yaA Tryz.wide_mixed (an := []) Tryz.func119 rfl rfl (by kernel_rfl) rfl (Eq.mpr (by kernel_rfl) h)
theorem yFH (h :
 ∀ b1, w.heap.size ≤ b1 →
 brB B1 (
 ∀ w2, Adv [] [b1] w w2 →
 R (.int .u8 (IntKind.wrap .u8 ((IntKind.wrap .u8 (0 + 2)) + 1))) w2)
 (
 brB B0 (
 ∀ w3, Adv [] [b1] w w3 →
 R (.int .u8 (IntKind.wrap .u8 (0 + 1))) w3)
 (
 ∀ w4, Adv [] [b1] w w4 →
 R (.int .u8 0) w4))) :
 CR pP 147 #[(.agg (Z7 B0 s0 B1 s1))] w R :=
 yaA Tryz.wide_mixed (an := []) Tryz.func147 rfl rfl (by kernel_rfl) rfl (Eq.mpr (by kernel_rfl) h)
def yt5 : LA := ⟨[0, 0, 1, 0, 1, 1], [0, 1, 5], [], 0, []⟩
def yyK : List LA := [yt5]
abbrev yF4 := dnF pP yyK (code Tryz.f61)
abbrev yGO := yaW pP yyK (code Tryz.f61)
abbrev yF5 (p : List Nat) (K : List Kh) (R : VWP) := yaW pP yyK (code Tryz.f61) p K (ybI pP Tryz.f61 [] R)
def yr6 (a0 : OA) (a4 a2 : Nat) (a1 : OA) (a5 a3 : Nat) : Int → List Value × List TB := fun a6 => ([.slice a0 a4 a2, .slice a1 a5 a3, .int .i64 a6], [])
abbrev yCz (a0 : OA) (a4 a2 : Nat) (a1 : OA) (a5 a3 : Nat) (I : Nat → Int → World → Prop) (m : Nat) : Kh := KG (yr6 a0 a4 a2 a1 a5 a3) (U1 I) m
theorem yyL {I : Nat → Int → World → Prop} (m' : Nat) (h1 : m' < m) (h2 : I m' i0 w) : KS (yCz q0 n0 n1 q1 n2 n3 I m) (yr6 q0 n0 n1 q1 n2 n3 i0) w := ⟨m', h1, _, rfl, rfl, h2⟩
theorem yyM {a2 : OA} {a3 : OA} (I : Nat → Int → World → Prop) (m0 : Nat) (h0 : I m0 i0 w0)
 (hr : ∀ m a0 w, I m a0 w →
 brB (decide (a0 < (n0 : Int))) (
 ixA a2 n0 a0 5 fun q1 =>
 yaD .i64 w q1 fun x2 => ya1 w (Addr.add q1 1) fun t3 => yaY w (Addr.add q1 2) fun s4 => ya1 w (Addr.add q1 3) fun t5 => yaY w (Addr.add q1 4) fun s6 =>
 ixA a3 n2 a0 5 fun q7 =>
 yaD .i64 w q7 fun x8 => ya1 w (Addr.add q7 1) fun t9 => yaY w (Addr.add q7 2) fun a8 => ya1 w (Addr.add q7 3) fun b0 => yaY w (Addr.add q7 4) fun a9 =>
 ∃ b1, (∀ w', Mod [] w w' → Sem.run pP (do eqGuard .neq 101 (.tmp 20) (.tmp 24) (.agg (Z4 x2 t3 s4 t5 s6)) (.agg (Z4 x8 t9 a8 b0 a9)); Go.binOp .neq 101 (.agg (Z4 x2 t3 s4 t5 s6)) (.agg (Z4 x8 t9 a8 b0 a9))) w' = .ok (.bool b1) w') ∧
 brB b1 (
 ∀ b2, Adv [] [] w b2 →
 R (.bool false) b2)
 (
 ∀ b3, Adv [] [] w b3 →
 KS (yCz a2 n0 n1 a3 n2 n3 I m) (yr6 a2 n0 n1 a3 n2 n3 (IntKind.wrap .i64 (a0 + 1))) b3))
 (
 R (.bool true) w)) :
 yaL yt5 (yF4 396 [0, 0, 1, 0, 1, 1]) (yF5 [1, 1, 0, 1, 0] [] R) (yr6 a2 n0 n1 a3 n2 n3 i0) w0 :=
 lrule (yr6 a2 n0 n1 a3 n2 n3) (U1 I) h0 (by rintro m a0 w h; exact ⟨by kernel_rfl, by kernel_rfl, fun js => Eq.mpr (by kernel_rfl) (hr m a0 w h)⟩)
theorem yFI (h :
 brB ((n0 : Int) != (n2 : Int)) (
 R (.bool false) w)
 (
 yaL yt5 (yF4 396 [0, 0, 1, 0, 1, 1]) (yF5 [1, 1, 0, 1, 0] [] R) (yr6 q0 n0 n1 q1 n2 n3 0) w)) :
 CR pP 61 #[.slice q0 n0 n1, .slice q1 n2 n3] w R :=
 yaA Tryz.wide_mixed (an := yyK) Tryz.func61 rfl rfl (by kernel_rfl) rfl (Eq.mpr (by kernel_rfl) h)
def yt6 : LA := ⟨[0, 0, 1, 0, 1, 1], [0, 1, 5], [], 0, []⟩
def yyN : List LA := [yt6]
abbrev yF6 := dnF pP yyN (code Tryz.f62)
abbrev yGP := yaW pP yyN (code Tryz.f62)
abbrev yF7 (p : List Nat) (K : List Kh) (R : VWP) := yaW pP yyN (code Tryz.f62) p K (ybI pP Tryz.f62 [] R)
def yr7 (a0 : OA) (a4 a2 : Nat) (a1 : OA) (a5 a3 : Nat) : Int → List Value × List TB := fun a6 => ([.slice a0 a4 a2, .slice a1 a5 a3, .int .i64 a6], [])
abbrev yCA (a0 : OA) (a4 a2 : Nat) (a1 : OA) (a5 a3 : Nat) (I : Nat → Int → World → Prop) (m : Nat) : Kh := KG (yr7 a0 a4 a2 a1 a5 a3) (U1 I) m
theorem yyO {I : Nat → Int → World → Prop} (m' : Nat) (h1 : m' < m) (h2 : I m' i0 w) : KS (yCA q0 n0 n1 q1 n2 n3 I m) (yr7 q0 n0 n1 q1 n2 n3 i0) w := ⟨m', h1, _, rfl, rfl, h2⟩
theorem yyP {a2 : OA} {a3 : OA} (I : Nat → Int → World → Prop) (m0 : Nat) (h0 : I m0 i0 w0)
 (hr : ∀ m a0 w, I m a0 w →
 brB (decide (a0 < (n0 : Int))) (
 ixA a2 n0 a0 2 fun q1 =>
 yaY w q1 fun s2 => yaD .i64 w (Addr.add q1 1) fun x3 =>
 ixA a3 n2 a0 2 fun q4 =>
 yaY w q4 fun s5 => yaD .i64 w (Addr.add q4 1) fun x6 =>
 ∃ t7, (∀ w', Mod [] w w' → Sem.run pP (do eqGuard .neq 42 (.tmp 20) (.tmp 24) (.agg #[.string s2, .int .i64 x3]) (.agg #[.string s5, .int .i64 x6]); Go.binOp .neq 42 (.agg #[.string s2, .int .i64 x3]) (.agg #[.string s5, .int .i64 x6])) w' = .ok (.bool t7) w') ∧
 brB t7 (
 ∀ w8, Adv [] [] w w8 →
 R (.bool false) w8)
 (
 ∀ w9, Adv [] [] w w9 →
 KS (yCA a2 n0 n1 a3 n2 n3 I m) (yr7 a2 n0 n1 a3 n2 n3 (IntKind.wrap .i64 (a0 + 1))) w9))
 (
 R (.bool true) w)) :
 yaL yt6 (yF6 396 [0, 0, 1, 0, 1, 1]) (yF7 [1, 1, 0, 1, 0] [] R) (yr7 a2 n0 n1 a3 n2 n3 i0) w0 :=
 lrule (yr7 a2 n0 n1 a3 n2 n3) (U1 I) h0 (by rintro m a0 w h; exact ⟨by kernel_rfl, by kernel_rfl, fun js => Eq.mpr (by kernel_rfl) (hr m a0 w h)⟩)
theorem yFJ (h :
 brB ((n0 : Int) != (n2 : Int)) (
 R (.bool false) w)
 (
 yaL yt6 (yF6 396 [0, 0, 1, 0, 1, 1]) (yF7 [1, 1, 0, 1, 0] [] R) (yr7 q0 n0 n1 q1 n2 n3 0) w)) :
 CR pP 62 #[.slice q0 n0 n1, .slice q1 n2 n3] w R :=
 yaA Tryz.wide_mixed (an := yyN) Tryz.func62 rfl rfl (by kernel_rfl) rfl (Eq.mpr (by kernel_rfl) h)
theorem yFK (h :
 ∀ b1, w.heap.size ≤ b1 →
 ∀ b2, w.heap.size ≤ b2 →
 brB (i0 == i4) (
 brB (i1 == i5) (
 brB (i2 == i6) (
 brB (i3 == i7) (
 ∀ w3, Adv [] [b2, b1] w w3 →
 Calls pP 61 #[.slice q0 n0 n1, .slice q2 n4 n5] w3 fun e w4 => ∃ t5, e = .returned (.bool t5) ∧ yaH [b1, b2] w3 w4 ∧
 brB t5 (
 Calls pP 62 #[.slice q1 n2 n3, .slice q3 n6 n7] w4 fun e w6 => ∃ t7, e = .returned (.bool t7) ∧ yaH [b1, b2] w4 w6 ∧
 R (.bool t7) w6)
 (
 R (.bool false) w4))
 (
 ∀ w8, Adv [] [b2, b1] w w8 →
 R (.bool false) w8))
 (
 ∀ w9, Adv [] [b2, b1] w w9 →
 R (.bool false) w9))
 (
 ∀ c2, Adv [] [b2, b1] w c2 →
 R (.bool false) c2))
 (
 ∀ c3, Adv [] [b2, b1] w c3 →
 R (.bool false) c3)) :
 CR pP 39 #[(.agg (Z3 i0 i1 i2 i3 q0 n0 n1 q1 n2 n3)), (.agg (Z3 i4 i5 i6 i7 q2 n4 n5 q3 n6 n7))] w R :=
 yaA Tryz.wide_mixed (an := []) Tryz.func39 rfl rfl (by kernel_rfl) rfl (Eq.mpr (by kernel_rfl) h)
theorem yFL {a0 : BA} (h :
 brB (!(a0.toList == (⟨#[]⟩ : BA).toList)) (
 brB (decide ((a0.size : Int) ≤ 16)) (
 Calls pP 146 #[.string a0, (.func (.func 145) #[] #[])] w fun e w1 => ∃ t2, e = .returned (.bool t2) ∧
 R (.bool (!t2)) w1)
 (
 R (.bool false) w))
 (
 R (.bool false) w)) :
 CR pP 120 #[.string a0] w R :=
 yaA Tryz.wide_mixed (an := []) Tryz.func120 rfl rfl (by kernel_rfl) rfl (Eq.mpr (by kernel_rfl) h)
theorem yFM (h :
 brB (decide (i0 < 97)) (
 brB (decide (i0 < 48)) (
 R (.bool (i0 != 45)) w)
 (
 brB (decide (i0 > 57)) (
 R (.bool (i0 != 45)) w)
 (
 R (.bool false) w)))
 (
 brB (decide (i0 > 122)) (
 brB (decide (i0 < 48)) (
 R (.bool (i0 != 45)) w)
 (
 brB (decide (i0 > 57)) (
 R (.bool (i0 != 45)) w)
 (
 R (.bool false) w)))
 (
 R (.bool false) w))) :
 CR pP 145 #[.int .i32 i0] w R :=
 yaA Tryz.wide_mixed (an := []) Tryz.func145 rfl rfl (by kernel_rfl) rfl (Eq.mpr (by kernel_rfl) h)
def yjG : LA := ⟨[1, 1], [1, 3], [(1, 0, 0)], 1, []⟩
def yt7 : LA := ⟨[0, 0, 1, 0, 1, 1, 1], [1, 3, 4, 28, 29, 30], [(1, 0, 0)], 1, []⟩
def ypZ : LA := ⟨[0, 0, 1, 0, 1, 1, 1, 1], [1, 3, 4, 49, 50, 51], [(1, 0, 0)], 1, []⟩
def yyQ : List LA := [yjG, yt7, ypZ]
abbrev yx3 := dnF pP yyQ (code Tryz.f79)
abbrev yGc := yaW pP yyQ (code Tryz.f79)
abbrev yyR (p : List Nat) (K : List Kh) (R : VWP) := yaW pP yyQ (code Tryz.f79) p K (ybI pP Tryz.f79 [] R)
def yr8 : Bool × Nat × Int × Int × Int × Int × (Option Addr) × Nat × Nat × (Option Addr) × Nat × Nat → List Value × List TB := fun (b0, bm0, a6, a7, a8, a9, a0, a4, a2, a1, a5, a3) => ([(.pointer (some ⟨bm0, 0, none⟩)), .bool b0], [⟨bm0, 35, [.int .i64 a6, .int .i64 a7, .int .i64 a8, .int .i64 a9, .slice a0 a4 a2, .slice a1 a5 a3], false⟩])
def yk7 (b0 : OA) (b2 b1 : Nat) (b3 : Int) (bm0 : Nat) (a6 a7 a8 a9 : Int) (a0 : OA) (a4 a2 : Nat) (a1 : OA) (a5 a3 : Nat) : Bool × Bool × Int → List Value × List TB := fun (b5, b6, b4) => ([(.pointer (some ⟨bm0, 0, none⟩)), .bool b5, .bool b6, .slice b0 b2 b1, .int .i64 b3, .int .i64 b4], [⟨bm0, 35, [.int .i64 a6, .int .i64 a7, .int .i64 a8, .int .i64 a9, .slice a0 a4 a2, .slice a1 a5 a3], false⟩])
def yi1 (b0 : OA) (b2 b1 : Nat) (b3 : Int) (bm0 : Nat) (a6 a7 a8 a9 : Int) (a0 : OA) (a4 a2 : Nat) (a1 : OA) (a5 a3 : Nat) : Bool × Bool × Int → List Value × List TB := fun (b5, b6, b4) => ([(.pointer (some ⟨bm0, 0, none⟩)), .bool b5, .bool b6, .slice b0 b2 b1, .int .i64 b3, .int .i64 b4], [⟨bm0, 35, [.int .i64 a6, .int .i64 a7, .int .i64 a8, .int .i64 a9, .slice a0 a4 a2, .slice a1 a5 a3], false⟩])
def yCB (b0 : Bool) (bm0 : Nat) (a6 a7 a8 a9 : Int) (a1 : OA) (a0 a2 : Nat) (a3 : OA) (a5 a4 : Nat) (R : VWP) (w : World) : Prop :=
 yaL yt7 (yx3 395 [0, 0, 1, 0, 1, 1, 1]) (yyR [1, 1, 1, 0, 1, 0] [] R) (yk7 a1 a0 a2 (a0 : Int) bm0 a6 a7 a8 a9 a1 a0 a2 a3 a5 a4 (b0, false, 0)) w
theorem yk8 (J : Bool → Nat → Int → Int → Int → Int → Option Addr → Nat → Nat → Option Addr → Nat → Nat → World → Prop) (h0 : J B0 n0 i0 i1 i2 i3 q0 n1 n2 q1 n3 n4 w0)
 (hr : ∀ c0 bm0 a6 a7 a8 a9 a0 a4 a2 a1 a5 a3 w, J c0 bm0 a6 a7 a8 a9 a0 a4 a2 a1 a5 a3 w → yCB c0 bm0 a6 a7 a8 a9 a0 a4 a2 a1 a5 a3 R w) :
 yr3 yjG ((yx3 398 [1, 1]) (yyR [1] [] R)) (yr8 (B0, n0, i0, i1, i2, i3, q0, n1, n2, q1, n3, n4)) w0 :=
 crule (yr8) (V12 J) h0 (by rintro ⟨c0, bm0, a6, a7, a8, a9, a0, a4, a2, a1, a5, a3⟩ w h; exact ⟨by kernel_rfl, by kernel_rfl, fun js => Eq.mpr (by kernel_rfl) (hr c0 bm0 a6 a7 a8 a9 a0 a4 a2 a1 a5 a3 w h)⟩)
abbrev yt8 (b0 : OA) (b2 b1 : Nat) (b3 : Int) (bm0 : Nat) (a6 a7 a8 a9 : Int) (a0 : OA) (a4 a2 : Nat) (a1 : OA) (a5 a3 : Nat) (I : Nat → Bool → Bool → Int → World → Prop) (m : Nat) : Kh := KG (yk7 b0 b2 b1 b3 bm0 a6 a7 a8 a9 a0 a4 a2 a1 a5 a3) (U3 I) m
theorem yhI {I : Nat → Bool → Bool → Int → World → Prop} (m' : Nat) (h1 : m' < m) (h2 : I m' B0 B1 i5 w) : KS (yt8 q0 n0 n1 i0 n2 i1 i2 i3 i4 q1 n3 n4 q2 n5 n6 I m) (yk7 q0 n0 n1 i0 n2 i1 i2 i3 i4 q1 n3 n4 q2 n5 n6 (B0, B1, i5)) w := ⟨m', h1, _, rfl, rfl, h2⟩
theorem yyS (I : Nat → Bool → Bool → Int → World → Prop) (m0 : Nat) (h0 : I m0 B0 B1 i5 w0)
 (hr : ∀ m b8 b6 b4 w, I m b8 b6 b4 w →
 brB (decide (b4 < i0)) (
 ixA q0 n0 b4 5 fun b7 =>
 yaD .i64 w b7 fun d5 => ya1 w (Addr.add b7 1) fun c8 => yaY w (Addr.add b7 2) fun c6 => ya1 w (Addr.add b7 3) fun c9 => yaY w (Addr.add b7 4) fun c7 =>
 ∀ b5, w.heap.size ≤ b5 →
 brB b8 (
 ∀ c4, Adv [] [b5] w c4 →
 Calls pP 118 #[.int .i64 d5] c4 fun e b9 => ∃ c1, e = .returned (.bool c1) ∧ yaH [n2, b5] c4 b9 ∧
 brB b6 (
 KS (yt8 q0 n0 n1 i0 n2 i1 i2 i3 i4 q1 n3 n4 q2 n5 n6 I m) (yk7 q0 n0 n1 i0 n2 i1 i2 i3 i4 q1 n3 n4 q2 n5 n6 (c1, true, (IntKind.wrap .i64 (b4 + 1)))) b9)
 (
 Calls pP 119 #[(.agg (Z7 c8 c6 c9 c7))] b9 fun e d0 => ∃ d3, e = .returned (.int .i64 d3) ∧ yaH [n2, b5] b9 d0 ∧
 KS (yt8 q0 n0 n1 i0 n2 i1 i2 i3 i4 q1 n3 n4 q2 n5 n6 I m) (yk7 q0 n0 n1 i0 n2 i1 i2 i3 i4 q1 n3 n4 q2 n5 n6 (c1, (d3 != 0), (IntKind.wrap .i64 (b4 + 1)))) d0))
 (
 brB b6 (
 ∀ d1, Adv [] [b5] w d1 →
 KS (yt8 q0 n0 n1 i0 n2 i1 i2 i3 i4 q1 n3 n4 q2 n5 n6 I m) (yk7 q0 n0 n1 i0 n2 i1 i2 i3 i4 q1 n3 n4 q2 n5 n6 (false, true, (IntKind.wrap .i64 (b4 + 1)))) d1)
 (
 ∀ c5, Adv [] [b5] w c5 →
 Calls pP 119 #[(.agg (Z7 c8 c6 c9 c7))] c5 fun e d2 => ∃ d4, e = .returned (.int .i64 d4) ∧ yaH [n2, b5] c5 d2 ∧
 KS (yt8 q0 n0 n1 i0 n2 i1 i2 i3 i4 q1 n3 n4 q2 n5 n6 I m) (yk7 q0 n0 n1 i0 n2 i1 i2 i3 i4 q1 n3 n4 q2 n5 n6 (false, (d4 != 0), (IntKind.wrap .i64 (b4 + 1)))) d2)))
 (
 yaL ypZ (yx3 394 [0, 0, 1, 0, 1, 1, 1, 1]) (yyR [1, 1, 1, 1, 0, 1, 0] [] R) (yi1 q2 n5 n6 (n5 : Int) n2 i1 i2 i3 i4 q1 n3 n4 q2 n5 n6 (b8, b6, 0)) w)) :
 yaL yt7 (yx3 395 [0, 0, 1, 0, 1, 1, 1]) (yyR [1, 1, 1, 0, 1, 0] [] R) (yk7 q0 n0 n1 i0 n2 i1 i2 i3 i4 q1 n3 n4 q2 n5 n6 (B0, B1, i5)) w0 :=
 lrule (yk7 q0 n0 n1 i0 n2 i1 i2 i3 i4 q1 n3 n4 q2 n5 n6) (U3 I) h0 (by rintro m ⟨b8, b6, b4⟩ w h; exact ⟨by kernel_rfl, by kernel_rfl, fun js => Eq.mpr (by kernel_rfl) (hr m b8 b6 b4 w h)⟩)
abbrev yt9 (b0 : OA) (b2 b1 : Nat) (b3 : Int) (bm0 : Nat) (a6 a7 a8 a9 : Int) (a0 : OA) (a4 a2 : Nat) (a1 : OA) (a5 a3 : Nat) (I : Nat → Bool → Bool → Int → World → Prop) (m : Nat) : Kh := KG (yi1 b0 b2 b1 b3 bm0 a6 a7 a8 a9 a0 a4 a2 a1 a5 a3) (U3 I) m
theorem yhJ {I : Nat → Bool → Bool → Int → World → Prop} (m' : Nat) (h1 : m' < m) (h2 : I m' B0 B1 i5 w) : KS (yt9 q0 n0 n1 i0 n2 i1 i2 i3 i4 q1 n3 n4 q2 n5 n6 I m) (yi1 q0 n0 n1 i0 n2 i1 i2 i3 i4 q1 n3 n4 q2 n5 n6 (B0, B1, i5)) w := ⟨m', h1, _, rfl, rfl, h2⟩
theorem yyT (I : Nat → Bool → Bool → Int → World → Prop) (m0 : Nat) (h0 : I m0 B0 B1 i5 w0)
 (hr : ∀ m b7 b6 b4 w, I m b7 b6 b4 w →
 brB (decide (b4 < i0)) (
 ixA q0 n0 b4 2 fun c5 =>
 yaY w c5 fun c6 => yaD .i64 w (Addr.add c5 1) fun d2 =>
 ∀ b5, w.heap.size ≤ b5 →
 brB b7 (
 ∀ c3, Adv [] [b5] w c3 →
 Calls pP 118 #[.int .i64 d2] c3 fun e b8 => ∃ c0, e = .returned (.bool c0) ∧ yaH [n2, b5] c3 b8 ∧
 brB b6 (
 KS (yt9 q0 n0 n1 i0 n2 i1 i2 i3 i4 q1 n3 n4 q2 n5 n6 I m) (yi1 q0 n0 n1 i0 n2 i1 i2 i3 i4 q1 n3 n4 q2 n5 n6 (c0, true, (IntKind.wrap .i64 (b4 + 1)))) b8)
 (
 Calls pP 120 #[.string c6] b8 fun e c9 => ∃ c7, e = .returned (.bool c7) ∧ yaH [n2, b5] b8 c9 ∧
 KS (yt9 q0 n0 n1 i0 n2 i1 i2 i3 i4 q1 n3 n4 q2 n5 n6 I m) (yi1 q0 n0 n1 i0 n2 i1 i2 i3 i4 q1 n3 n4 q2 n5 n6 (c0, (!c7), (IntKind.wrap .i64 (b4 + 1)))) c9))
 (
 brB b6 (
 ∀ d0, Adv [] [b5] w d0 →
 KS (yt9 q0 n0 n1 i0 n2 i1 i2 i3 i4 q1 n3 n4 q2 n5 n6 I m) (yi1 q0 n0 n1 i0 n2 i1 i2 i3 i4 q1 n3 n4 q2 n5 n6 (false, true, (IntKind.wrap .i64 (b4 + 1)))) d0)
 (
 ∀ c4, Adv [] [b5] w c4 →
 Calls pP 120 #[.string c6] c4 fun e d1 => ∃ c8, e = .returned (.bool c8) ∧ yaH [n2, b5] c4 d1 ∧
 KS (yt9 q0 n0 n1 i0 n2 i1 i2 i3 i4 q1 n3 n4 q2 n5 n6 I m) (yi1 q0 n0 n1 i0 n2 i1 i2 i3 i4 q1 n3 n4 q2 n5 n6 (false, (!c8), (IntKind.wrap .i64 (b4 + 1)))) d1)))
 (
 brB (!b7) (
 R (.int .i64 1) w)
 (
 brB (decide ((n3 : Int) > 64)) (
 R (.int .i64 2) w)
 (
 brB (decide ((n5 : Int) > 64)) (
 R (.int .i64 2) w)
 (
 brB b6 (
 R (.int .i64 40) w)
 (
 R (.int .i64 0) w)))))) :
 yaL ypZ (yx3 394 [0, 0, 1, 0, 1, 1, 1, 1]) (yyR [1, 1, 1, 1, 0, 1, 0] [] R) (yi1 q0 n0 n1 i0 n2 i1 i2 i3 i4 q1 n3 n4 q2 n5 n6 (B0, B1, i5)) w0 :=
 lrule (yi1 q0 n0 n1 i0 n2 i1 i2 i3 i4 q1 n3 n4 q2 n5 n6) (U3 I) h0 (by rintro m ⟨b7, b6, b4⟩ w h; exact ⟨by kernel_rfl, by kernel_rfl, fun js => Eq.mpr (by kernel_rfl) (hr m b7 b6 b4 w h)⟩)
theorem yFN (h :
 ∀ b1, w.heap.size ≤ b1 →
 ∀ w2, Adv [] [b1] w w2 →
 Calls pP 118 #[.int .i64 i0] w2 fun e w3 => ∃ t4, e = .returned (.bool t4) ∧ yaH [b1] w2 w3 ∧
 brB t4 (
 Calls pP 118 #[.int .i64 i1] w3 fun e w5 => ∃ t6, e = .returned (.bool t6) ∧ yaH [b1] w3 w5 ∧
 brB t6 (
 Calls pP 118 #[.int .i64 i2] w5 fun e w7 => ∃ t8, e = .returned (.bool t8) ∧ yaH [b1] w5 w7 ∧
 brB t8 (
 Calls pP 118 #[.int .i64 i3] w7 fun e w9 => ∃ b0, e = .returned (.bool b0) ∧ yaH [b1] w7 w9 ∧
 yr3 yjG ((yx3 398 [1, 1]) (yyR [1] [] R)) (yr8 (b0, b1, i0, i1, i2, i3, q0, n0, n1, q1, n2, n3)) w9)
 (
 yr3 yjG ((yx3 398 [1, 1]) (yyR [1] [] R)) (yr8 (false, b1, i0, i1, i2, i3, q0, n0, n1, q1, n2, n3)) w7))
 (
 yr3 yjG ((yx3 398 [1, 1]) (yyR [1] [] R)) (yr8 (false, b1, i0, i1, i2, i3, q0, n0, n1, q1, n2, n3)) w5))
 (
 yr3 yjG ((yx3 398 [1, 1]) (yyR [1] [] R)) (yr8 (false, b1, i0, i1, i2, i3, q0, n0, n1, q1, n2, n3)) w3)) :
 CR pP 79 #[(.agg (Z3 i0 i1 i2 i3 q0 n0 n1 q1 n2 n3))] w R :=
 yaA Tryz.wide_mixed (an := yyQ) Tryz.func79 rfl rfl (by kernel_rfl) rfl (Eq.mpr (by kernel_rfl) h)
end
def num (n : Int) : Bool := decide (0 ≤ n ∧ n ≤ 1099511627776)
theorem ycI (n : Int) (w : World) : Calls pP 118 #[.int .i64 n] w fun e w' => e = .returned (.bool (num n)) ∧ w' = w :=
 yaS (yFF (yaC (fun h => ⟨by simp [num]; omega, rfl⟩) (fun h => ⟨by simp [num]; omega, rfl⟩)))
def yFr (hk tomb : Bool) (k v : Nat) : Int :=
 if (!hk && decide (k ≠ 0)) || (tomb && (!hk || decide (v ≠ 0))) then 30 else if k > 64 ∨ v > 512 then 2 else 0
def yg5 (r : PRec) : Int := yFr r.hk r.tomb r.key.size r.val.size
theorem yd4 (r : PRec) (w : World) : Calls pP 119 #[r.v] w fun e w' => e = .returned (.int .i64 (yg5 r)) ∧ Mod [] w w' := by
 obtain ⟨hk, key, tomb, val⟩ := r
 refine yaS (yFG ?_)
 intro b1 f1
 have e1 : (!(key.toList == (⟨#[]⟩ : ByteArray).toList)) = decide (key.size ≠ 0) := by rw [ygE]; simp [yk5]
 have e2 : (!(val.toList == (⟨#[]⟩ : ByteArray).toList)) = decide (val.size ≠ 0) := by rw [ygE]; simp [yk5]
 rw [e1, e2]
 clear e1 e2
 unfold yg5
 generalize key.size = k
 generalize val.size = v
 repeat' (first | refine yaB (fun _ => ?_) (fun _ => ?_) | (intro w' A))
 all_goals
  refine ⟨congrArg (Value.int .i64) ?_, Adv.mod (by assumption)⟩
  unfold yFr
  cases hk <;> cases tomb <;> simp at * <;> (repeat' split) <;> omega
def okC (c : Int) : Bool := decide (97 ≤ c ∧ c ≤ 122) || decide (48 ≤ c ∧ c ≤ 57) || decide (c = 45)
def ycA (s : ByteArray) : Bool := decide (1 ≤ s.size ∧ s.size ≤ 16) && s.data.toList.all fun b => okC b.toNat
theorem ygF {s : ByteArray} {k : Nat} (h : k < s.size) : ∃ b : UInt8, s.data.toList[k]? = some b ∧ yl4 s k = b.toNat := by
 have h' : k < s.data.toList.length := by simpa using h
 exact ⟨s.data.toList[k], List.getElem?_eq_getElem h', by rw [yl4, List.getD_eq_getElem?_getD, List.getElem?_eq_getElem h']; rfl⟩
theorem yc6 {α : Type} {l1 l2 : List α} {k : Nat} {x : α} (ht : l1.take k = l2.take k) (h1 : l1[k]? = some x) (h2 : l2[k]? = some x) : l1.take (k + 1) = l2.take (k + 1) := by
 rw [List.take_add_one, List.take_add_one, ht, h1, h2]
theorem yuA {w : World} {a1 a2 : Option Addr} {n1 c1 n2 c2 : Nat} {l1 l2 : List PFound} (h1 : yb2 w 5 yi0 a1 n1 l1) (h2 : yb2 w 5 yi0 a2 n2 l2) (hl : l1.length ≤ 1000000) :
  Calls pP 61 #[.slice a1 n1 c1, .slice a2 n2 c2] w fun e w' => e = .returned (.bool (decide (l1 = l2))) ∧ Mod [] w w' := by
 refine yaS (yFI ?_)
 have e1 := h1.1
 have e2 := h2.1
 refine yaB (fun h => ⟨congrArg Value.bool (decide_eq_false fun e => ?_).symm, Mod.refl _⟩) fun h => ?_
 ·subst e
  rw [e1, e2] at h
  simp at h
 have hlen : l1.length = l2.length := by
  simp at h
  omega
 refine yyM (fun mm x w' => ∃ k : Nat, x = k ∧ k ≤ l1.length ∧ l1.take k = l2.take k ∧ Mod [] w w' ∧ mm = l1.length - k) l1.length ⟨0, rfl, by omega, by simp, Mod.refl _, rfl⟩ ?_
 rintro mm x w1 ⟨k, rfl, hk, ht, M, rfl⟩
 refine yaC (fun hlt => ?_) fun hge => ?_
 ·have g1 : k < l1.length := by omega
  have g2 : k < l2.length := by omega
  obtain ⟨x, hx⟩ : ∃ x, l1[k]? = some x := ⟨_, List.getElem?_eq_getElem g1⟩
  obtain ⟨y, hy⟩ : ∃ y, l2[k]? = some y := ⟨_, List.getElem?_eq_getElem g2⟩
  refine (h1.keep0 M).ix hx fun q hq => yaE (by simpa [add_zero] using hq 0 _ rfl) (yaP (hq 1 _ rfl) (yaI (hq 2 _ rfl) (yaP (hq 3 _ rfl) (yaI (hq 4 _ rfl) ?_))))
  refine (h2.keep0 M).ix hy fun q hq => yaE (by simpa [add_zero] using hq 0 _ rfl) (yaP (hq 1 _ rfl) (yaI (hq 2 _ rfl) (yaP (hq 3 _ rfl) (yaI (hq 4 _ rfl) ?_))))
  refine ⟨_, fun w' _ => neF x y _ _ w', ?_⟩
  refine yaC (fun hne => ?_) fun heq => ?_
  ·intro w2 A2
   refine ⟨congrArg Value.bool (decide_eq_false fun e => hne ?_).symm, M.go0 A2.mod (by simp)⟩
   subst e
   rw [hx] at hy
   exact Option.some.inj hy
  ·intro w2 A2
   have he : x = y := Decidable.not_not.1 heq
   subst he
   exact yyL (l1.length - (k + 1)) (by omega) ⟨k + 1, by rw [yaF (by omega) (by omega)]; omega, by omega, yc6 ht hx hy, M.go0 A2.mod (by simp), rfl⟩
 ·have hk : k = l1.length := by omega
  subst hk
  rw [List.take_length, hlen, List.take_length] at ht
  exact ⟨congrArg Value.bool (decide_eq_true ht).symm, M⟩
theorem yuB {w : World} {a1 a2 : Option Addr} {n1 c1 n2 c2 : Nat} {l1 l2 : List PPart} (h1 : yb2 w 2 yk6 a1 n1 l1) (h2 : yb2 w 2 yk6 a2 n2 l2) (hl : l1.length ≤ 1000000) :
  Calls pP 62 #[.slice a1 n1 c1, .slice a2 n2 c2] w fun e w' => e = .returned (.bool (decide (l1 = l2))) ∧ Mod [] w w' := by
 refine yaS (yFJ ?_)
 have e1 := h1.1
 have e2 := h2.1
 refine yaB (fun h => ⟨congrArg Value.bool (decide_eq_false fun e => ?_).symm, Mod.refl _⟩) fun h => ?_
 ·subst e
  rw [e1, e2] at h
  simp at h
 have hlen : l1.length = l2.length := by
  simp at h
  omega
 refine yyP (fun mm x w' => ∃ k : Nat, x = k ∧ k ≤ l1.length ∧ l1.take k = l2.take k ∧ Mod [] w w' ∧ mm = l1.length - k) l1.length ⟨0, rfl, by omega, by simp, Mod.refl _, rfl⟩ ?_
 rintro mm x w1 ⟨k, rfl, hk, ht, M, rfl⟩
 refine yaC (fun hlt => ?_) fun hge => ?_
 ·have g1 : k < l1.length := by omega
  have g2 : k < l2.length := by omega
  obtain ⟨x, hx⟩ : ∃ x, l1[k]? = some x := ⟨_, List.getElem?_eq_getElem g1⟩
  obtain ⟨y, hy⟩ : ∃ y, l2[k]? = some y := ⟨_, List.getElem?_eq_getElem g2⟩
  refine (h1.keep0 M).ix hx fun q hq => yaI (by simpa [add_zero] using hq 0 _ rfl) (yaE (hq 1 _ rfl) ?_)
  refine (h2.keep0 M).ix hy fun q hq => yaI (by simpa [add_zero] using hq 0 _ rfl) (yaE (hq 1 _ rfl) ?_)
  refine ⟨_, fun w' _ => neP x y _ _ w', ?_⟩
  refine yaC (fun hne => ?_) fun heq => ?_
  ·intro w2 A2
   refine ⟨congrArg Value.bool (decide_eq_false fun e => hne ?_).symm, M.go0 A2.mod (by simp)⟩
   subst e
   rw [hx] at hy
   exact Option.some.inj hy
  ·intro w2 A2
   have he : x = y := Decidable.not_not.1 heq
   subst he
   exact yyO (l1.length - (k + 1)) (by omega) ⟨k + 1, by rw [yaF (by omega) (by omega)]; omega, by omega, yc6 ht hx hy, M.go0 A2.mod (by simp), rfl⟩
 ·have hk : k = l1.length := by omega
  subst hk
  rw [List.take_length, hlen, List.take_length] at ht
  exact ⟨congrArg Value.bool (decide_eq_true ht).symm, M⟩
theorem yFO (r r' : PRep) : decide (r = r') = (decide (r.e = r'.e) && decide (r.off = r'.off) && decide (r.n = r'.n) && decide (r.gen = r'.gen) && decide (r.found = r'.found) && decide (r.parts = r'.parts)) := by
 obtain ⟨a, b, c, d, e, f⟩ := r
 obtain ⟨a', b', c', d', e', f'⟩ := r'
 rw [Bool.eq_iff_iff]
 simp [and_assoc]
theorem yuC {w : World} {r r' : PRep} {f p f' p' : Sl} (h : RepAt w r f p) (h' : RepAt w r' f' p') :
  Calls pP 39 #[r.v f p, r'.v f' p'] w fun e w' => e = .returned (.bool (decide (r = r'))) ∧ Mod [] w w' := by
 rw [yFO]
 refine yaS (yFK ?_)
 intro b1 f1 b2 f2
 refine yaB (fun g1 => ?_) (fun g1 => ?_)
 rotate_left
 ·intro w1 A1; simp at g1; exact ⟨by simp [g1], A1.mod⟩
 refine yaB (fun g2 => ?_) (fun g2 => ?_)
 rotate_left
 ·intro w1 A1; simp at g2; exact ⟨by simp [g2], A1.mod⟩
 refine yaB (fun g3 => ?_) (fun g3 => ?_)
 rotate_left
 ·intro w1 A1; simp at g3; exact ⟨by simp [g3], A1.mod⟩
 refine yaB (fun g4 => ?_) (fun g4 => ?_)
 rotate_left
 ·intro w1 A1; simp at g4; exact ⟨by simp [g4], A1.mod⟩
 simp at g1 g2 g3 g4
 intro w1 A1
 refine (yuA (h.keep0 A1.mod).found (h'.keep0 A1.mod).found h.lf).mono ?_
 rintro e w2 ⟨rfl, M2⟩
 refine ⟨_, rfl, yaH.of0 M2, ?_⟩
 have M := A1.mod.go0 M2 (by simp)
 refine yaB (fun g5 => ?_) (fun g5 => ?_)
 ·refine (yuB (h.keep0 M).parts (h'.keep0 M).parts h.lp).mono ?_
  rintro e w3 ⟨rfl, M3⟩
  refine ⟨_, rfl, yaH.of0 M3, ?_, M.go0 M3 (by simp)⟩
  simp at g5
  simp [g1, g2, g3, g4, g5]
 ·refine ⟨?_, M⟩
  simp at g5
  simp [g5]
theorem yCC : (Tryz.prog.info? 101).map (fun i => (i.zero, i.size, i.bytes)) = some (some (.agg #[.int .i64 0, .bool false, .string ByteArray.empty, .bool false, .string ByteArray.empty]), 5, 56) := by kernel_rfl
theorem yBe : (Tryz.prog.info? 42).map (fun i => (i.zero, i.size, i.bytes)) = some (some (.agg #[.string ByteArray.empty, .int .i64 0]), 2, 24) := by kernel_rfl
theorem yp0 (x : PFound) : ∀ u ∈ yi0 x, u.oneCell' = true := by simp [yi0, Value.oneCell']
theorem yk9 (x : PPart) : ∀ u ∈ yk6 x, u.oneCell' = true := by simp [yk6, Value.oneCell']
def ok0 (r : PRep) : Bool := num r.e && num r.off && num r.n && num r.gen
def okF (x : PFound) : Bool := num x.off
def yAc (x : PFound) : Bool := yg5 x.r != 0
def okP (x : PPart) : Bool := num x.n
def yFP (x : PPart) : Bool := !ycA x.t
def yi2 (r : PRep) : Int :=
 if (ok0 r && r.found.all okF && r.parts.all okP) = false then 1 else if r.found.length > 64 then 2 else if r.parts.length > 64 then 2 else if (r.found.any yAc || r.parts.any yFP) = true then 40 else 0
theorem yd5 {α : Type} {p : α → Bool} {l : List α} {k : Nat} {x : α} (hx : l[k]? = some x) : (l.take (k + 1)).all p = ((l.take k).all p && p x) := by
 rw [List.take_add_one, hx]; simp
theorem yf0 {α : Type} {p : α → Bool} {l : List α} {k : Nat} {x : α} (hx : l[k]? = some x) : (l.take (k + 1)).any p = ((l.take k).any p || p x) := by
 rw [List.take_add_one, hx]; simp
theorem yBf {b : Bool} (h : (!b) = true) : b = false := by cases b <;> simp_all
theorem yAd {b : Bool} (h : (!b) = false) : b = true := by cases b <;> simp_all
def yp1 : Prop := ∀ (s : ByteArray) (w : World), Calls pP 120 #[.string s] w fun e w' => e = .returned (.bool (ycA s)) ∧ Mod [] w w'
theorem ynY (hN : yp1) {w0 w : World} {bm : Nat} {r : PRep} {f p : Sl} (h : RepAtW w0 r f p) (M : Mod [] w0 w) (hb : bm < w.heap.size) {t3 t4 : Bool} (h3 : t3 = (ok0 r && r.found.all okF)) (h4 : t4 = r.found.any yAc) :
  yaL ypZ (yx3 394 [0, 0, 1, 0, 1, 1, 1, 1]) (yGc [1, 1, 1, 1, 0, 1, 0] [] (ybI pP Tryz.f79 [] fun v w' => v = .int .i64 (yi2 r) ∧ Mod [] w0 w'))
   (yi1 p.a p.n p.c (p.n : Int) bm r.e r.off r.n r.gen f.a f.n f.c p.a p.n p.c (t3, t4, 0)) w := by
 have e5 := h.parts.1
 have e4 := h.found.1
 have hl := h.lp
 refine yyT (fun mm t3 t4 x w' => ∃ k : Nat, x = k ∧ k ≤ r.parts.length ∧ t3 = (ok0 r && r.found.all okF && (r.parts.take k).all okP) ∧ t4 = (r.found.any yAc || (r.parts.take k).any yFP) ∧ Mod [] w0 w' ∧ mm = r.parts.length - k) r.parts.length ⟨0, rfl, by omega, by simp [h3], by simp [h4], M, rfl⟩ ?_
 rintro mm t3 t4 x w1 ⟨k, rfl, hk, rfl, rfl, M1, rfl⟩
 refine yaC (fun hlt => ?_) fun hge => ?_
 ·have g1 : k < r.parts.length := by omega
  obtain ⟨x, hx⟩ : ∃ x, r.parts[k]? = some x := ⟨_, List.getElem?_eq_getElem g1⟩
  have ek : IntKind.wrap .i64 ((k : Int) + 1) = ((k + 1 : Nat) : Int) := by rw [yaF (by omega) (by omega)]; omega
  refine (h.keep0 M1).parts.ix hx fun q hq => yaI (by simpa [add_zero] using hq 0 _ rfl) (yaE (hq 1 _ rfl) ?_)
  intro b2 f2
  refine yaB (fun g3 => ?_) (fun g3 => ?_)
  ·intro w2 A2
   refine (ycI x.n w2).mono ?_
   rintro e w3 ⟨rfl, rfl⟩
   refine ⟨_, rfl, yaH.of0 (Mod.refl _), ?_⟩
   refine yaB (fun g4 => ?_) (fun g4 => ?_)
   ·exact yhJ (r.parts.length - (k + 1)) (by omega) ⟨k + 1, ek, by omega, by rw [yd5 hx, ← Bool.and_assoc, g3]; rfl, by rw [yf0 hx, ← Bool.or_assoc, g4]; rfl, M1.go0 A2.mod (by simp), rfl⟩
   ·refine (hN x.t w3).mono ?_
    rintro e w4 ⟨rfl, M4⟩
    refine ⟨_, rfl, yaH.of0 M4, ?_⟩
    exact yhJ (r.parts.length - (k + 1)) (by omega) ⟨k + 1, ek, by omega, by rw [yd5 hx, ← Bool.and_assoc, g3]; rfl, by rw [yf0 hx, ← Bool.or_assoc, g4]; rfl, (M1.go0 A2.mod (by simp)).go0 M4 (by simp), rfl⟩
  ·refine yaB (fun g4 => ?_) (fun g4 => ?_)
   ·intro w2 A2
    exact yhJ (r.parts.length - (k + 1)) (by omega) ⟨k + 1, ek, by omega, by rw [yd5 hx, ← Bool.and_assoc, g3]; rfl, by rw [yf0 hx, ← Bool.or_assoc, g4]; rfl, M1.go0 A2.mod (by simp), rfl⟩
   ·intro w2 A2
    refine (hN x.t w2).mono ?_
    rintro e w4 ⟨rfl, M4⟩
    refine ⟨_, rfl, yaH.of0 M4, ?_⟩
    exact yhJ (r.parts.length - (k + 1)) (by omega) ⟨k + 1, ek, by omega, by rw [yd5 hx, ← Bool.and_assoc, g3]; rfl, by rw [yf0 hx, ← Bool.or_assoc, g4]; rfl, (M1.go0 A2.mod (by simp)).go0 M4 (by simp), rfl⟩
 ·have hk : k = r.parts.length := by omega
  subst hk
  rw [List.take_length]
  unfold yi2
  refine yaB (fun g1 => ⟨by rw [if_pos (yBf g1)], M1⟩) fun g1 => ?_
  rw [if_neg (by rw [yAd g1]; decide)]
  refine yaC (fun g2 => ⟨by rw [if_pos (by omega)], M1⟩) fun g2 => ?_
  rw [if_neg (by omega)]
  refine yaC (fun g3 => ⟨by rw [if_pos (by omega)], M1⟩) fun g3 => ?_
  rw [if_neg (by omega)]
  refine yaB (fun g4 => ⟨by rw [if_pos g4], M1⟩) fun g4 => ?_
  exact ⟨by rw [if_neg (by rw [g4]; decide)], M1⟩
theorem yeX (hN : yp1) {w0 w : World} {bm : Nat} {r : PRep} {f p : Sl} (h : RepAtW w0 r f p) (M : Mod [] w0 w) (hb : bm < w.heap.size) {t : Bool} (ht : t = ok0 r) :
  yCB t bm r.e r.off r.n r.gen f.a f.n f.c p.a p.n p.c (fun v w' => v = .int .i64 (yi2 r) ∧ Mod [] w0 w') w := by
 have e4 := h.found.1
 have hl := h.lf
 refine yyS (fun mm t3 t4 x w' => ∃ k : Nat, x = k ∧ k ≤ r.found.length ∧ t3 = (ok0 r && (r.found.take k).all okF) ∧ t4 = (r.found.take k).any yAc ∧ Mod [] w0 w' ∧ bm < w'.heap.size ∧ mm = r.found.length - k) r.found.length ⟨0, rfl, by omega, by simp [ht], by simp, M, hb, rfl⟩ ?_
 rintro mm t3 t4 x w1 ⟨k, rfl, hk, rfl, rfl, M1, hb1, rfl⟩
 refine yaC (fun hlt => ?_) fun hge => ?_
 ·have g1 : k < r.found.length := by omega
  obtain ⟨x, hx⟩ : ∃ x, r.found[k]? = some x := ⟨_, List.getElem?_eq_getElem g1⟩
  have ek : IntKind.wrap .i64 ((k : Int) + 1) = ((k + 1 : Nat) : Int) := by rw [yaF (by omega) (by omega)]; omega
  refine (h.keep0 M1).found.ix hx fun q hq => yaE (by simpa [add_zero] using hq 0 _ rfl) (yaP (hq 1 _ rfl) (yaI (hq 2 _ rfl) (yaP (hq 3 _ rfl) (yaI (hq 4 _ rfl) ?_))))
  intro b2 f2
  have fin : ∀ {w'}, Mod [] w0 w' → w1.heap.size ≤ w'.heap.size → ∃ k' : Nat, IntKind.wrap .i64 ((k : Int) + 1) = k' ∧ k' ≤ r.found.length ∧ (ok0 r && (r.found.take k).all okF && okF x) = (ok0 r && (r.found.take k').all okF) ∧ ((r.found.take k).any yAc || yAc x) = (r.found.take k').any yAc ∧ Mod [] w0 w' ∧ bm < w'.heap.size ∧ r.found.length - (k + 1) = r.found.length - k' :=
   fun {w'} hM hs => ⟨k + 1, ek, by omega, by rw [yd5 hx, ← Bool.and_assoc], by rw [yf0 hx], hM, by omega, rfl⟩
  refine yaB (fun g3 => ?_) (fun g3 => ?_)
  ·intro w2 A2
   have s2 := A2.mod.size
   refine (ycI x.off w2).mono ?_
   rintro e w3 ⟨rfl, rfl⟩
   refine ⟨_, rfl, yaH.of0 (Mod.refl _), ?_⟩
   refine yaB (fun g4 => ?_) (fun g4 => ?_)
   ·have := fin (M1.go0 A2.mod (by simp)) s2
    rw [g3, g4, Bool.true_and, Bool.true_or] at this
    exact yhI (r.found.length - (k + 1)) (by omega) this
   ·refine (yd4 x.r w3).mono ?_
    rintro e w4 ⟨rfl, M4⟩
    have s4 := M4.size
    refine ⟨_, rfl, yaH.of0 M4, ?_⟩
    have := fin ((M1.go0 A2.mod (by simp)).go0 M4 (by simp)) (by omega)
    rw [g3, g4, Bool.true_and, Bool.false_or] at this
    exact yhI (r.found.length - (k + 1)) (by omega) this
  ·refine yaB (fun g4 => ?_) (fun g4 => ?_)
   ·intro w2 A2
    have := fin (M1.go0 A2.mod (by simp)) A2.mod.size
    rw [g3, g4, Bool.false_and, Bool.true_or] at this
    exact yhI (r.found.length - (k + 1)) (by omega) this
   ·intro w2 A2
    have s2 := A2.mod.size
    refine (yd4 x.r w2).mono ?_
    rintro e w4 ⟨rfl, M4⟩
    have s4 := M4.size
    refine ⟨_, rfl, yaH.of0 M4, ?_⟩
    have := fin ((M1.go0 A2.mod (by simp)).go0 M4 (by simp)) (by omega)
    rw [g3, g4, Bool.false_and, Bool.false_or] at this
    exact yhI (r.found.length - (k + 1)) (by omega) this
 ·have hk : k = r.found.length := by omega
  subst hk
  rw [List.take_length]
  exact ynY hN h M1 hb1 rfl rfl
theorem yuD (hN : yp1) {w : World} {r : PRep} {f p : Sl} (h : RepAtW w r f p) :
  Calls pP 79 #[r.v f p] w fun e w' => e = .returned (.int .i64 (yi2 r)) ∧ Mod [] w w' := by
 refine yaS (yFN ?_)
 intro b1 f1 w1 A1
 have l1 := A1.lt b1 (by simp)
 refine (ycI _ _).mono ?_
 rintro e w2 ⟨rfl, rfl⟩
 refine ⟨_, rfl, yaH.of0 (Mod.refl _), yaB (fun g1 => ?_) (fun g1 => ?_)⟩
 rotate_left
 ·refine yk8 (fun t bm x0 x1 x2 x3 a4 n4 c4 a5 n5 c5 w' => t = ok0 r ∧ bm < w'.heap.size ∧ x0 = r.e ∧ x1 = r.off ∧ x2 = r.n ∧ x3 = r.gen ∧ a4 = f.a ∧ n4 = f.n ∧ c4 = f.c ∧ a5 = p.a ∧ n5 = p.n ∧ c5 = p.c ∧ Mod [] w w') ⟨by simp [ok0, g1], l1, rfl, rfl, rfl, rfl, rfl, rfl, rfl, rfl, rfl, rfl, A1.mod⟩ ?_
  rintro t bm x0 x1 x2 x3 a4 n4 c4 a5 n5 c5 w' ⟨ht, hb, rfl, rfl, rfl, rfl, rfl, rfl, rfl, rfl, rfl, rfl, M⟩
  exact yeX hN h M hb ht
 refine (ycI _ _).mono ?_
 rintro e w2 ⟨rfl, rfl⟩
 refine ⟨_, rfl, yaH.of0 (Mod.refl _), yaB (fun g2 => ?_) (fun g2 => ?_)⟩
 rotate_left
 ·refine yk8 (fun t bm x0 x1 x2 x3 a4 n4 c4 a5 n5 c5 w' => t = ok0 r ∧ bm < w'.heap.size ∧ x0 = r.e ∧ x1 = r.off ∧ x2 = r.n ∧ x3 = r.gen ∧ a4 = f.a ∧ n4 = f.n ∧ c4 = f.c ∧ a5 = p.a ∧ n5 = p.n ∧ c5 = p.c ∧ Mod [] w w') ⟨by simp [ok0, g2], l1, rfl, rfl, rfl, rfl, rfl, rfl, rfl, rfl, rfl, rfl, A1.mod⟩ ?_
  rintro t bm x0 x1 x2 x3 a4 n4 c4 a5 n5 c5 w' ⟨ht, hb, rfl, rfl, rfl, rfl, rfl, rfl, rfl, rfl, rfl, rfl, M⟩
  exact yeX hN h M hb ht
 refine (ycI _ _).mono ?_
 rintro e w2 ⟨rfl, rfl⟩
 refine ⟨_, rfl, yaH.of0 (Mod.refl _), yaB (fun g3 => ?_) (fun g3 => ?_)⟩
 rotate_left
 ·refine yk8 (fun t bm x0 x1 x2 x3 a4 n4 c4 a5 n5 c5 w' => t = ok0 r ∧ bm < w'.heap.size ∧ x0 = r.e ∧ x1 = r.off ∧ x2 = r.n ∧ x3 = r.gen ∧ a4 = f.a ∧ n4 = f.n ∧ c4 = f.c ∧ a5 = p.a ∧ n5 = p.n ∧ c5 = p.c ∧ Mod [] w w') ⟨by simp [ok0, g3], l1, rfl, rfl, rfl, rfl, rfl, rfl, rfl, rfl, rfl, rfl, A1.mod⟩ ?_
  rintro t bm x0 x1 x2 x3 a4 n4 c4 a5 n5 c5 w' ⟨ht, hb, rfl, rfl, rfl, rfl, rfl, rfl, rfl, rfl, rfl, rfl, M⟩
  exact yeX hN h M hb ht
 refine (ycI _ _).mono ?_
 rintro e w2 ⟨rfl, rfl⟩
 refine ⟨_, rfl, yaH.of0 (Mod.refl _), ?_⟩
 refine yk8 (fun t bm x0 x1 x2 x3 a4 n4 c4 a5 n5 c5 w' => t = ok0 r ∧ bm < w'.heap.size ∧ x0 = r.e ∧ x1 = r.off ∧ x2 = r.n ∧ x3 = r.gen ∧ a4 = f.a ∧ n4 = f.n ∧ c4 = f.c ∧ a5 = p.a ∧ n5 = p.n ∧ c5 = p.c ∧ Mod [] w w') ⟨by simp [ok0, g1, g2, g3], l1, rfl, rfl, rfl, rfl, rfl, rfl, rfl, rfl, rfl, rfl, A1.mod⟩ ?_
 rintro t bm x0 x1 x2 x3 a4 n4 c4 a5 n5 c5 w' ⟨ht, hb, rfl, rfl, rfl, rfl, rfl, rfl, rfl, rfl, rfl, rfl, M⟩
 exact yeX hN h M hb ht
end Go.Proofs.YtjellhflalbbmaaGreat
namespace Go.Proofs
open Go.Shelf
shelf_lay LaysGw.n17 Ggw 17 at Tryz as Tryz.layCF
end Go.Proofs
namespace Go.Proofs.YtjellhflalbbmaaGreat
open Go Go.RowKit
set_option linter.unusedVariables false
set_option linter.unusedSimpArgs false
theorem yCD (c : Int) (w : World) : Calls pP 145 #[.int .i32 c] w fun e w' => e = .returned (.bool (!okC c)) ∧ w' = w := by
 refine yaS (yFM ?_)
 repeat' (first | refine yaB (fun _ => ?_) (fun _ => ?_) | (intro w' A))
 all_goals
  refine ⟨congrArg Value.bool ?_, rfl⟩
  rw [Bool.eq_iff_iff]
  simp [okC] at *
  try omega
theorem yp2 (s : ByteArray) : ∀ (f pos : Nat), s.size ≤ pos + f → (0 ≤ Lib.idxFuncFrom (fun x => !okC x) true s f pos ↔ ∃ i b, pos ≤ i ∧ s.data.toList[i]? = some b ∧ okC (b.toNat : Int) = false)
 | 0, pos, h => by
  constructor
  ·intro h; simp [Lib.idxFuncFrom] at h
  ·rintro ⟨i, b, h1, h2, _⟩
   have := (List.getElem?_eq_some_iff.1 h2).1
   simp at this; omega
 | f + 1, pos, h => by
  unfold Lib.idxFuncFrom
  split
  ·rename_i hp
   have hd : s.data.toList[pos]? = some s[pos] := by
    rw [List.getElem?_eq_getElem (by simpa using hp)]; rfl
   by_cases ha : (s[pos]).toNat < 128
   ·rw [decode_ascii s pos hp ha]
    have ih := yp2 s f (pos + 1) (by omega)
    by_cases ho : okC ((s[pos]).toNat : Int) = true
    ·simp only [ho, Bool.not_true]
     rw [if_neg (by decide), ih]
     constructor
     ·rintro ⟨i, b, h1, h2, h3⟩; exact ⟨i, b, by omega, h2, h3⟩
     ·rintro ⟨i, b, h1, h2, h3⟩
      refine ⟨i, b, ?_, h2, h3⟩
      rcases Nat.lt_or_ge pos i with h4 | h4
      ·exact h4
      ·have : i = pos := by omega
       subst this
       rw [hd] at h2; cases h2
       rw [ho] at h3; cases h3
    ·have ho' : okC ((s[pos]).toNat : Int) = false := by simpa using ho
     simp only [ho', Bool.not_false]
     rw [if_pos trivial]
     exact ⟨fun _ => ⟨pos, _, Nat.le_refl _, hd, ho'⟩, fun _ => by omega⟩
   ·have h1 := decode_high s pos hp (by omega)
    have ho : okC ((Utf8.decode s pos).1 : Int) = false := by simp [okC]; omega
    have ho' : okC ((s[pos]).toNat : Int) = false := by simp [okC]; omega
    simp only [ho, Bool.not_false]
    rw [if_pos trivial]
    exact ⟨fun _ => ⟨pos, _, Nat.le_refl _, hd, ho'⟩, fun _ => by omega⟩
  ·rename_i hp
   constructor
   ·intro h; simp at h
   ·rintro ⟨i, b, h1, h2, _⟩
    have := (List.getElem?_eq_some_iff.1 h2).1
    simp at this; omega
theorem ynZ : yp1 := by
 intro s w
 refine yaS (yFL ?_)
 rw [ygE]
 refine yaB (fun g1 => ?_) (fun g1 => ⟨?_, Mod.refl _⟩)
 rotate_left
 ·have g1 := yAd g1
  have h0 := (yk5 s).1 (of_decide_eq_true g1)
  simp [ycA, h0]
 have h1 : s.size ≠ 0 := fun e => by rw [decide_eq_true ((yk5 s).2 e)] at g1; cases g1
 refine yaC (fun g2 => ?_) (fun g2 => ⟨by simp [ycA]; omega, Mod.refl _⟩)
 have hC := Any.strings_ContainsFunc_grows Tryz.layCF 145 #[] (enters_of Tryz.func145 (by kernel_rfl) rfl) (fun x => !okC x) s w
  (fun W x _ _ => (yCD (x : Int) W).mono fun e w' ⟨h, h'⟩ => ⟨h, by rw [h']; exact Below.refl _ _⟩)
 refine hC.mono ?_
 rintro e w1 ⟨rfl, hb⟩
 refine ⟨_, rfl, ?_, Mod.of_below hb⟩
 refine congrArg Value.bool ?_
 have ho := yp2 s s.size 0 (by omega)
 rw [Bool.eq_iff_iff]
 simp only [ycA, Bool.not_eq_true', decide_eq_false_iff_not, Bool.and_eq_true, decide_eq_true_eq, List.all_eq_true]
 unfold Lib.idxFunc
 rw [ho]
 constructor
 ·intro h
  refine ⟨by omega, fun b hb => ?_⟩
  obtain ⟨i, hi⟩ := List.getElem?_of_mem hb
  by_cases hk : okC (b.toNat : Int) = true
  ·exact hk
  ·exact absurd ⟨i, b, Nat.zero_le _, hi, by simpa using hk⟩ h
 ·rintro ⟨_, h⟩ ⟨i, b, _, hi, hk⟩
  rw [h b (List.mem_of_getElem? hi)] at hk; cases hk
end Go.Proofs.YtjellhflalbbmaaGreat
namespace Go.Proofs.YtjellhflalbbmaaGreat
open Go Go.RowKit
set_option linter.all false
section
set_option maxRecDepth 100000
variable {R : VWP} {w w0 : World} {m : Nat} {i0 i1 i2 i3 i4 i5 i6 i7 i8 i9 j0 j1 j2 j3 j4 j5 j6 j7 j8 j9 k0 k1 k2 k3 k4 k5 k6 k7 k8 k9 l0 l1 l2 l3 l4 l5 l6 l7 l8 l9 : Int} {s0 s1 s2 s3 s4 s5 s6 s7 s8 s9 t0 t1 t2 t3 t4 t5 t6 t7 t8 t9 : BA} {n0 n1 n2 n3 n4 n5 n6 n7 n8 n9 o0 o1 o2 o3 o4 o5 o6 o7 o8 o9 p0 p1 p2 p3 p4 p5 p6 p7 p8 p9 : Nat} {q0 q1 q2 q3 q4 q5 q6 q7 q8 q9 r0 r1 r2 r3 r4 r5 r6 r7 r8 r9 : OA} {B0 B1 B2 B3 B4 B5 B6 B7 B8 B9 : Bool} {M0 M1 M2 M3 : Option Nat} {V0 V1 V2 V3 V4 V5 : Value} {A0 A1 A2 : Addr}
theorem yFQ {a0 : BA} (h :
 Calls pP 52 #[(.int .u64 (IntKind.wrap .u64 (a0.size : Int)))] w fun e w1 => ∃ s2, e = .returned (.string s2) ∧
 yx0 s2 a0 fun s3 =>
 R (.string s3) w1) :
 CR pP 56 #[.string a0] w R :=
 yaA Tryz.wide_mixed (an := []) Tryz.func56 rfl rfl (by kernel_rfl) rfl (Eq.mpr (by kernel_rfl) h)
theorem yCE {a3 : BA} {a1 : BA} (h :
 ∀ b1, w.heap.size ≤ b1 →
 ∀ w2, Adv [] [b1] w w2 →
 Calls pP 147 #[(.agg (Z7 B0 a3 B1 a1))] w2 fun e w3 => ∃ x4, e = .returned (.int .u8 x4) ∧ yaH [b1] w2 w3 ∧
 al w3 (.cells #[.int .u8 x4] 5) fun b5 w6 =>
 ∃ s7 w8, Sem.run pP (Go.convert 104 9 (.slice (some ⟨b5, 0, none⟩) 1 1)) w6 = .ok (.string s7) w8 ∧ yaH [b1] w6 w8 ∧
 brB B0 (
 Calls pP 56 #[.string a3] w8 fun e w9 => ∃ a4, e = .returned (.string a4) ∧ yaH [b1] w8 w9 ∧
 yx0 s7 a4 fun a5 =>
 brB (!B1) (
 Calls pP 56 #[.string a1] w9 fun e a8 => ∃ a6, e = .returned (.string a6) ∧ yaH [b1] w9 a8 ∧
 yx0 a5 a6 fun b0 =>
 R (.string b0) a8)
 (
 R (.string a5) w9))
 (
 brB (!B1) (
 Calls pP 56 #[.string a1] w8 fun e a9 => ∃ a7, e = .returned (.string a7) ∧ yaH [b1] w8 a9 ∧
 yx0 s7 a7 fun b2 =>
 R (.string b2) a9)
 (
 R (.string s7) w8))) :
 CR pP 121 #[(.agg (Z7 B0 a3 B1 a1))] w R :=
 yaA Tryz.wide_mixed (an := []) Tryz.func121 rfl rfl (by kernel_rfl) rfl (Eq.mpr (by kernel_rfl) h)
theorem yCF {a1 : BA} {a3 : BA} (h :
 ∀ b1, w.heap.size ≤ b1 →
 ∀ w2, Adv [] [b1] w w2 →
 Calls pP 119 #[(.agg (Z7 B0 a1 B1 a3))] w2 fun e w3 => ∃ x4, e = .returned (.int .i64 x4) ∧ yaH [b1] w2 w3 ∧
 brB (x4 != 0) (
 R (.tuple #[(.string (⟨#[]⟩ : BA)), .int .i64 x4]) w3)
 (
 Calls pP 121 #[(.agg (Z7 B0 a1 B1 a3))] w3 fun e w5 => ∃ s6, e = .returned (.string s6) ∧ yaH [b1] w3 w5 ∧
 R (.tuple #[.string s6, .int .i64 0]) w5)) :
 CR pP 81 #[(.agg (Z7 B0 a1 B1 a3))] w R :=
 yaA Tryz.wide_mixed (an := []) Tryz.func81 rfl rfl (by kernel_rfl) rfl (Eq.mpr (by kernel_rfl) h)
theorem yCG (h :
 ∀ w1, Adv [] [] w w1 →
 yaD .i64 w1 A1 fun x2 =>
 Calls pP 52 #[(.int .u64 (IntKind.wrap .u64 x2))] w1 fun e w3 => ∃ s4, e = .returned (.string s4) ∧
 Calls pP 51 #[(.pointer (some A0)), .string s4] w3 fun e w5 => ∃ x6 v7, e = .returned (.tuple #[.int .i64 x6, v7]) ∧
 R (.tuple #[]) w5) :
 CR pP 80 #[(.pointer (some A0)), (.pointer (some A1))] w R :=
 yaA Tryz.wide_mixed (an := []) Tryz.func80 rfl rfl (by kernel_rfl) rfl (Eq.mpr (by kernel_rfl) h)
theorem yCH (h :
 ∀ w1, Adv [] [] w w1 →
 yaY w1 A1 fun s2 =>
 Calls pP 56 #[.string s2] w1 fun e w3 => ∃ s4, e = .returned (.string s4) ∧
 Calls pP 51 #[(.pointer (some A0)), .string s4] w3 fun e w5 => ∃ x6 v7, e = .returned (.tuple #[.int .i64 x6, v7]) ∧
 R (.tuple #[]) w5) :
 CR pP 186 #[(.pointer (some A0)), (.pointer (some A1))] w R :=
 yaA Tryz.wide_mixed (an := []) Tryz.func186 rfl rfl (by kernel_rfl) rfl (Eq.mpr (by kernel_rfl) h)
theorem yCI (h :
 ∀ w1, Adv [] [] w w1 →
 Calls pP 186 #[(.pointer (some A1)), (.pointer (some A0))] w1 fun e w2 => e = .returned (.tuple #[]) ∧
 ∀ w3, Adv [] [] w2 w3 →
 Calls pP 80 #[(.pointer (some A1)), (.pointer (some (Addr.add A0 1)))] w3 fun e w4 => e = .returned (.tuple #[]) ∧
 R (.tuple #[]) w4) :
 CR pP 82 #[(.iface 139 (.pointer (some A1))), (.pointer (some A0))] w R :=
 yaA Tryz.wide_mixed (an := []) Tryz.func82 rfl rfl (by kernel_rfl) rfl (Eq.mpr (by kernel_rfl) h)
def yn0 : LA := ⟨[0, 0, 1, 0, 1, 1, 1], [1, 5, 33, 34, 35], [(1, 0, 0), (5, 1, 0)], 2, [1]⟩
def yn1 : LA := ⟨[0, 0, 1, 0, 1, 1, 1, 1], [1, 5, 43, 44, 45], [(1, 0, 0), (5, 1, 0)], 2, [1]⟩
def yn2 : LA := ⟨[0, 0, 1, 0, 1, 1, 1, 1, 1, 1, 1], [5, 70, 71, 72], [(5, 1, 0)], 3, [1, 2]⟩
def yp3 : List LA := [yn0, yn1, yn2]
abbrev yr9 := dnF pP yp3 (code Tryz.f54)
abbrev yGd := yaW pP yp3 (code Tryz.f54)
abbrev ysA (p : List Nat) (K : List Kh) (R : VWP) := yaW pP yp3 (code Tryz.f54) p K (ybI pP Tryz.f54 [] R)
def yjH (b4 : OA) (b6 b5 bm0 : Nat) (b0 b1 b2 b3 : Int) (a0 : OA) (a6 a3 : Nat) (a1 : OA) (a7 a4 bm1 : Nat) : Int × (Option Addr) × (Option Addr) × Nat × Nat → List Value × List TB := fun (b7, a9, a2, a8, a5) => ([(.pointer (some ⟨bm0, 0, none⟩)), (.pointer (some ⟨bm1, 0, none⟩)), .slice b4 b6 b5, (.int .i64 (5 : Int)), .int .i64 b7], [⟨bm0, 35, [.int .i64 b0, .int .i64 b1, .int .i64 b2, .int .i64 b3, .slice a0 a6 a3, .slice a1 a7 a4], false⟩, ⟨bm1, 141, [.pointer a9, .slice a2 a8 a5], true⟩])
def yjI (b4 : OA) (b6 b5 : Nat) (b7 : Int) (bm0 : Nat) (b0 b1 b2 b3 : Int) (a0 : OA) (a6 a3 : Nat) (a1 : OA) (a7 a4 bm1 : Nat) : Int × (Option Addr) × (Option Addr) × Nat × Nat → List Value × List TB := fun (b8, a9, a2, a8, a5) => ([(.pointer (some ⟨bm0, 0, none⟩)), (.pointer (some ⟨bm1, 0, none⟩)), .slice b4 b6 b5, .int .i64 b7, .int .i64 b8], [⟨bm0, 35, [.int .i64 b0, .int .i64 b1, .int .i64 b2, .int .i64 b3, .slice a0 a6 a3, .slice a1 a7 a4], false⟩, ⟨bm1, 141, [.pointer a9, .slice a2 a8 a5], true⟩])
def yjJ (b5 : OA) (b7 b6 : Nat) (b8 : Int) (bm0 : Nat) (b0 b1 b2 b3 : Int) (a0 : OA) (a6 a3 : Nat) (a1 : OA) (a7 a4 bm1 bm2 : Nat) : Int × (Option Addr) × (Option Addr) × Nat × Nat × Int → List Value × List TB := fun (b9, a9, a2, a8, a5, b4) => ([(.pointer (some ⟨bm1, 0, none⟩)), .slice b5 b7 b6, .int .i64 b8, .int .i64 b9], [⟨bm0, 35, [.int .i64 b0, .int .i64 b1, .int .i64 b2, .int .i64 b3, .slice a0 a6 a3, .slice a1 a7 a4], false⟩, ⟨bm1, 141, [.pointer a9, .slice a2 a8 a5], true⟩, ⟨bm2, 3, [.int .i64 b4], true⟩])
abbrev yAe (b0 : OA) (b2 b1 bm0 : Nat) (a6 a7 a8 a9 : Int) (a0 : OA) (a4 a2 : Nat) (a1 : OA) (a5 a3 bm1 : Nat) (I : Nat → Int → Option Addr → Option Addr → Nat → Nat → World → Prop) (m : Nat) : Kh := KG (yjH b0 b2 b1 bm0 a6 a7 a8 a9 a0 a4 a2 a1 a5 a3 bm1) (U5 I) m
theorem yuE {I : Nat → Int → Option Addr → Option Addr → Nat → Nat → World → Prop} (m' : Nat) (h1 : m' < m) (h2 : I m' i4 q3 q4 n8 n9 w) : KS (yAe q0 n0 n1 n2 i0 i1 i2 i3 q1 n3 n4 q2 n5 n6 n7 I m) (yjH q0 n0 n1 n2 i0 i1 i2 i3 q1 n3 n4 q2 n5 n6 n7 (i4, q3, q4, n8, n9)) w := ⟨m', h1, _, rfl, rfl, h2⟩
theorem yuF {b5 : OA} {a1 : OA} {a7 : OA} {c1 b7 : OA} (I : Nat → Int → Option Addr → Option Addr → Nat → Nat → World → Prop) (m0 : Nat) (h0 : I m0 i4 c1 b7 n8 n9 w0)
 (hr : ∀ m b4 a6 a2 a5 a4 w, I m b4 a6 a2 a5 a4 w →
 w.heap[n7]? = some (.cells #[.pointer a6, .slice a2 a5 a4] 141) →
 brB (decide (b4 < (5 : Int))) (
 ixA b5 n0 b4 1 fun q9 =>
 yaD .i64 w q9 fun d0 =>
 ∀ b8, w.heap.size ≤ b8 →
 ∀ c3, Adv [] [b8] w c3 → c3.heap[n7]? = some (.cells #[.pointer a6, .slice a2 a5 a4] 141) →
 c3.heap[b8]? = some (.cells #[.int .i64 d0] 3) →
 Calls pP 80 #[(.pointer (some ⟨n7, 0, none⟩)), (.pointer (some ⟨b8, 0, none⟩))] c3 fun e c4 => e = .returned (.tuple #[]) ∧ yaZ [n7, b8] [(n2, 35)] [n2] c3 c4 ∧ ∃ c9 c6 c8 c7, c4.heap[n7]? = some (.cells #[.pointer c9, .slice c6 c8 c7] 141) ∧ ∃ d1, c4.heap[b8]? = some (.cells #[.int .i64 d1] 3) ∧
 KS (yAe b5 n0 n1 n2 i0 i1 i2 i3 a1 n3 n4 a7 n5 n6 n7 I m) (yjH b5 n0 n1 n2 i0 i1 i2 i3 a1 n3 n4 a7 n5 n6 n7 ((IntKind.wrap .i64 (b4 + 1)), c9, c6, c8, c7)) c4)
 (
 yaL yn1 (yr9 394 [0, 0, 1, 0, 1, 1, 1, 1]) (ysA [1, 1, 1, 1, 0, 1, 0] [] R) (yjI a1 n3 n4 (n3 : Int) n2 i0 i1 i2 i3 a1 n3 n4 a7 n5 n6 n7 (0, a6, a2, a5, a4)) w)) :
 yaL yn0 (yr9 395 [0, 0, 1, 0, 1, 1, 1]) (ysA [1, 1, 1, 0, 1, 0] [] R) (yjH b5 n0 n1 n2 i0 i1 i2 i3 a1 n3 n4 a7 n5 n6 n7 (i4, c1, b7, n8, n9)) w0 :=
 lrule (yjH b5 n0 n1 n2 i0 i1 i2 i3 a1 n3 n4 a7 n5 n6 n7) (U5 I) h0 (by rintro m ⟨b4, a6, a2, a5, a4⟩ w h; exact ⟨by kernel_rfl, by kernel_rfl, fun js => Eq.mpr (by kernel_rfl) (hr m b4 a6 a2 a5 a4 w h)⟩)
abbrev yAf (b0 : OA) (b2 b1 : Nat) (b3 : Int) (bm0 : Nat) (a6 a7 a8 a9 : Int) (a0 : OA) (a4 a2 : Nat) (a1 : OA) (a5 a3 bm1 : Nat) (I : Nat → Int → Option Addr → Option Addr → Nat → Nat → World → Prop) (m : Nat) : Kh := KG (yjI b0 b2 b1 b3 bm0 a6 a7 a8 a9 a0 a4 a2 a1 a5 a3 bm1) (U5 I) m
theorem yuG {I : Nat → Int → Option Addr → Option Addr → Nat → Nat → World → Prop} (m' : Nat) (h1 : m' < m) (h2 : I m' i5 q3 q4 n8 n9 w) : KS (yAf q0 n0 n1 i0 n2 i1 i2 i3 i4 q1 n3 n4 q2 n5 n6 n7 I m) (yjI q0 n0 n1 i0 n2 i1 i2 i3 i4 q1 n3 n4 q2 n5 n6 n7 (i5, q3, q4, n8, n9)) w := ⟨m', h1, _, rfl, rfl, h2⟩
theorem yuH (I : Nat → Int → Option Addr → Option Addr → Nat → Nat → World → Prop) (m0 : Nat) (h0 : I m0 i5 q3 q4 n8 n9 w0)
 (hr : ∀ m b5 a6 a2 a5 a4 w, I m b5 a6 a2 a5 a4 w →
 w.heap[n7]? = some (.cells #[.pointer a6, .slice a2 a5 a4] 141) →
 brB (decide (b5 < i0)) (
 ixA q0 n0 b5 5 fun c5 =>
 yaD .i64 w c5 fun g8 => ya1 w (Addr.add c5 1) fun g1 => yaY w (Addr.add c5 2) fun f5 => ya1 w (Addr.add c5 3) fun g2 => yaY w (Addr.add c5 4) fun f6 =>
 ∀ b4, w.heap.size ≤ b4 →
 ∀ c6, Adv [] [b4] w c6 → c6.heap[n7]? = some (.cells #[.pointer a6, .slice a2 a5 a4] 141) →
 c6.heap[b4]? = some (.cells (Z4 g8 g1 f5 g2 f6) 101) →
 Calls pP 80 #[(.pointer (some ⟨n7, 0, none⟩)), (.pointer (some ⟨b4, 0, none⟩))] c6 fun e c7 => e = .returned (.tuple #[]) ∧ yaZ [n7, b4] [(n2, 35)] [n2] c6 c7 ∧ ∃ f3 e7 f1 e9, c7.heap[n7]? = some (.cells #[.pointer f3, .slice e7 f1 e9] 141) ∧ ∃ g9 e4 e1 e5 e2, c7.heap[b4]? = some (.cells (Z4 g9 e4 e1 e5 e2) 101) ∧
 Calls pP 81 #[(.agg (Z7 e4 e1 e5 e2))] c7 fun e c8 => ∃ e3 h1, e = .returned (.tuple #[.string e3, .int .i64 h1]) ∧ yaZ [n7, b4] [(n2, 35)] [n2] c7 c8 ∧ ∃ f4 e8 f2 f0, c8.heap[n7]? = some (.cells #[.pointer f4, .slice e8 f2 f0] 141) ∧ ∃ h2 g3 f7 g4 f8, c8.heap[b4]? = some (.cells (Z4 h2 g3 f7 g4 f8) 101) ∧
 Calls pP 51 #[(.pointer (some ⟨n7, 0, none⟩)), .string e3] c8 fun e d0 => ∃ h3 g7, e = .returned (.tuple #[.int .i64 h3, g7]) ∧ yaZ [n7, b4] [(n2, 35)] [n2] c8 d0 ∧ ∃ d9 d3 d7 d5, d0.heap[n7]? = some (.cells #[.pointer d9, .slice d3 d7 d5] 141) ∧ ∃ h4 g5 f9 g6 g0, d0.heap[b4]? = some (.cells (Z4 h4 g5 f9 g6 g0) 101) ∧
 KS (yAf q0 n0 n1 i0 n2 i1 i2 i3 i4 q1 n3 n4 q2 n5 n6 n7 I m) (yjI q0 n0 n1 i0 n2 i1 i2 i3 i4 q1 n3 n4 q2 n5 n6 n7 ((IntKind.wrap .i64 (b5 + 1)), d9, d3, d7, d5)) d0)
 (
 ∀ b7, w.heap.size ≤ b7 →
 ∀ c9, Adv [] [b7] w c9 → c9.heap[n7]? = some (.cells #[.pointer a6, .slice a2 a5 a4] 141) →
 c9.heap[b7]? = some (.cells #[(.int .i64 (n5 : Int))] 3) →
 Calls pP 80 #[(.pointer (some ⟨n7, 0, none⟩)), (.pointer (some ⟨b7, 0, none⟩))] c9 fun e d1 => e = .returned (.tuple #[]) ∧ yaZ [n7, b7] [(n2, 35)] [n2] c9 d1 ∧ ∃ e0 d4 d8 d6, d1.heap[n7]? = some (.cells #[.pointer e0, .slice d4 d8 d6] 141) ∧ ∃ e6, d1.heap[b7]? = some (.cells #[.int .i64 e6] 3) ∧
 yaL yn2 (yr9 391 [0, 0, 1, 0, 1, 1, 1, 1, 1, 1, 1]) (ysA [1, 1, 1, 1, 1, 1, 1, 0, 1, 0] [] R) (yjJ q2 n5 n6 (n5 : Int) n2 i1 i2 i3 i4 q1 n3 n4 q2 n5 n6 n7 b7 (0, e0, d4, d8, d6, e6)) d1)) :
 yaL yn1 (yr9 394 [0, 0, 1, 0, 1, 1, 1, 1]) (ysA [1, 1, 1, 1, 0, 1, 0] [] R) (yjI q0 n0 n1 i0 n2 i1 i2 i3 i4 q1 n3 n4 q2 n5 n6 n7 (i5, q3, q4, n8, n9)) w0 :=
 lrule (yjI q0 n0 n1 i0 n2 i1 i2 i3 i4 q1 n3 n4 q2 n5 n6 n7) (U5 I) h0 (by rintro m ⟨b5, a6, a2, a5, a4⟩ w h; exact ⟨by kernel_rfl, by kernel_rfl, fun js => Eq.mpr (by kernel_rfl) (hr m b5 a6 a2 a5 a4 w h)⟩)
abbrev yAg (b0 : OA) (b2 b1 : Nat) (b3 : Int) (bm0 : Nat) (a6 a7 a8 a9 : Int) (a0 : OA) (a4 a2 : Nat) (a1 : OA) (a5 a3 bm1 bm2 : Nat) (I : Nat → Int → Option Addr → Option Addr → Nat → Nat → Int → World → Prop) (m : Nat) : Kh := KG (yjJ b0 b2 b1 b3 bm0 a6 a7 a8 a9 a0 a4 a2 a1 a5 a3 bm1 bm2) (U6 I) m
theorem yuI {I : Nat → Int → Option Addr → Option Addr → Nat → Nat → Int → World → Prop} (m' : Nat) (h1 : m' < m) (h2 : I m' i5 q3 q4 n9 o0 i6 w) : KS (yAg q0 n0 n1 i0 n2 i1 i2 i3 i4 q1 n3 n4 q2 n5 n6 n7 n8 I m) (yjJ q0 n0 n1 i0 n2 i1 i2 i3 i4 q1 n3 n4 q2 n5 n6 n7 n8 (i5, q3, q4, n9, o0, i6)) w := ⟨m', h1, _, rfl, rfl, h2⟩
theorem yuJ (I : Nat → Int → Option Addr → Option Addr → Nat → Nat → Int → World → Prop) (m0 : Nat) (h0 : I m0 i5 q3 q4 n9 o0 i6 w0)
 (hr : ∀ m b5 a3 a0 a2 a1 a4 w, I m b5 a3 a0 a2 a1 a4 w →
 w.heap[n7]? = some (.cells #[.pointer a3, .slice a0 a2 a1] 141) →
 w.heap[n8]? = some (.cells #[.int .i64 a4] 3) →
 brB (decide (b5 < i0)) (
 ixA q0 n0 b5 2 fun d4 =>
 yaY w d4 fun e1 => yaD .i64 w (Addr.add d4 1) fun e3 =>
 ∀ c0, w.heap.size ≤ c0 →
 ∀ c4, Adv [] [c0] w c4 → c4.heap[n7]? = some (.cells #[.pointer a3, .slice a0 a2 a1] 141) →
 c4.heap[n8]? = some (.cells #[.int .i64 a4] 3) →
 c4.heap[c0]? = some (.cells #[.string e1, .int .i64 e3] 42) →
 Calls pP 82 #[(.iface 139 (.pointer (some ⟨n7, 0, none⟩))), (.pointer (some ⟨c0, 0, none⟩))] c4 fun e c7 => e = .returned (.tuple #[]) ∧ yaZ [n7, n8, c0] [(n2, 35)] [n2] c4 c7 ∧ ∃ d3 d0 d2 d1, c7.heap[n7]? = some (.cells #[.pointer d3, .slice d0 d2 d1] 141) ∧ ∃ d6, c7.heap[n8]? = some (.cells #[.int .i64 d6] 3) ∧ ∃ e2 e4, c7.heap[c0]? = some (.cells #[.string e2, .int .i64 e4] 42) ∧
 KS (yAg q0 n0 n1 i0 n2 i1 i2 i3 i4 q1 n3 n4 q2 n5 n6 n7 n8 I m) (yjJ q0 n0 n1 i0 n2 i1 i2 i3 i4 q1 n3 n4 q2 n5 n6 n7 n8 ((IntKind.wrap .i64 (b5 + 1)), d3, d0, d2, d1, d6)) c7)
 (
 Calls pP 55 #[(.pointer (some ⟨n7, 0, none⟩))] w fun e c8 => ∃ d5, e = .returned (.string d5) ∧ yaZ [n7, n8] [(n2, 35)] [n2] w c8 ∧ ∃ e0 d7 d9 d8, c8.heap[n7]? = some (.cells #[.pointer e0, .slice d7 d9 d8] 141) ∧ ∃ e5, c8.heap[n8]? = some (.cells #[.int .i64 e5] 3) ∧
 R (.tuple #[.string d5, .int .i64 0]) c8)) :
 yaL yn2 (yr9 391 [0, 0, 1, 0, 1, 1, 1, 1, 1, 1, 1]) (ysA [1, 1, 1, 1, 1, 1, 1, 0, 1, 0] [] R) (yjJ q0 n0 n1 i0 n2 i1 i2 i3 i4 q1 n3 n4 q2 n5 n6 n7 n8 (i5, q3, q4, n9, o0, i6)) w0 :=
 lrule (yjJ q0 n0 n1 i0 n2 i1 i2 i3 i4 q1 n3 n4 q2 n5 n6 n7 n8) (U6 I) h0 (by rintro m ⟨b5, a3, a0, a2, a1, a4⟩ w h; exact ⟨by kernel_rfl, by kernel_rfl, fun js => Eq.mpr (by kernel_rfl) (hr m b5 a3 a0 a2 a1 a4 w h)⟩)
theorem yCJ (h :
 ∀ b1, w.heap.size ≤ b1 →
 ∀ w2, Adv [] [b1] w w2 →
 Calls pP 79 #[(.agg (Z3 i0 i1 i2 i3 q0 n0 n1 q1 n2 n3))] w2 fun e w3 => ∃ x4, e = .returned (.int .i64 x4) ∧ yaH [b1] w2 w3 ∧
 brB (x4 != 0) (
 R (.tuple #[(.string (⟨#[]⟩ : BA)), .int .i64 x4]) w3)
 (
 ∀ b5, w3.heap.size ≤ b5 →
 ∀ w6, Adv [] [b5] w3 w6 →
 al w6 (.cells #[.int .i64 i0, .int .i64 i1, .int .i64 i2, .int .i64 i3, (.int .i64 (n0 : Int))] 3) fun b7 w8 =>
 ∀ b0, Adv [] [] w8 b0 → b0.heap[b5]? = some (.cells #[.pointer none, .slice none 0 0] 141) →
 yaL yn0 (yr9 395 [0, 0, 1, 0, 1, 1, 1]) (ysA [1, 1, 1, 0, 1, 0] [] R) (yjH (some ⟨b7, 0, none⟩) 5 5 b1 i0 i1 i2 i3 q0 n0 n1 q1 n2 n3 b5 (0, none, none, 0, 0)) b0)) :
 CR pP 54 #[(.agg (Z3 i0 i1 i2 i3 q0 n0 n1 q1 n2 n3))] w R :=
 yaA Tryz.wide_mixed (an := yp3) Tryz.func54 rfl rfl (by kernel_rfl) rfl (Eq.mpr (by kernel_rfl) h)
end
def bs (l : List UInt8) : ByteArray := ⟨l.toArray⟩
theorem yaK (l : List UInt8) : (bs l).size = l.length := by simp [bs, ByteArray.size]
theorem ymO (a : List UInt8) (s : ByteArray) : bs a ++ s = bs (a ++ s.data.toList) := by
 apply ByteArray.ext
 simp [bs, ByteArray.data_append]
theorem ygY (a b : List UInt8) : bs a ++ bs b = bs (a ++ b) := by rw [ymO]; simp [bs]
theorem yaO (n : Nat) (hn : n < 18446744073709551616) : 1 ≤ (yaM n).length ∧ (yaM n).length ≤ 10 := by
 have := yeW 9 n (by omega)
 simp [yaM]; omega
def ybU (s : ByteArray) : List UInt8 := yaM s.size ++ s.data.toList
theorem ya4 (s : ByteArray) (hs : s.size ≤ 4611686018427387904) : 1 ≤ (ybU s).length ∧ (ybU s).length ≤ s.size + 10 := by
 have h := yaO s.size (by omega)
 have e : (ybU s).length = (yaM s.size).length + s.size := by rw [ybU, List.length_append, Array.length_toList]; rfl
 omega
theorem yg6 {n : Nat} (hn : n < 18446744073709551616) : IntKind.wrap .u64 (n : Int) = (n : Int) := by rw [IntKind.wrap_u64]; omega
theorem yb4 (s : ByteArray) (hs : s.size ≤ 4611686018427387904) (w : World) : Calls pP 56 #[.string s] w fun e w' => e = .returned (.string (bs (ybU s))) ∧ Mod [] w w' := by
 refine yaS (yFQ ?_)
 rw [yg6 (by omega)]
 refine (yh8 s.size (by omega) w).mono ?_
 rintro e w1 ⟨rfl, M1⟩
 have h2 := yt4 s.size (by omega)
 exact ⟨_, rfl, by omega, congrArg Value.string (ymO _ _), M1⟩
def yg7 (r : PRec) : UInt8 := if r.tomb then 3 else if r.hk then 1 else 0
theorem yBg (r : PRec) (w : World) : Calls pP 147 #[r.v] w fun e w' => e = .returned (.int .u8 ((yg7 r).toNat : Int)) ∧ Mod [] w w' := by
 obtain ⟨hk, key, tomb, val⟩ := r
 refine yaS (yFH ?_)
 intro b1 f1
 refine yaB (fun h => ?_) fun h => ?_
 ·intro w1 A1; subst h; exact ⟨rfl, A1.mod⟩
 ·subst h
  refine yaB (fun h => ?_) fun h => ?_
  ·intro w1 A1; subst h; exact ⟨rfl, A1.mod⟩
  ·intro w1 A1; subst h; exact ⟨rfl, A1.mod⟩
def ygZ (r : PRec) : List UInt8 := [yg7 r] ++ (if r.hk then ybU r.key else []) ++ (if r.tomb then [] else ybU r.val)
theorem ygG {r : PRec} (h : yg5 r = 0) : r.key.size ≤ 64 ∧ r.val.size ≤ 512 := by
 unfold yg5 yFr at h
 split at h
 ·omega
 ·split at h <;> omega
theorem yuK (r : PRec) (hr : yg5 r = 0) (w : World) : Calls pP 121 #[r.v] w fun e w' => e = .returned (.string (bs (ygZ r))) ∧ Mod [] w w' := by
 obtain ⟨hk, vs⟩ := ygG hr
 refine yaS (yCE ?_)
 intro b1 f1 w1 A1
 refine (yBg r w1).mono ?_
 rintro e w2 ⟨rfl, M2⟩
 refine ⟨_, rfl, yaH.of0 M2, ?_⟩
 have N2 := A1.mod.go0 M2 (by simp)
 refine ycS fun b3 w3 c3 M3 f3 => ?_
 have N3 := N2.go0 M3 (by simp)
 have hcv := run_convert_bytes_back (P := pP) w3 104 9 5 ⟨b3, 0, none⟩ 1 [yg7 r] Tryz.underlying104 Tryz.underlying5 Tryz.underlying9 fun j hj => by
  simp at hj; subst hj
  rw [ya0, yaU c3]; rfl
 refine ⟨_, _, hcv, yaH.of0 (Mod.refl _), ?_⟩
 obtain ⟨h1, key, h3, val⟩ := r
 have e0 : (⟨[yg7 ⟨h1, key, h3, val⟩].toArray⟩ : ByteArray) = bs [yg7 ⟨h1, key, h3, val⟩] := rfl
 rw [e0]
 simp only at hk vs
 have l1 : (ybU key).length ≤ 74 := by have := ya4 key (by omega); omega
 have l2 : (ybU val).length ≤ 522 := by have := ya4 val (by omega); omega
 refine yaB (fun g1 => ?_) fun g1 => ?_
 ·subst g1
  refine (yb4 key (by omega) w3).mono ?_
  rintro e w4 ⟨rfl, M4⟩
  refine ⟨_, rfl, yaH.of0 M4, by simp only [yaK]; simp; omega, ?_⟩
  rw [ygY]
  refine yaB (fun g2 => ?_) fun g2 => ?_
  ·have g2 : h3 = false := yBf g2
   subst g2
   refine (yb4 val (by omega) w4).mono ?_
   rintro e w5 ⟨rfl, M5⟩
   refine ⟨_, rfl, yaH.of0 M5, by simp only [yaK]; simp; omega, ?_⟩
   exact ⟨by rw [ygY]; simp [ygZ], (N3.go0 M4 (by simp)).go0 M5 (by simp)⟩
  ·have g2 : h3 = true := yAd g2
   subst g2
   exact ⟨by simp [ygZ], N3.go0 M4 (by simp)⟩
 ·subst g1
  refine yaB (fun g2 => ?_) fun g2 => ?_
  ·have g2 : h3 = false := yBf g2
   subst g2
   refine (yb4 val (by omega) w3).mono ?_
   rintro e w5 ⟨rfl, M5⟩
   refine ⟨_, rfl, yaH.of0 M5, by simp only [yaK]; simp; omega, ?_⟩
   exact ⟨by rw [ygY]; simp [ygZ], N3.go0 M5 (by simp)⟩
  ·have g2 : h3 = true := yAd g2
   subst g2
   exact ⟨by simp [ygZ], N3⟩
theorem yhK {r : PRec} (hr : yg5 r = 0) : (ygZ r).length ≤ 600 := by
 obtain ⟨hk, vs⟩ := ygG hr
 have l1 : (ybU r.key).length ≤ 74 := by have := ya4 r.key (by omega); omega
 have l2 : (ybU r.val).length ≤ 522 := by have := ya4 r.val (by omega); omega
 unfold ygZ
 split <;> split <;> simp <;> omega
theorem yuL (r : PRec) (w : World) : Calls pP 81 #[r.v] w fun e w' => e = .returned (.tuple #[.string (if yg5 r = 0 then bs (ygZ r) else bs []), .int .i64 (yg5 r)]) ∧ Mod [] w w' := by
 refine yaS (yCF ?_)
 intro b1 f1 w1 A1
 refine (yd4 r w1).mono ?_
 rintro e w2 ⟨rfl, M2⟩
 refine ⟨_, rfl, yaH.of0 M2, ?_⟩
 have N2 := A1.mod.go0 M2 (by simp)
 refine yaB (fun g1 => ?_) fun g1 => ?_
 ·have g : ¬ yg5 r = 0 := by simpa using g1
  rw [if_neg g]; exact ⟨rfl, N2⟩
 ·have g : yg5 r = 0 := by simpa using g1
  refine (yuK r g w2).mono ?_
  rintro e w3 ⟨rfl, M3⟩
  refine ⟨_, rfl, yaH.of0 M3, ?_, N2.go0 M3 (by simp)⟩
  rw [if_pos g, g]
theorem BTw : BT 141 := ⟨by kernel_rfl, by decide⟩
abbrev Bd (B b : Nat) (l : List UInt8) (w : World) : Prop := Lib.IsBuilderF 141 5 B b (Lib.byteCells l) w
structure Wr (B b : Nat) (w w' : World) : Prop where
 bel : Below B w w'
 oth : Lib.OthersKept 5 (some b) w w'
theorem Wr.of0 {B b : Nat} {w w' : World} (M : Mod [] w w') (hB : B ≤ w.heap.size) : Wr B b w w' :=
 ⟨⟨M.os, M.tape, M.output, M.size, fun k hk => M.block k (by omega) (by simp)⟩, fun k o hk _ _ => M.keep0 hk⟩
theorem Wr.trans {B b : Nat} {x y z : World} (h : Wr B b x y) (k : Wr B b y z) : Wr B b x z := ⟨h.bel.trans k.bel, h.oth.trans k.oth⟩
theorem Bd.keep0 {B b : Nat} {l : List UInt8} {w w' : World} (h : Bd B b l w) (M : Mod [] w w') : Bd B b l w' := by
 have one : ∀ {p bs}, Lib.BuilderAtF 141 5 B b p bs w → Lib.BuilderAtF 141 5 B b p bs w' := by
  rintro p bs ⟨hB, v, hb, ⟨hl, ho⟩, hne⟩
  refine ⟨hB, v, M.keep0 hb, ⟨hl, ?_⟩, hne⟩
  rcases ho with ho | ⟨g, cap, cur, fz, hv, hg, hh, r⟩
  ·exact .inl ho
  ·exact .inr ⟨g, cap, cur, fz, hv, hg, M.keep0 hh, r⟩
 exact h.elim (fun x => .inl (one x)) (fun x => .inr (one x))
theorem Bd.lt {B b : Nat} {l : List UInt8} {w : World} (h : Bd B b l w) : B ≤ b ∧ b < w.heap.size := h.elim (fun x => ⟨x.1, x.lt⟩) (fun x => ⟨x.1, x.lt⟩)
theorem Bd.cells {B b : Nat} {l : List UInt8} {w : World} (h : Bd B b l w) : ∃ (p a : Option Addr) (n c : Nat), w.heap[b]? = some (.cells #[.pointer p, .slice a n c] 141) := by
 have one : ∀ {p bs}, Lib.BuilderAtF 141 5 B b (.pointer p) bs w → ∃ (p a : Option Addr) (n c : Nat), w.heap[b]? = some (.cells #[.pointer p, .slice a n c] 141) := by
  rintro p bs ⟨hB, v, hb, ⟨hl, ho⟩, hne⟩
  rcases ho with ⟨rfl, _⟩ | ⟨g, cap, cur, fz, rfl, hg, hh, r⟩
  ·exact ⟨_, _, _, _, hb⟩
  ·exact ⟨_, _, _, _, hb⟩
 exact h.elim one one
theorem yyU {B b : Nat} {l l2 : List UInt8} {w : World} (h : Bd B b l w) (hlen : l.length + l2.length ≤ 100000000000) (hB : B ≤ w.heap.size) :
  Calls pP 51 #[.pointer (some ⟨b, 0, none⟩), .string (bs l2)] w fun e w' => e = .returned (.tuple #[.int .i64 ((bs l2).size : Nat), .nilIface]) ∧ (Bd B b (l ++ l2) w' ∧ Wr B b w w') := by
 refine (ye9 BTw B b (Lib.byteCells l) (bs l2) w h (by rw [Lib.byteCells_length, yaK]; omega) hB).mono ?_
 rintro e w' ⟨rfl, h1, h2, h3⟩
 refine ⟨rfl, .inr ?_, ⟨h2, h3⟩⟩
 have e : Lib.byteCells (l ++ l2) = Lib.byteCells l ++ Lib.strCells (bs l2) := by simp [Lib.byteCells, Lib.strCells, bs]
 rw [e]; exact h1
theorem yfI {B b : Nat} {l : List UInt8} {w : World} {a : Addr} {x : Nat} (h : Bd B b l w) (hlen : l.length ≤ 10000000000) (hB : B ≤ w.heap.size) (ha : w.cell? a = some (.int .i64 (x : Nat))) (hx : x < 9223372036854775808) :
  Calls pP 80 #[.pointer (some ⟨b, 0, none⟩), .pointer (some a)] w fun e w' => e = .returned (.tuple #[]) ∧ (Bd B b (l ++ yaM x) w' ∧ Wr B b w w') := by
 refine yaS (yCG ?_)
 intro w1 A1
 refine yaE (A1.mod.cell0 ha) ?_
 rw [yg6 (by omega)]
 refine (yh8 x (by omega) w1).mono ?_
 rintro e w2 ⟨rfl, M2⟩
 have N2 := A1.mod.go0 M2 (by simp)
 have s2 := N2.size
 have := yaO x (by omega)
 refine ⟨_, rfl, (yyU (h.keep0 N2) (l2 := yaM x) (by omega) (by omega)).mono ?_⟩
 rintro e w3 ⟨rfl, h3, W3⟩
 exact ⟨_, _, rfl, rfl, h3, (Wr.of0 N2 hB).trans W3⟩
theorem ylA {B b : Nat} {l : List UInt8} {w : World} {a : Addr} {s : ByteArray} (h : Bd B b l w) (hlen : l.length ≤ 10000000000) (hB : B ≤ w.heap.size) (ha : w.cell? a = some (.string s)) (hs : s.size ≤ 1000000000) :
  Calls pP 186 #[.pointer (some ⟨b, 0, none⟩), .pointer (some a)] w fun e w' => e = .returned (.tuple #[]) ∧ (Bd B b (l ++ ybU s) w' ∧ Wr B b w w') := by
 refine yaS (yCH ?_)
 intro w1 A1
 refine yaI (A1.mod.cell0 ha) ?_
 refine (yb4 s (by omega) w1).mono ?_
 rintro e w2 ⟨rfl, M2⟩
 have N2 := A1.mod.go0 M2 (by simp)
 have s2 := N2.size
 have l2 : (ybU s).length ≤ 1000000010 := by have := ya4 s (by omega); omega
 refine ⟨_, rfl, (yyU (h.keep0 N2) (l2 := ybU s) (by omega) (by omega)).mono ?_⟩
 rintro e w3 ⟨rfl, h3, W3⟩
 exact ⟨_, _, rfl, rfl, h3, (Wr.of0 N2 hB).trans W3⟩
section
set_option maxRecDepth 100000
variable {R : VWP} {w w0 : World} {m : Nat} {i0 i1 i2 i3 i4 i5 i6 i7 i8 i9 j0 j1 j2 j3 j4 j5 j6 j7 j8 j9 k0 k1 k2 k3 k4 k5 k6 k7 k8 k9 l0 l1 l2 l3 l4 l5 l6 l7 l8 l9 : Int} {s0 s1 s2 s3 s4 s5 s6 s7 s8 s9 t0 t1 t2 t3 t4 t5 t6 t7 t8 t9 : BA} {n0 n1 n2 n3 n4 n5 n6 n7 n8 n9 o0 o1 o2 o3 o4 o5 o6 o7 o8 o9 p0 p1 p2 p3 p4 p5 p6 p7 p8 p9 : Nat} {q0 q1 q2 q3 q4 q5 q6 q7 q8 q9 r0 r1 r2 r3 r4 r5 r6 r7 r8 r9 : OA} {B0 B1 B2 B3 B4 B5 B6 B7 B8 B9 : Bool} {M0 M1 M2 M3 : Option Nat} {V0 V1 V2 V3 V4 V5 : Value} {A0 A1 A2 : Addr}
theorem yCK (h :
 brB (i1 == 9) (
 brB (decide (i0 > 1)) (
 R (.bool true) w)
 (
 brB (decide (i1 > 0)) (
 R (.bool (i0 == 0)) w)
 (
 R (.bool false) w)))
 (
 brB (decide (i1 > 0)) (
 R (.bool (i0 == 0)) w)
 (
 R (.bool false) w))) :
 CR pP 123 #[.int .u8 i0, .int .i64 i1] w R :=
 yaA Tryz.wide_mixed (an := []) Tryz.func123 rfl rfl (by kernel_rfl) rfl (Eq.mpr (by kernel_rfl) h)
def yn3 : LA := ⟨[0, 0, 1, 1, 1, 1], [0, 1, 7, 8], [], 0, []⟩
def yp4 : List LA := [yn3]
abbrev yCL := dnF pP yp4 (code Tryz.f86)
abbrev yGe := yaW pP yp4 (code Tryz.f86)
abbrev yCM (p : List Nat) (K : List Kh) (R : VWP) := yaW pP yp4 (code Tryz.f86) p K (ybI pP Tryz.f86 [] R)
def yjK (a0 : BA) (a1 : Int) : Int × Int → List Value × List TB := fun (a2, a3) => ([.string a0, .int .i64 a1, .int .u64 a2, .int .i64 a3], [])
abbrev yAh (a0 : BA) (a1 : Int) (I : Nat → Int → Int → World → Prop) (m : Nat) : Kh := KG (yjK a0 a1) (U2 I) m
theorem yuM {I : Nat → Int → Int → World → Prop} (m' : Nat) (h1 : m' < m) (h2 : I m' i1 i2 w) : KS (yAh s0 i0 I m) (yjK s0 i0 (i1, i2)) w := ⟨m', h1, _, rfl, rfl, h2⟩
theorem yuN {a2 : BA} (I : Nat → Int → Int → World → Prop) (m0 : Nat) (h0 : I m0 i1 i2 w0)
 (hr : ∀ m a3 a0 w, I m a3 a0 w →
 brB (decide ((IntKind.wrap .i64 (i0 + a0)) ≥ (a2.size : Int))) (
 R (.tuple #[.int .u64 0, .int .i64 0, .int .i64 10]) w)
 (
 ixS a2 (IntKind.wrap .i64 (i0 + a0)) fun x1 =>
 Calls pP 123 #[.int .u8 x1, .int .i64 a0] w fun e w2 => ∃ t3, e = .returned (.bool t3) ∧
 brB t3 (
 R (.tuple #[.int .u64 0, .int .i64 0, .int .i64 11]) w2)
 (nn (IntKind.wrap .i64 (7 * a0)) (
 brB (decide (x1 < 128)) (
 R (.tuple #[(.int .u64 (bOr .u64 a3 (IntKind.wrap .u64 ((IntKind.wrap .u64 (yiV .u8 x1 127)) * 2 ^ (min (Int.toNat (IntKind.wrap .i64 (7 * a0))) 64))))), (.int .i64 (IntKind.wrap .i64 ((IntKind.wrap .i64 (i0 + a0)) + 1))), .int .i64 0]) w2)
 (
 KS (yAh a2 i0 I m) (yjK a2 i0 ((bOr .u64 a3 (IntKind.wrap .u64 ((IntKind.wrap .u64 (yiV .u8 x1 127)) * 2 ^ (min (Int.toNat (IntKind.wrap .i64 (7 * a0))) 64)))), (IntKind.wrap .i64 (a0 + 1)))) w2))))) :
 yaL yn3 (yCL 395 [0, 0, 1, 1, 1, 1]) (yCM [1, 1, 1, 1, 0] [] R) (yjK a2 i0 (i1, i2)) w0 :=
 lrule (yjK a2 i0) (U2 I) h0 (by rintro m ⟨a3, a0⟩ w h; exact ⟨by kernel_rfl, by kernel_rfl, fun js => Eq.mpr (by kernel_rfl) (hr m a3 a0 w h)⟩)
theorem yCN (h :
 brB (decide (i0 < 0)) (
 R (.tuple #[.int .u64 0, .int .i64 0, .int .i64 1]) w)
 (
 brB (decide (i0 > (s0.size : Int))) (
 R (.tuple #[.int .u64 0, .int .i64 0, .int .i64 1]) w)
 (
 yaL yn3 (yCL 395 [0, 0, 1, 1, 1, 1]) (yCM [1, 1, 1, 1, 0] [] R) (yjK s0 i0 (0, 0)) w))) :
 CR pP 86 #[.string s0, .int .i64 i0] w R :=
 yaA Tryz.wide_mixed (an := yp4) Tryz.func86 rfl rfl (by kernel_rfl) rfl (Eq.mpr (by kernel_rfl) h)
theorem yCO {a1 : BA} (h :
 Calls pP 86 #[.string a1, .int .i64 i0] w fun e w1 => ∃ x2 x3 x4, e = .returned (.tuple #[.int .u64 x2, .int .i64 x3, .int .i64 x4]) ∧
 brB (x4 != 0) (
 R (.tuple (Z2 (⟨#[]⟩ : BA) 0 x4)) w1)
 (
 brB (decide (i1 < 0)) (
 R (.tuple (Z2 (⟨#[]⟩ : BA) 0 2)) w1)
 (
 brB (decide (x2 > (IntKind.wrap .u64 i1))) (
 R (.tuple (Z2 (⟨#[]⟩ : BA) 0 2)) w1)
 (
 brB (decide (x2 > (IntKind.wrap .u64 (IntKind.wrap .i64 ((a1.size : Int) - x3))))) (
 R (.tuple (Z2 (⟨#[]⟩ : BA) 0 10)) w1)
 (
 slS a1 x3 (IntKind.wrap .i64 (x3 + (IntKind.wrap .i64 x2))) fun s5 =>
 R (.tuple (Z2 s5 (IntKind.wrap .i64 (x3 + (IntKind.wrap .i64 x2))) 0)) w1))))) :
 CR pP 85 (Z2 a1 i0 i1) w R :=
 yaA Tryz.wide_mixed (an := []) Tryz.func85 rfl rfl (by kernel_rfl) rfl (Eq.mpr (by kernel_rfl) h)
def yn4 : LA := ⟨[0, 0, 1, 0, 1], [0, 3], [], 0, []⟩
def yp5 : List LA := [yn4]
abbrev yCP := dnF pP yp5 (code Tryz.f161)
abbrev yGf := yaW pP yp5 (code Tryz.f161)
abbrev yCQ (p : List Nat) (K : List Kh) (R : VWP) := yaW pP yp5 (code Tryz.f161) p K (ybI pP Tryz.f161 [] R)
def yjL : Int × Int → List Value × List TB := fun (a0, a1) => ([.int .u32 a0, .int .i64 a1], [])
abbrev yAi (I : Nat → Int → Int → World → Prop) (m : Nat) : Kh := KG (yjL) (U2 I) m
theorem yuO {I : Nat → Int → Int → World → Prop} (m' : Nat) (h1 : m' < m) (h2 : I m' i0 i1 w) : KS (yAi I m) (yjL (i0, i1)) w := ⟨m', h1, _, rfl, rfl, h2⟩
theorem yuP (I : Nat → Int → Int → World → Prop) (m0 : Nat) (h0 : I m0 i0 i1 w0)
 (hr : ∀ m a0 a1 w, I m a0 a1 w →
 brB (decide (a1 < 4)) (nn 1 (
 KS (yAi I m) (yjL ((yeJ .u32 (Int.fdiv a0 (2 ^ (min (Int.toNat 1) 32))) (yiV .u32 3988292384 (IntKind.wrap .u32 (0 - (yiV .u32 a0 1))))), (IntKind.wrap .i64 (a1 + 1)))) w))
 (
 R (.int .u32 a0) w)) :
 yaL yn4 (yCP 397 [0, 0, 1, 0, 1]) (yCQ [1, 0, 1, 0] [] R) (yjL (i0, i1)) w0 :=
 lrule (yjL) (U2 I) h0 (by rintro m ⟨a0, a1⟩ w h; exact ⟨by kernel_rfl, by kernel_rfl, fun js => Eq.mpr (by kernel_rfl) (hr m a0 a1 w h)⟩)
theorem yCR (h :
 yaL yn4 (yCP 397 [0, 0, 1, 0, 1]) (yCQ [1, 0, 1, 0] [] R) (yjL (i0, 0)) w) :
 CR pP 161 #[.int .u32 i0] w R :=
 yaA Tryz.wide_mixed (an := yp5) Tryz.func161 rfl rfl (by kernel_rfl) rfl (Eq.mpr (by kernel_rfl) h)
def yn5 : LA := ⟨[0, 0, 1, 0, 1, 1, 1], [0, 1, 2, 4], [(0, 0, 0), (1, 1, 0)], 2, [1]⟩
def yp6 : List LA := [yn5]
abbrev yCS := dnF pP yp6 (code Tryz.f148)
abbrev yGg := yaW pP yp6 (code Tryz.f148)
abbrev yCT (p : List Nat) (K : List Kh) (R : VWP) := yaW pP yp6 (code Tryz.f148) p K (ybI pP Tryz.f148 [] R)
def yjM (bm0 bm1 : Nat) : Int × Int × Int × Int × Int × Int × Int × Int × Int × Int × Int × Int × Int × Int × Int × Int × Int → List Value × List TB := fun (b6, a6, a7, a8, a9, b0, b1, b2, b3, b4, b5, a0, a1, a2, a3, a4, a5) => ([(.pointer (some ⟨bm0, 0, none⟩)), (.pointer (some ⟨bm1, 0, none⟩)), (.func (.func 161) #[] #[]), .int .i64 b6], [⟨bm0, 216, [.int .u32 0, .int .u32 0, .int .u32 0, .int .u32 0, .int .u32 0, .int .u32 0, .int .u32 0, .int .u32 0, .int .u32 0, .int .u32 0, .int .u32 0, .int .u32 0, .int .u32 0, .int .u32 0, .int .u32 0, .int .u32 0], false⟩, ⟨bm1, 216, [.int .u32 a6, .int .u32 a7, .int .u32 a8, .int .u32 a9, .int .u32 b0, .int .u32 b1, .int .u32 b2, .int .u32 b3, .int .u32 b4, .int .u32 b5, .int .u32 a0, .int .u32 a1, .int .u32 a2, .int .u32 a3, .int .u32 a4, .int .u32 a5], true⟩])
abbrev yAj (bm0 bm1 : Nat) (I : Nat → Int → Int → Int → Int → Int → Int → Int → Int → Int → Int → Int → Int → Int → Int → Int → Int → Int → World → Prop) (m : Nat) : Kh := KG (yjM bm0 bm1) (U17 I) m
theorem ya6 {I : Nat → Int → Int → Int → Int → Int → Int → Int → Int → Int → Int → Int → Int → Int → Int → Int → Int → Int → World → Prop} (m' : Nat) (h1 : m' < m) (h2 : I m' i0 i1 i2 i3 i4 i5 i6 i7 i8 i9 j0 j1 j2 j3 j4 j5 j6 w) : KS (yAj n0 n1 I m) (yjM n0 n1 (i0, i1, i2, i3, i4, i5, i6, i7, i8, i9, j0, j1, j2, j3, j4, j5, j6)) w := ⟨m', h1, _, rfl, rfl, h2⟩
theorem yuQ (I : Nat → Int → Int → Int → Int → Int → Int → Int → Int → Int → Int → Int → Int → Int → Int → Int → Int → Int → World → Prop) (m0 : Nat) (h0 : I m0 i0 i1 i2 i3 i4 i5 i6 i7 i8 i9 j0 j1 j2 j3 j4 j5 j6 w0)
 (hr : ∀ m b6 a6 a7 a8 a9 b0 b1 b2 b3 b4 b5 i2 a1 a2 a3 a4 a5 w, I m b6 a6 a7 a8 a9 b0 b1 b2 b3 b4 b5 i2 a1 a2 a3 a4 a5 w →
 w.heap[n1]? = some (.cells #[.int .u32 a6, .int .u32 a7, .int .u32 a8, .int .u32 a9, .int .u32 b0, .int .u32 b1, .int .u32 b2, .int .u32 b3, .int .u32 b4, .int .u32 b5, .int .u32 i2, .int .u32 a1, .int .u32 a2, .int .u32 a3, .int .u32 a4, .int .u32 a5] 216) →
 brB (decide (b6 < 16)) (
 Calls pP 161 #[(.int .u32 (IntKind.wrap .u32 b6))] w fun e w3 => ∃ x4, e = .returned (.int .u32 x4) ∧ yaZ [n1] [(n0, 216)] [n0] w w3 ∧ ∃ x5 x6 x7 x8 x9 f1 f2 f3 f4 f5 f6 f7 f8 f9 g0 g1, w3.heap[n1]? = some (.cells #[.int .u32 x5, .int .u32 x6, .int .u32 x7, .int .u32 x8, .int .u32 x9, .int .u32 f1, .int .u32 f2, .int .u32 f3, .int .u32 f4, .int .u32 f5, .int .u32 f6, .int .u32 f7, .int .u32 f8, .int .u32 f9, .int .u32 g0, .int .u32 g1] 216) ∧ 0 ≤ b6 ∧ b6 < ((16 : Nat) : Int) ∧
 st w3 (Addr.add ⟨n1, 0, none⟩ (Int.toNat b6 * 1)) [.int .u32 x4] fun d2 => yaZ [n1] [(n0, 216)] [n0] w3 d2 ∧ ∃ d5 d6 d7 d8 d9 e0 e1 e2 e3 e4 e5 e6 e7 e8 e9 f0, d2.heap[n1]? = some (.cells #[.int .u32 d5, .int .u32 d6, .int .u32 d7, .int .u32 d8, .int .u32 d9, .int .u32 e0, .int .u32 e1, .int .u32 e2, .int .u32 e3, .int .u32 e4, .int .u32 e5, .int .u32 e6, .int .u32 e7, .int .u32 e8, .int .u32 e9, .int .u32 f0] 216) ∧
 KS (yAj n0 n1 I m) (yjM n0 n1 ((IntKind.wrap .i64 (b6 + 1)), d5, d6, d7, d8, d9, e0, e1, e2, e3, e4, e5, e6, e7, e8, e9, f0)) d2)
 (
 ∀ d3, Adv [n0] [] w d3 → d3.heap[n1]? = some (.cells #[.int .u32 a6, .int .u32 a7, .int .u32 a8, .int .u32 a9, .int .u32 b0, .int .u32 b1, .int .u32 b2, .int .u32 b3, .int .u32 b4, .int .u32 b5, .int .u32 i2, .int .u32 a1, .int .u32 a2, .int .u32 a3, .int .u32 a4, .int .u32 a5] 216) →
 R (.agg #[.int .u32 a6, .int .u32 a7, .int .u32 a8, .int .u32 a9, .int .u32 b0, .int .u32 b1, .int .u32 b2, .int .u32 b3, .int .u32 b4, .int .u32 b5, .int .u32 i2, .int .u32 a1, .int .u32 a2, .int .u32 a3, .int .u32 a4, .int .u32 a5]) d3)) :
 yaL yn5 (yCS 395 [0, 0, 1, 0, 1, 1, 1]) (yCT [1, 1, 1, 0, 1, 0] [] R) (yjM n0 n1 (i0, i1, i2, i3, i4, i5, i6, i7, i8, i9, j0, j1, j2, j3, j4, j5, j6)) w0 :=
 lrule (yjM n0 n1) (U17 I) h0 (by rintro m ⟨b6, a6, a7, a8, a9, b0, b1, b2, b3, b4, b5, i2, a1, a2, a3, a4, a5⟩ w h; exact ⟨by kernel_rfl, by kernel_rfl, fun js => Eq.mpr (by kernel_rfl) (hr m b6 a6 a7 a8 a9 b0 b1 b2 b3 b4 b5 i2 a1 a2 a3 a4 a5 w h)⟩)
theorem yCU (h :
 ∀ b1, w.heap.size ≤ b1 →
 ∀ b2, w.heap.size ≤ b2 →
 ∀ a0, Adv [] [b2, b1] w a0 → a0.heap[b2]? = some (.cells #[.int .u32 0, .int .u32 0, .int .u32 0, .int .u32 0, .int .u32 0, .int .u32 0, .int .u32 0, .int .u32 0, .int .u32 0, .int .u32 0, .int .u32 0, .int .u32 0, .int .u32 0, .int .u32 0, .int .u32 0, .int .u32 0] 216) →
 yaL yn5 (yCS 395 [0, 0, 1, 0, 1, 1, 1]) (yCT [1, 1, 1, 0, 1, 0] [] R) (yjM b1 b2 (0, 0, 0, 0, 0, 0, 0, 0, 0, 0, 0, 0, 0, 0, 0, 0, 0)) a0) :
 CR pP 148 #[] w R :=
 yaA Tryz.wide_mixed (an := yp6) Tryz.func148 rfl rfl (by kernel_rfl) rfl (Eq.mpr (by kernel_rfl) h)
def yn6 : LA := ⟨[0, 0, 1, 0, 1, 1, 1], [1, 5, 6, 12, 13], [(5, 0, 0)], 1, [0]⟩
def yp7 : List LA := [yn6]
abbrev yCV := dnF pP yp7 (code Tryz.f122)
abbrev yGh := yaW pP yp7 (code Tryz.f122)
abbrev yCW (p : List Nat) (K : List Kh) (R : VWP) := yaW pP yp7 (code Tryz.f122) p K (ybI pP Tryz.f122 [] R)
def yjN (b8 : BA) (b6 : Int) (bm0 : Nat) (a6 a7 a8 a9 b0 b1 b2 b3 b4 b5 a0 a1 a2 a3 a4 a5 : Int) : Int × Int → List Value × List TB := fun (b9, b7) => ([.string b8, (.pointer (some ⟨bm0, 0, none⟩)), .int .u32 b9, .int .i64 b6, .int .i64 b7], [⟨bm0, 216, [.int .u32 a6, .int .u32 a7, .int .u32 a8, .int .u32 a9, .int .u32 b0, .int .u32 b1, .int .u32 b2, .int .u32 b3, .int .u32 b4, .int .u32 b5, .int .u32 a0, .int .u32 a1, .int .u32 a2, .int .u32 a3, .int .u32 a4, .int .u32 a5], true⟩])
abbrev yAk (b7 : BA) (b6 : Int) (bm0 : Nat) (a6 a7 a8 a9 b0 b1 b2 b3 b4 b5 a0 a1 a2 a3 a4 a5 : Int) (I : Nat → Int → Int → World → Prop) (m : Nat) : Kh := KG (yjN b7 b6 bm0 a6 a7 a8 a9 b0 b1 b2 b3 b4 b5 a0 a1 a2 a3 a4 a5) (U2 I) m
theorem yuR {I : Nat → Int → Int → World → Prop} (m' : Nat) (h1 : m' < m) (h2 : I m' j7 j8 w) : KS (yAk s0 i0 n0 i1 i2 i3 i4 i5 i6 i7 i8 i9 j0 j1 j2 j3 j4 j5 j6 I m) (yjN s0 i0 n0 i1 i2 i3 i4 i5 i6 i7 i8 i9 j0 j1 j2 j3 j4 j5 j6 (j7, j8)) w := ⟨m', h1, _, rfl, rfl, h2⟩
theorem yuS (I : Nat → Int → Int → World → Prop) (m0 : Nat) (h0 : I m0 j7 j8 w0)
 (hr : ∀ m a6 b7 w, I m a6 b7 w →
 w.heap[n0]? = some (.cells #[.int .u32 i1, .int .u32 i2, .int .u32 i3, .int .u32 i4, .int .u32 i5, .int .u32 i6, .int .u32 i7, .int .u32 i8, .int .u32 i9, .int .u32 j0, .int .u32 j1, .int .u32 j2, .int .u32 j3, .int .u32 j4, .int .u32 j5, .int .u32 j6] 216) →
 brB (decide (b7 < i0)) (
 ixS s0 b7 fun b8 => nn 4 (nz 16 (0 ≤ (Int.tmod (yeJ .u32 a6 (IntKind.wrap .u32 b8)) 16) ∧ (Int.tmod (yeJ .u32 a6 (IntKind.wrap .u32 b8)) 16) < ((16 : Nat) : Int) ∧
 yaD .u32 w (Addr.add ⟨n0, 0, none⟩ (Int.toNat (Int.tmod (yeJ .u32 a6 (IntKind.wrap .u32 b8)) 16) * 1)) fun c1 => nn 4 (nz 16 (0 ≤ (Int.tmod (yeJ .u32 (Int.fdiv (yeJ .u32 a6 (IntKind.wrap .u32 b8)) (2 ^ (min (Int.toNat 4) 32))) c1) 16) ∧ (Int.tmod (yeJ .u32 (Int.fdiv (yeJ .u32 a6 (IntKind.wrap .u32 b8)) (2 ^ (min (Int.toNat 4) 32))) c1) 16) < ((16 : Nat) : Int) ∧
 yaD .u32 w (Addr.add ⟨n0, 0, none⟩ (Int.toNat (Int.tmod (yeJ .u32 (Int.fdiv (yeJ .u32 a6 (IntKind.wrap .u32 b8)) (2 ^ (min (Int.toNat 4) 32))) c1) 16) * 1)) fun c4 =>
 KS (yAk s0 i0 n0 i1 i2 i3 i4 i5 i6 i7 i8 i9 j0 j1 j2 j3 j4 j5 j6 I m) (yjN s0 i0 n0 i1 i2 i3 i4 i5 i6 i7 i8 i9 j0 j1 j2 j3 j4 j5 j6 ((yeJ .u32 (Int.fdiv (yeJ .u32 (Int.fdiv (yeJ .u32 a6 (IntKind.wrap .u32 b8)) (2 ^ (min (Int.toNat 4) 32))) c1) (2 ^ (min (Int.toNat 4) 32))) c4), (IntKind.wrap .i64 (b7 + 1)))) w)))))
 (
 R (.int .u32 (yeJ .u32 4294967295 a6)) w)) :
 yaL yn6 (yCV 395 [0, 0, 1, 0, 1, 1, 1]) (yCW [1, 1, 1, 0, 1, 0] [] R) (yjN s0 i0 n0 i1 i2 i3 i4 i5 i6 i7 i8 i9 j0 j1 j2 j3 j4 j5 j6 (j7, j8)) w0 :=
 lrule (yjN s0 i0 n0 i1 i2 i3 i4 i5 i6 i7 i8 i9 j0 j1 j2 j3 j4 j5 j6) (U2 I) h0 (by rintro m ⟨a6, b7⟩ w h; exact ⟨by kernel_rfl, by kernel_rfl, fun js => Eq.mpr (by kernel_rfl) (hr m a6 b7 w h)⟩)
theorem yCX (h :
 Calls pP 148 #[] w fun e w1 => ∃ x2 x3 x4 x5 x6 x7 x8 x9 a4 a5 a6 a7 a8 a9 b0 b1, e = .returned (.agg #[.int .u32 x2, .int .u32 x3, .int .u32 x4, .int .u32 x5, .int .u32 x6, .int .u32 x7, .int .u32 x8, .int .u32 x9, .int .u32 a4, .int .u32 a5, .int .u32 a6, .int .u32 a7, .int .u32 a8, .int .u32 a9, .int .u32 b0, .int .u32 b1]) ∧
 ∀ a2, w1.heap.size ≤ a2 →
 ∀ a3, Adv [] [a2] w1 a3 → a3.heap[a2]? = some (.cells #[.int .u32 x2, .int .u32 x3, .int .u32 x4, .int .u32 x5, .int .u32 x6, .int .u32 x7, .int .u32 x8, .int .u32 x9, .int .u32 a4, .int .u32 a5, .int .u32 a6, .int .u32 a7, .int .u32 a8, .int .u32 a9, .int .u32 b0, .int .u32 b1] 216) →
 yaL yn6 (yCV 395 [0, 0, 1, 0, 1, 1, 1]) (yCW [1, 1, 1, 0, 1, 0] [] R) (yjN s0 (s0.size : Int) a2 x2 x3 x4 x5 x6 x7 x8 x9 a4 a5 a6 a7 a8 a9 b0 b1 ((yeJ .u32 4294967295 i0), 0)) a3) :
 CR pP 122 #[.int .u32 i0, .string s0] w R :=
 yaA Tryz.wide_mixed (an := yp7) Tryz.func122 rfl rfl (by kernel_rfl) rfl (Eq.mpr (by kernel_rfl) h)
theorem yCY (h :
 Calls pP 122 #[.int .u32 0, .string s0] w fun e w1 => ∃ x2, e = .returned (.int .u32 x2) ∧
 R (.int .u32 x2) w1) :
 CR pP 84 #[.string s0] w R :=
 yaA Tryz.wide_mixed (an := []) Tryz.func84 rfl rfl (by kernel_rfl) rfl (Eq.mpr (by kernel_rfl) h)
def yn7 : LA := ⟨[0, 0, 1, 0, 1, 1], [0, 3, 7, 8], [], 0, []⟩
def yp8 : List LA := [yn7]
abbrev yCZ := dnF pP yp8 (code Tryz.f83)
abbrev yGi := yaW pP yp8 (code Tryz.f83)
abbrev yC0 (p : List Nat) (K : List Kh) (R : VWP) := yaW pP yp8 (code Tryz.f83) p K (ybI pP Tryz.f83 [] R)
def yjO (a3 : Int) (a0 : OA) (a2 a1 : Nat) (a4 : Int) : Int → List Value × List TB := fun a5 => ([.int .u32 a3, .slice a0 a2 a1, .int .i64 a4, .int .i64 a5], [])
abbrev yAl (a3 : Int) (a0 : OA) (a2 a1 : Nat) (a4 : Int) (I : Nat → Int → World → Prop) (m : Nat) : Kh := KG (yjO a3 a0 a2 a1 a4) (U1 I) m
theorem yuT {I : Nat → Int → World → Prop} (m' : Nat) (h1 : m' < m) (h2 : I m' i2 w) : KS (yAl i0 q0 n0 n1 i1 I m) (yjO i0 q0 n0 n1 i1 i2) w := ⟨m', h1, _, rfl, rfl, h2⟩
theorem yuU {a1 : OA} (I : Nat → Int → World → Prop) (m0 : Nat) (h0 : I m0 i2 w0)
 (hr : ∀ m a0 w, I m a0 w →
 brB (decide (a0 < i1)) (nn (IntKind.wrap .i64 (8 * a0)) (
 ixA a1 n0 a0 1 fun q5 =>
 st w q5 [(.int .u8 (IntKind.wrap .u8 (Int.fdiv i0 (2 ^ (min (Int.toNat (IntKind.wrap .i64 (8 * a0))) 32)))))] fun w6 =>
 KS (yAl i0 a1 n0 n1 i1 I m) (yjO i0 a1 n0 n1 i1 (IntKind.wrap .i64 (a0 + 1))) w6))
 (
 ∃ s7 w8, Sem.run pP (Go.convert 104 9 (.slice a1 n0 n1)) w = .ok (.string s7) w8 ∧
 R (.string s7) w8)) :
 yaL yn7 (yCZ 396 [0, 0, 1, 0, 1, 1]) (yC0 [1, 1, 0, 1, 0] [] R) (yjO i0 a1 n0 n1 i1 i2) w0 :=
 lrule (yjO i0 a1 n0 n1 i1) (U1 I) h0 (by rintro m a0 w h; exact ⟨by kernel_rfl, by kernel_rfl, fun js => Eq.mpr (by kernel_rfl) (hr m a0 w h)⟩)
theorem yC1 (h :
 ycZ pP (Instr.makeSlice 104 (.int .i64 4) (.int .i64 4)) w fun a1 n2 c3 w4 =>
 yaL yn7 (yCZ 396 [0, 0, 1, 0, 1, 1]) (yC0 [1, 1, 0, 1, 0] [] R) (yjO i0 a1 n2 c3 (n2 : Int) 0) w4) :
 CR pP 83 #[.int .u32 i0] w R :=
 yaA Tryz.wide_mixed (an := yp8) Tryz.func83 rfl rfl (by kernel_rfl) rfl (Eq.mpr (by kernel_rfl) h)
theorem yC2 {a0 : BA} (h :
 Calls pP 56 #[.string a0] w fun e w1 => ∃ s2, e = .returned (.string s2) ∧
 Calls pP 84 #[.string a0] w1 fun e w3 => ∃ x4, e = .returned (.int .u32 x4) ∧
 Calls pP 83 #[.int .u32 x4] w3 fun e w5 => ∃ s6, e = .returned (.string s6) ∧
 yx0 s2 s6 fun s7 =>
 R (.string s7) w5) :
 CR pP 57 #[.string a0] w R :=
 yaA Tryz.wide_mixed (an := []) Tryz.func57 rfl rfl (by kernel_rfl) rfl (Eq.mpr (by kernel_rfl) h)
theorem yC3 {a1 : BA} (h :
 Calls pP 85 (Z2 a1 i0 i1) w fun e w1 => ∃ s2 x3 x4, e = .returned (.tuple (Z2 s2 x3 x4)) ∧
 brB (x4 != 0) (
 R (.tuple (Z2 (⟨#[]⟩ : BA) 0 x4)) w1)
 (
 brB (decide ((IntKind.wrap .i64 ((a1.size : Int) - x3)) < 4)) (
 R (.tuple (Z2 (⟨#[]⟩ : BA) 0 20)) w1)
 (
 slS a1 x3 (IntKind.wrap .i64 (x3 + 4)) fun s5 =>
 ∀ w6, Adv [] [] w1 w6 →
 Calls pP 84 #[.string s2] w6 fun e w7 => ∃ x8, e = .returned (.int .u32 x8) ∧
 Calls pP 83 #[.int .u32 x8] w7 fun e w9 => ∃ a3, e = .returned (.string a3) ∧
 brB (!(s5.toList == a3.toList)) (
 R (.tuple (Z2 (⟨#[]⟩ : BA) 0 21)) w9)
 (
 R (.tuple (Z2 s2 (IntKind.wrap .i64 (x3 + 4)) 0)) w9)))) :
 CR pP 58 (Z2 a1 i0 i1) w R :=
 yaA Tryz.wide_mixed (an := []) Tryz.func58 rfl rfl (by kernel_rfl) rfl (Eq.mpr (by kernel_rfl) h)
end
theorem yjP {x y : Int} : 0 ≤ yeJ .u32 x y ∧ yeJ .u32 x y < 4294967296 := by
 unfold yeJ
 rw [IntKind.wrap_u32]
 omega
def yBh (c : Int) : Int := yeJ .u32 (Int.fdiv c (2 ^ (min (Int.toNat 1) 32))) (yiV .u32 3988292384 (IntKind.wrap .u32 (0 - (yiV .u32 c 1))))
def yyV (c : Int) : Nat → Int
 | 0 => c
 | k + 1 => yBh (yyV c k)
def yeA (j : Nat) : Int := yyV (IntKind.wrap .u32 (j : Nat)) 4
theorem yC4 (c : Int) (w : World) : Calls pP 161 #[.int .u32 c] w fun e w' => e = .returned (.int .u32 (yyV c 4)) ∧ w' = w := by
 refine yaS (yCR ?_)
 refine yuP (fun mm x y w' => ∃ k : Nat, y = k ∧ k ≤ 4 ∧ x = yyV c k ∧ w' = w ∧ mm = 4 - k) 4 ⟨0, rfl, by omega, rfl, rfl, rfl⟩ ?_
 rintro mm x y w' ⟨k, rfl, hk, rfl, rfl, rfl⟩
 refine yaC (fun h => ⟨by omega, ?_⟩) fun h => ?_
 ·exact yuO (4 - (k + 1)) (by omega) ⟨k + 1, by rw [yaF (by omega) (by omega)]; omega, by omega, rfl, rfl, rfl⟩
 ·have hk : k = 4 := by omega
  subst hk
  exact ⟨rfl, rfl⟩
def yaG (k j : Nat) : Int := if j < k then yeA j else 0
def yGj : Value := .agg #[.int .u32 (yeA 0), .int .u32 (yeA 1), .int .u32 (yeA 2), .int .u32 (yeA 3), .int .u32 (yeA 4), .int .u32 (yeA 5), .int .u32 (yeA 6), .int .u32 (yeA 7), .int .u32 (yeA 8), .int .u32 (yeA 9), .int .u32 (yeA 10), .int .u32 (yeA 11), .int .u32 (yeA 12), .int .u32 (yeA 13), .int .u32 (yeA 14), .int .u32 (yeA 15)]
set_option maxHeartbeats 4000000 in
theorem yBi (w : World) : Calls pP 148 #[] w fun e w' => e = .returned yGj ∧ Mod [] w w' := by
 refine yaS (yCU ?_)
 intro b1 f1 b2 f2 w0 A0 h0
 refine yuQ (fun mm x x0 x1 x2 x3 x4 x5 x6 x7 x8 x9 x10 x11 x12 x13 x14 x15 w' => ∃ k : Nat, x = k ∧ k ≤ 16 ∧ x0 = yaG k 0 ∧ x1 = yaG k 1 ∧ x2 = yaG k 2 ∧ x3 = yaG k 3 ∧ x4 = yaG k 4 ∧ x5 = yaG k 5 ∧ x6 = yaG k 6 ∧ x7 = yaG k 7 ∧ x8 = yaG k 8 ∧ x9 = yaG k 9 ∧ x10 = yaG k 10 ∧ x11 = yaG k 11 ∧ x12 = yaG k 12 ∧ x13 = yaG k 13 ∧ x14 = yaG k 14 ∧ x15 = yaG k 15 ∧ Mod [] w w' ∧ mm = 16 - k) 16 ⟨0, rfl, by omega, rfl, rfl, rfl, rfl, rfl, rfl, rfl, rfl, rfl, rfl, rfl, rfl, rfl, rfl, rfl, rfl, A0.mod, rfl⟩ ?_
 rintro mm x x0 x1 x2 x3 x4 x5 x6 x7 x8 x9 x10 x11 x12 x13 x14 x15 w1 ⟨k, rfl, hk, rfl, rfl, rfl, rfl, rfl, rfl, rfl, rfl, rfl, rfl, rfl, rfl, rfl, rfl, rfl, rfl, M1, rfl⟩ hc
 refine yaC (fun hlt => ?_) fun hge => ?_
 ·refine (yC4 _ w1).mono ?_
  rintro e w2 ⟨rfl, rfl⟩
  refine ⟨_, rfl, yaH.of0 (Mod.refl _), _, _, _, _, _, _, _, _, _, _, _, _, _, _, _, _, hc, by omega, by omega, ?_⟩
  have hb2 : w.heap.size ≤ b2 := f2
  rw [show (⟨b2, 0, none⟩ : Addr).add (Int.toNat (k : Int) * 1) = ⟨b2, k, none⟩ by rw [ya0]; simp]
  refine ycT (b := b2) (o := k) hc rfl (by simp; omega) fun w3 h3 M3 => ?_
  refine ⟨yaH.ofE M3 fun b hb _ he => by simpa using he, ?_⟩
  have hM : Mod [] w w3 := M1.go0 M3 (by simpa using f2)
  have ek : IntKind.wrap .i64 ((k : Int) + 1) = ((k + 1 : Nat) : Int) := by rw [yaF (by omega) (by omega)]; omega
  have hcs : k = 0 ∨ k = 1 ∨ k = 2 ∨ k = 3 ∨ k = 4 ∨ k = 5 ∨ k = 6 ∨ k = 7 ∨ k = 8 ∨ k = 9 ∨ k = 10 ∨ k = 11 ∨ k = 12 ∨ k = 13 ∨ k = 14 ∨ k = 15 := by omega
  rcases hcs with rfl | rfl | rfl | rfl | rfl | rfl | rfl | rfl | rfl | rfl | rfl | rfl | rfl | rfl | rfl | rfl
  ·exact ⟨yaG 1 0, yaG 1 1, yaG 1 2, yaG 1 3, yaG 1 4, yaG 1 5, yaG 1 6, yaG 1 7, yaG 1 8, yaG 1 9, yaG 1 10, yaG 1 11, yaG 1 12, yaG 1 13, yaG 1 14, yaG 1 15, h3, ya6 (16 - (0 + 1)) (by omega) ⟨0 + 1, ek, by omega, rfl, rfl, rfl, rfl, rfl, rfl, rfl, rfl, rfl, rfl, rfl, rfl, rfl, rfl, rfl, rfl, hM, rfl⟩⟩
  ·exact ⟨yaG 2 0, yaG 2 1, yaG 2 2, yaG 2 3, yaG 2 4, yaG 2 5, yaG 2 6, yaG 2 7, yaG 2 8, yaG 2 9, yaG 2 10, yaG 2 11, yaG 2 12, yaG 2 13, yaG 2 14, yaG 2 15, h3, ya6 (16 - (1 + 1)) (by omega) ⟨1 + 1, ek, by omega, rfl, rfl, rfl, rfl, rfl, rfl, rfl, rfl, rfl, rfl, rfl, rfl, rfl, rfl, rfl, rfl, hM, rfl⟩⟩
  ·exact ⟨yaG 3 0, yaG 3 1, yaG 3 2, yaG 3 3, yaG 3 4, yaG 3 5, yaG 3 6, yaG 3 7, yaG 3 8, yaG 3 9, yaG 3 10, yaG 3 11, yaG 3 12, yaG 3 13, yaG 3 14, yaG 3 15, h3, ya6 (16 - (2 + 1)) (by omega) ⟨2 + 1, ek, by omega, rfl, rfl, rfl, rfl, rfl, rfl, rfl, rfl, rfl, rfl, rfl, rfl, rfl, rfl, rfl, rfl, hM, rfl⟩⟩
  ·exact ⟨yaG 4 0, yaG 4 1, yaG 4 2, yaG 4 3, yaG 4 4, yaG 4 5, yaG 4 6, yaG 4 7, yaG 4 8, yaG 4 9, yaG 4 10, yaG 4 11, yaG 4 12, yaG 4 13, yaG 4 14, yaG 4 15, h3, ya6 (16 - (3 + 1)) (by omega) ⟨3 + 1, ek, by omega, rfl, rfl, rfl, rfl, rfl, rfl, rfl, rfl, rfl, rfl, rfl, rfl, rfl, rfl, rfl, rfl, hM, rfl⟩⟩
  ·exact ⟨yaG 5 0, yaG 5 1, yaG 5 2, yaG 5 3, yaG 5 4, yaG 5 5, yaG 5 6, yaG 5 7, yaG 5 8, yaG 5 9, yaG 5 10, yaG 5 11, yaG 5 12, yaG 5 13, yaG 5 14, yaG 5 15, h3, ya6 (16 - (4 + 1)) (by omega) ⟨4 + 1, ek, by omega, rfl, rfl, rfl, rfl, rfl, rfl, rfl, rfl, rfl, rfl, rfl, rfl, rfl, rfl, rfl, rfl, hM, rfl⟩⟩
  ·exact ⟨yaG 6 0, yaG 6 1, yaG 6 2, yaG 6 3, yaG 6 4, yaG 6 5, yaG 6 6, yaG 6 7, yaG 6 8, yaG 6 9, yaG 6 10, yaG 6 11, yaG 6 12, yaG 6 13, yaG 6 14, yaG 6 15, h3, ya6 (16 - (5 + 1)) (by omega) ⟨5 + 1, ek, by omega, rfl, rfl, rfl, rfl, rfl, rfl, rfl, rfl, rfl, rfl, rfl, rfl, rfl, rfl, rfl, rfl, hM, rfl⟩⟩
  ·exact ⟨yaG 7 0, yaG 7 1, yaG 7 2, yaG 7 3, yaG 7 4, yaG 7 5, yaG 7 6, yaG 7 7, yaG 7 8, yaG 7 9, yaG 7 10, yaG 7 11, yaG 7 12, yaG 7 13, yaG 7 14, yaG 7 15, h3, ya6 (16 - (6 + 1)) (by omega) ⟨6 + 1, ek, by omega, rfl, rfl, rfl, rfl, rfl, rfl, rfl, rfl, rfl, rfl, rfl, rfl, rfl, rfl, rfl, rfl, hM, rfl⟩⟩
  ·exact ⟨yaG 8 0, yaG 8 1, yaG 8 2, yaG 8 3, yaG 8 4, yaG 8 5, yaG 8 6, yaG 8 7, yaG 8 8, yaG 8 9, yaG 8 10, yaG 8 11, yaG 8 12, yaG 8 13, yaG 8 14, yaG 8 15, h3, ya6 (16 - (7 + 1)) (by omega) ⟨7 + 1, ek, by omega, rfl, rfl, rfl, rfl, rfl, rfl, rfl, rfl, rfl, rfl, rfl, rfl, rfl, rfl, rfl, rfl, hM, rfl⟩⟩
  ·exact ⟨yaG 9 0, yaG 9 1, yaG 9 2, yaG 9 3, yaG 9 4, yaG 9 5, yaG 9 6, yaG 9 7, yaG 9 8, yaG 9 9, yaG 9 10, yaG 9 11, yaG 9 12, yaG 9 13, yaG 9 14, yaG 9 15, h3, ya6 (16 - (8 + 1)) (by omega) ⟨8 + 1, ek, by omega, rfl, rfl, rfl, rfl, rfl, rfl, rfl, rfl, rfl, rfl, rfl, rfl, rfl, rfl, rfl, rfl, hM, rfl⟩⟩
  ·exact ⟨yaG 10 0, yaG 10 1, yaG 10 2, yaG 10 3, yaG 10 4, yaG 10 5, yaG 10 6, yaG 10 7, yaG 10 8, yaG 10 9, yaG 10 10, yaG 10 11, yaG 10 12, yaG 10 13, yaG 10 14, yaG 10 15, h3, ya6 (16 - (9 + 1)) (by omega) ⟨9 + 1, ek, by omega, rfl, rfl, rfl, rfl, rfl, rfl, rfl, rfl, rfl, rfl, rfl, rfl, rfl, rfl, rfl, rfl, hM, rfl⟩⟩
  ·exact ⟨yaG 11 0, yaG 11 1, yaG 11 2, yaG 11 3, yaG 11 4, yaG 11 5, yaG 11 6, yaG 11 7, yaG 11 8, yaG 11 9, yaG 11 10, yaG 11 11, yaG 11 12, yaG 11 13, yaG 11 14, yaG 11 15, h3, ya6 (16 - (10 + 1)) (by omega) ⟨10 + 1, ek, by omega, rfl, rfl, rfl, rfl, rfl, rfl, rfl, rfl, rfl, rfl, rfl, rfl, rfl, rfl, rfl, rfl, hM, rfl⟩⟩
  ·exact ⟨yaG 12 0, yaG 12 1, yaG 12 2, yaG 12 3, yaG 12 4, yaG 12 5, yaG 12 6, yaG 12 7, yaG 12 8, yaG 12 9, yaG 12 10, yaG 12 11, yaG 12 12, yaG 12 13, yaG 12 14, yaG 12 15, h3, ya6 (16 - (11 + 1)) (by omega) ⟨11 + 1, ek, by omega, rfl, rfl, rfl, rfl, rfl, rfl, rfl, rfl, rfl, rfl, rfl, rfl, rfl, rfl, rfl, rfl, hM, rfl⟩⟩
  ·exact ⟨yaG 13 0, yaG 13 1, yaG 13 2, yaG 13 3, yaG 13 4, yaG 13 5, yaG 13 6, yaG 13 7, yaG 13 8, yaG 13 9, yaG 13 10, yaG 13 11, yaG 13 12, yaG 13 13, yaG 13 14, yaG 13 15, h3, ya6 (16 - (12 + 1)) (by omega) ⟨12 + 1, ek, by omega, rfl, rfl, rfl, rfl, rfl, rfl, rfl, rfl, rfl, rfl, rfl, rfl, rfl, rfl, rfl, rfl, hM, rfl⟩⟩
  ·exact ⟨yaG 14 0, yaG 14 1, yaG 14 2, yaG 14 3, yaG 14 4, yaG 14 5, yaG 14 6, yaG 14 7, yaG 14 8, yaG 14 9, yaG 14 10, yaG 14 11, yaG 14 12, yaG 14 13, yaG 14 14, yaG 14 15, h3, ya6 (16 - (13 + 1)) (by omega) ⟨13 + 1, ek, by omega, rfl, rfl, rfl, rfl, rfl, rfl, rfl, rfl, rfl, rfl, rfl, rfl, rfl, rfl, rfl, rfl, hM, rfl⟩⟩
  ·exact ⟨yaG 15 0, yaG 15 1, yaG 15 2, yaG 15 3, yaG 15 4, yaG 15 5, yaG 15 6, yaG 15 7, yaG 15 8, yaG 15 9, yaG 15 10, yaG 15 11, yaG 15 12, yaG 15 13, yaG 15 14, yaG 15 15, h3, ya6 (16 - (14 + 1)) (by omega) ⟨14 + 1, ek, by omega, rfl, rfl, rfl, rfl, rfl, rfl, rfl, rfl, rfl, rfl, rfl, rfl, rfl, rfl, rfl, rfl, hM, rfl⟩⟩
  ·exact ⟨yaG 16 0, yaG 16 1, yaG 16 2, yaG 16 3, yaG 16 4, yaG 16 5, yaG 16 6, yaG 16 7, yaG 16 8, yaG 16 9, yaG 16 10, yaG 16 11, yaG 16 12, yaG 16 13, yaG 16 14, yaG 16 15, h3, ya6 (16 - (15 + 1)) (by omega) ⟨15 + 1, ek, by omega, rfl, rfl, rfl, rfl, rfl, rfl, rfl, rfl, rfl, rfl, rfl, rfl, rfl, rfl, rfl, rfl, hM, rfl⟩⟩
 ·have hk : k = 16 := by omega
  subst hk
  intro w2 A2 _
  exact ⟨rfl, M1.go0 A2.mod (by simpa using f1)⟩
def ygH (c : Int) (b : UInt8) : Int :=
 yeJ .u32 (Int.fdiv (yeJ .u32 (Int.fdiv (yeJ .u32 c (IntKind.wrap .u32 (b.toNat : Nat))) (2 ^ (min (Int.toNat 4) 32))) (yeA (Int.tmod (yeJ .u32 c (IntKind.wrap .u32 (b.toNat : Nat))) 16).toNat)) (2 ^ (min (Int.toNat 4) 32)))
  (yeA (Int.tmod (yeJ .u32 (Int.fdiv (yeJ .u32 c (IntKind.wrap .u32 (b.toNat : Nat))) (2 ^ (min (Int.toNat 4) 32))) (yeA (Int.tmod (yeJ .u32 c (IntKind.wrap .u32 (b.toNat : Nat))) 16).toNat)) 16).toNat)
theorem yp9 {w : World} {b : Nat} {T : TypeId} (h : w.heap[b]? = some (.cells #[.int .u32 (yeA 0), .int .u32 (yeA 1), .int .u32 (yeA 2), .int .u32 (yeA 3), .int .u32 (yeA 4), .int .u32 (yeA 5), .int .u32 (yeA 6), .int .u32 (yeA 7), .int .u32 (yeA 8), .int .u32 (yeA 9), .int .u32 (yeA 10), .int .u32 (yeA 11), .int .u32 (yeA 12), .int .u32 (yeA 13), .int .u32 (yeA 14), .int .u32 (yeA 15)] T)) {i : Nat} (hi : i < 16) : w.cell? ((⟨b, 0, none⟩ : Addr).add (i * 1)) = some (.int .u32 (yeA i)) := by
 rw [ya0, Nat.zero_add, Nat.mul_one, yaU h]
 have e : i = 0 ∨ i = 1 ∨ i = 2 ∨ i = 3 ∨ i = 4 ∨ i = 5 ∨ i = 6 ∨ i = 7 ∨ i = 8 ∨ i = 9 ∨ i = 10 ∨ i = 11 ∨ i = 12 ∨ i = 13 ∨ i = 14 ∨ i = 15 := by omega
 rcases e with rfl | rfl | rfl | rfl | rfl | rfl | rfl | rfl | rfl | rfl | rfl | rfl | rfl | rfl | rfl | rfl <;> rfl
theorem yAm {x : Int} (h : 0 ≤ x) : 0 ≤ Int.tmod x 16 ∧ Int.tmod x 16 < ((16 : Nat) : Int) := by
 rw [Int.tmod_eq_emod_of_nonneg h]; omega
def yF8 (c : Int) (l : List UInt8) : Int := yeJ .u32 4294967295 (l.foldl ygH (yeJ .u32 4294967295 c))
theorem yBj (c : Int) (s : ByteArray) (hs : s.size ≤ 1000000000000) (w : World) : Calls pP 122 #[.int .u32 c, .string s] w fun e w' => e = .returned (.int .u32 (yF8 c s.data.toList)) ∧ Mod [] w w' := by
 refine yaS (yCX ?_)
 refine (yBi w).mono ?_
 rintro e w1 ⟨rfl, M1⟩
 refine ⟨_, _, _, _, _, _, _, _, _, _, _, _, _, _, _, _, rfl, ?_⟩
 intro b2 f2 w2 A2 h2
 have N2 := M1.go0 A2.mod (by simp)
 refine yuS (fun mm x y w' => ∃ k : Nat, y = k ∧ k ≤ s.size ∧ x = (s.data.toList.take k).foldl ygH (yeJ .u32 4294967295 c) ∧ w' = w2 ∧ mm = s.size - k) s.size ⟨0, rfl, by omega, by simp, rfl, rfl⟩ ?_
 rintro mm x y w3 ⟨k, rfl, hk, rfl, rfl, rfl⟩ _
 refine yaC (fun hlt => ?_) fun hge => ?_
 ·have hk' : k < s.size := by omega
  obtain ⟨b, hb, hv⟩ := ygF hk'
  refine ⟨by omega, by omega, ?_⟩
  rw [Int.toNat_natCast, hv]
  have t1 := yAm (x := yeJ .u32 ((s.data.toList.take k).foldl ygH (yeJ .u32 4294967295 c)) (IntKind.wrap .u32 (b.toNat : Nat))) yjP.1
  refine ⟨by omega, by omega, t1.1, t1.2, yaE (yp9 h2 (by omega)) ?_⟩
  have t2 := yAm (x := yeJ .u32 (Int.fdiv (yeJ .u32 ((s.data.toList.take k).foldl ygH (yeJ .u32 4294967295 c)) (IntKind.wrap .u32 (b.toNat : Nat))) (2 ^ (min (Int.toNat 4) 32))) (yeA (Int.tmod (yeJ .u32 ((s.data.toList.take k).foldl ygH (yeJ .u32 4294967295 c)) (IntKind.wrap .u32 (b.toNat : Nat))) 16).toNat)) yjP.1
  refine ⟨by omega, by omega, t2.1, t2.2, yaE (yp9 h2 (by omega)) ?_⟩
  refine yuR (s.size - (k + 1)) (by omega) ⟨k + 1, by rw [yaF (by omega) (by omega)]; omega, by omega, ?_, rfl, rfl⟩
  rw [List.take_add_one, hb]
  simp [ygH]
 ·have hk : k = s.size := by omega
  subst hk
  rw [List.take_of_length_le (by simp)]
  exact ⟨rfl, N2⟩
def yyW (l : List UInt8) : Int := yF8 0 l
theorem yAn (s : ByteArray) (hs : s.size ≤ 1000000000000) (w : World) : Calls pP 84 #[.string s] w fun e w' => e = .returned (.int .u32 (yyW s.data.toList)) ∧ Mod [] w w' := by
 refine yaS (yCY ?_)
 refine (yBj 0 s hs w).mono ?_
 rintro e w1 ⟨rfl, M1⟩
 exact ⟨_, rfl, rfl, M1⟩
def lbI (n : Int) (k : Nat) : Int := IntKind.wrap .u8 (Int.fdiv n (2 ^ (min (Int.toNat ((8 * k : Nat) : Int)) 32)))
def lb (n : Int) (k : Nat) : UInt8 := UInt8.ofNat (lbI n k).toNat
theorem yqA (n : Int) (k : Nat) : ((lb n k).toNat : Int) = lbI n k := by
 have h : 0 ≤ lbI n k ∧ lbI n k < 256 := by unfold lbI; rw [IntKind.wrap_u8]; omega
 have : (lb n k).toNat = (lbI n k).toNat := by simp [lb]; omega
 omega
theorem yFR : madeCells #[Value.int .u8 0] 4 = #[.int .u8 0, .int .u8 0, .int .u8 0, .int .u8 0] := by kernel_rfl
def yeE (n : Int) : List UInt8 := [lb n 0, lb n 1, lb n 2, lb n 3]
theorem yuV (n : Int) (w : World) : Calls pP 83 #[.int .u32 n] w fun e w' => e = .returned (.string (bs (yeE n))) ∧ Mod [] w w' := by
 refine yaS (yC1 ?_)
 obtain ⟨i0, hi, hz0, hz1, hz2⟩ := info_parts yAb
 have hmk : (Instr.makeSlice 104 (.int .i64 4) (.int .i64 4)).run pP w = .ok (.slice (some ⟨w.heap.size, 0, none⟩) 4 4) (w.alloc (.cells (madeCells #[Value.int .u8 0] 4) 5)) := by
  have h := run_makeSlice (P := pP) w 104 5 i0 (.int .u8 0) Tryz.underlying104 hi hz0 .i64 .i64 4 4 (by omega) (by omega) (by rw [hz1]; decide) (by rw [hz2]; decide) (by decide)
  rw [hz1] at h
  exact h
 refine ⟨_, _, _, _, hmk, ?_⟩
 have M1 : Mod [] w (w.alloc (.cells (madeCells #[Value.int .u8 0] 4) 5)) := Mod.of_below ((Below.refl _ _).alloc (Nat.le_refl _) _)
 have h1 : (w.alloc (.cells (madeCells #[Value.int .u8 0] 4) 5)).heap[w.heap.size]? = some (.cells #[.int .u8 0, .int .u8 0, .int .u8 0, .int .u8 0] 5) := by
  have := World.alloc_heap_new w (.cells (madeCells #[Value.int .u8 0] 4) 5)
  rw [this, yFR]
 obtain ⟨f, hf⟩ : ∃ f : Nat → Nat → Value, f = fun k j => if j < k then .int .u8 (lbI n j) else .int .u8 0 := ⟨_, rfl⟩
 refine yuU (fun mm x w' => ∃ k : Nat, x = k ∧ k ≤ 4 ∧ w'.heap[w.heap.size]? = some (.cells #[f k 0, f k 1, f k 2, f k 3] 5) ∧ Mod [] w w' ∧ mm = 4 - k) 4 ⟨0, rfl, by omega, by rw [hf]; exact h1, M1, rfl⟩ ?_
 rintro mm x w2 ⟨k, rfl, hk, h2, M2, rfl⟩
 have e8 : k ≤ 3 → IntKind.wrap .i64 (8 * (k : Int)) = ((8 * k : Nat) : Int) := fun _ => by rw [yaF (by omega) (by omega)]; omega
 refine yaC (fun hlt => ⟨by rw [e8 (by omega)]; omega, ?_⟩) fun hge => ?_
 ·rw [e8 (by omega)]
  refine ⟨_, rfl, by omega, by omega, ?_⟩
  rw [show (⟨w.heap.size, 0, none⟩ : Addr).add (Int.toNat (k : Int) * 1) = ⟨w.heap.size, k, none⟩ by rw [ya0]; simp]
  have ek : IntKind.wrap .i64 ((k : Int) + 1) = ((k + 1 : Nat) : Int) := by rw [yaF (by omega) (by omega)]; omega
  refine ycT (o := k) h2 rfl (by simp; omega) fun w3 h3 M3 => ?_
  have hM : Mod [] w w3 := M2.go0 M3 (by simp)
  refine yuT (4 - (k + 1)) (by omega) ⟨k + 1, ek, by omega, ?_, hM, rfl⟩
  rw [h3]
  have hcs : k = 0 ∨ k = 1 ∨ k = 2 ∨ k = 3 := by omega
  subst hf
  rcases hcs with rfl | rfl | rfl | rfl <;> rfl
 ·have hk : k = 4 := by omega
  subst hk
  refine ⟨_, _, run_convert_bytes_back w2 _ _ 5 ⟨w.heap.size, 0, none⟩ 4 (yeE n) Tryz.underlying104 Tryz.underlying5 Tryz.underlying9 fun j hj => ?_, rfl, M2⟩
  rw [ya0, Nat.zero_add, yaU h2]
  subst hf
  have hj : j < 4 := hj
  match j, hj with
  | 0, _ => simp [yeE, yqA]
  | 1, _ => simp [yeE, yqA]
  | 2, _ => simp [yeE, yqA]
  | 3, _ => simp [yeE, yqA]
def yeB (s : ByteArray) : List UInt8 := ybU s ++ yeE (yyW s.data.toList)
theorem yqB (s : ByteArray) (hs : s.size ≤ 1000000000000) (w : World) : Calls pP 57 #[.string s] w fun e w' => e = .returned (.string (bs (yeB s))) ∧ Mod [] w w' := by
 refine yaS (yC2 ?_)
 refine (yb4 s (by omega) w).mono ?_
 rintro e w1 ⟨rfl, M1⟩
 refine ⟨_, rfl, ?_⟩
 refine (yAn s hs w1).mono ?_
 rintro e w2 ⟨rfl, M2⟩
 refine ⟨_, rfl, ?_⟩
 refine (yuV _ w2).mono ?_
 rintro e w3 ⟨rfl, M3⟩
 have := ya4 s (by omega)
 refine ⟨_, rfl, by rw [yaK, yaK]; simp [yeE]; omega, ?_⟩
 exact ⟨by rw [ygY]; rfl, (M1.go0 M2 (by simp)).go0 M3 (by simp)⟩
def vg : Nat → List UInt8 → Option (Nat × Nat)
 | _, [] => none
 | k, c :: r => if (k = 9 ∧ 1 < c.toNat) ∨ (0 < k ∧ c.toNat = 0) then none
  else if c.toNat < 128 then some (c.toNat, 1)
  else (vg (k + 1) r).map fun p => (c.toNat % 128 + 128 * p.1, p.2 + 1)
theorem yBk (k : Nat) (c : UInt8) (r : List UInt8) : vg k (c :: r) = if (k = 9 ∧ 1 < c.toNat) ∨ (0 < k ∧ c.toNat = 0) then none
 else if c.toNat < 128 then some (c.toNat, 1)
 else (vg (k + 1) r).map fun p => (c.toNat % 128 + 128 * p.1, p.2 + 1) := rfl
theorem ymP : ∀ (l : List UInt8) {k n m : Nat}, vg k l = some (n, m) → 1 ≤ m ∧ m ≤ l.length
 | [], k, n, m, h => by simp [vg] at h
 | c :: r, k, n, m, h => by
  unfold vg at h
  split at h
  ·simp at h
  split at h
  ·simp at h; simp; omega
  cases hr : vg (k + 1) r with
  | none => simp [hr] at h
  | some p =>
   have := ymP r (n := p.1) (m := p.2) hr
   simp [hr] at h; simp; omega
theorem yBl : ∀ (l : List UInt8) {k n m : Nat}, k ≤ 9 → vg k l = some (n, m) → n < 2 ^ (64 - 7 * k)
 | [], k, n, m, _, h => by simp [vg] at h
 | c :: r, k, n, m, hk, h => by
  unfold vg at h
  split at h
  ·simp at h
  rename_i hl
  split at h
  ·simp at h
   rename_i hc
   have h2 : 2 ^ 8 ≤ 2 ^ (64 - 7 * k) ∨ k = 9 := by
    by_cases k = 9
    ·exact .inr ‹_›
    ·exact .inl (Nat.pow_le_pow_right (by omega) (by omega))
   rcases h2 with h2 | rfl
   ·omega
   ·simp; omega
  cases hr : vg (k + 1) r with
  | none => simp [hr] at h
  | some p =>
   have hk9 : k ≠ 9 := by omega
   have := yBl r (n := p.1) (m := p.2) (by omega) hr
   have e : 64 - 7 * k = (64 - 7 * (k + 1)) + 7 := by omega
   rw [e, Nat.pow_add]
   simp [hr] at h
   omega
theorem yuW : ∀ (j k n : Nat) (r : List UInt8), j + k = 9 → n < 2 ^ (64 - 7 * k) → (0 < k → 0 < n) → vg k (yaM n ++ r) = some (n, (yaM n).length)
 | j, k, n, r, hj, hn, h0 => by
  unfold yaM
  by_cases hs : n < 128
  ·have e : (UInt8.ofNat n).toNat = n := by simp; omega
   rw [ydU hs]
   simp only [List.map_cons, List.map_nil, Bool.false_eq_true, if_false, List.cons_append, List.nil_append, vg, e, List.length_cons, List.length_nil]
   rw [if_neg, if_pos hs]
   rintro (⟨rfl, h⟩ | ⟨h1, h2⟩)
   ·simp at hn; omega
   ·omega
  ·have e : (UInt8.ofNat (n % 128 + 128)).toNat = n % 128 + 128 := by simp; omega
   have hk9 : k ≠ 9 := by rintro rfl; simp at hn; omega
   obtain ⟨j, rfl⟩ : ∃ i, j = i + 1 := ⟨j - 1, by omega⟩
   have e2 : 64 - 7 * k = (64 - 7 * (k + 1)) + 7 := by omega
   rw [e2, Nat.pow_add] at hn
   have ih := yuW j (k + 1) (n / 128) r (by omega) (by omega) (by omega)
   unfold yaM at ih
   rw [yhH hs]
   simp only [List.map_cons, if_true, List.cons_append, vg, e, List.length_cons]
   rw [if_neg (by omega), if_neg (by omega), ih]
   simp; omega
 termination_by j => j
theorem yFS (a b : Nat) (ha : a < 18446744073709551616) (hb : b < 18446744073709551616) : bOr .u64 a b = ((a ||| b : Nat) : Int) := by
 have h : a ||| b < 2 ^ 64 := Nat.or_lt_two_pow ha hb
 unfold bOr
 rw [IntKind.wrap_u64]
 simp only [BitVec.toNat_or, BitVec.toNat_ofInt]
 have e1 : ((a : Int) % ((2 ^ IntKind.bits .u64 : Nat) : Int)).toNat = a := by
  show ((a : Int) % ((2 ^ 64 : Nat) : Int)).toNat = a
  omega
 have e2 : ((b : Int) % ((2 ^ IntKind.bits .u64 : Nat) : Int)).toNat = b := by
  show ((b : Int) % ((2 ^ 64 : Nat) : Int)).toNat = b
  omega
 rw [e1, e2]
 omega
theorem yBm : ∀ c : Fin 256, yiV .u8 ((c.val : Nat) : Int) 127 = ((c.val % 128 : Nat) : Int) := by decide +kernel
theorem vstep {acc k c : Nat} (hk : k ≤ 9) (ha : acc < 2 ^ (7 * k)) (hc : c < 256) (h9 : k = 9 → c ≤ 1) :
  bOr .u64 (acc : Int) (IntKind.wrap .u64 ((IntKind.wrap .u64 (yiV .u8 (c : Nat) 127)) * 2 ^ (min (Int.toNat (IntKind.wrap .i64 (7 * (k : Nat)))) 64))) = ((acc + 2 ^ (7 * k) * (c % 128) : Nat) : Int) := by
 have e0 := yBm ⟨c, hc⟩
 have e1 : min (Int.toNat (IntKind.wrap .i64 (7 * (k : Nat)))) 64 = 7 * k := by rw [yaF (by omega) (by omega)]; omega
 rw [e0, e1, yg6 (by omega)]
 have hp : 2 ^ (7 * k) * (c % 128) < 2 ^ 64 := by
  have hcs : k = 0 ∨ k = 1 ∨ k = 2 ∨ k = 3 ∨ k = 4 ∨ k = 5 ∨ k = 6 ∨ k = 7 ∨ k = 8 ∨ k = 9 := by omega
  rcases hcs with rfl | rfl | rfl | rfl | rfl | rfl | rfl | rfl | rfl | rfl <;> simp <;> omega
 have e2 : (((c % 128 : Nat) : Int) * 2 ^ (7 * k)) = ((2 ^ (7 * k) * (c % 128) : Nat) : Int) := by
  rw [Int.natCast_mul, Int.natCast_pow, Int.mul_comm]; rfl
 rw [e2, yg6 (by omega)]
 have hp2 : 2 ^ (7 * k) ≤ 2 ^ 63 := Nat.pow_le_pow_right (by omega) (by omega)
 rw [yFS _ _ (by omega) (by omega)]
 congr 1
 rw [Nat.or_comm, ← Nat.two_pow_add_eq_or_of_lt ha, Nat.add_comm]
def yFs (at_ : Nat) : Option (Nat × Nat) → Value → Prop
 | some (n, m), v => v = .tuple #[.int .u64 (n : Nat), .int .i64 ((at_ + m : Nat) : Int), .int .i64 0]
 | none, v => ∃ e : Int, e ≠ 0 ∧ v = .tuple #[.int .u64 0, .int .i64 0, .int .i64 e]
set_option maxRecDepth 20000 in
theorem yfJ (s : ByteArray) (a : Nat) (hs : s.size ≤ 1000000000000) (ha : a ≤ s.size) (w : World) :
  Calls pP 86 #[.string s, .int .i64 (a : Nat)] w fun e w' => ∃ v, e = .returned v ∧ yFs a (vg 0 (s.data.toList.drop a)) v ∧ w' = w := by
 refine yCN ?_
 refine yaC (fun h => by omega) fun _ => yaC (fun h => by omega) fun _ => ?_
 refine yuN (fun mm x y w' => ∃ k acc : Nat, y = k ∧ x = acc ∧ k ≤ 9 ∧ acc < 2 ^ (7 * k) ∧ w' = w ∧ a + k ≤ s.size ∧
  vg 0 (s.data.toList.drop a) = (vg k (s.data.toList.drop (a + k))).map (fun p => (acc + 2 ^ (7 * k) * p.1, k + p.2)) ∧ mm = 9 - k) 9 ⟨0, 0, rfl, rfl, by omega, by simp, rfl, by omega, by simp, rfl⟩ ?_
 rintro mm x y w1 ⟨k, acc, rfl, rfl, hk, hacc, rfl, hak, hv, rfl⟩
 have e1 : IntKind.wrap .i64 ((a : Int) + (k : Int)) = ((a + k : Nat) : Int) := by rw [yaF (by omega) (by omega)]; omega
 rw [e1]
 refine yaC (fun hge => ?_) fun hlt => ?_
 ·refine ⟨?_, rfl⟩
  rw [hv, List.drop_eq_nil_of_le (by simp; omega)]
  exact ⟨10, by decide, rfl⟩
 have hlt' : a + k < s.size := by omega
 obtain ⟨c, hc, hcv⟩ := ygF hlt'
 refine ⟨by omega, by omega, ?_⟩
 rw [Int.toNat_natCast, hcv]
 have hdr : s.data.toList.drop (a + k) = c :: s.data.toList.drop (a + (k + 1)) := by
  obtain ⟨hl, he⟩ := List.getElem?_eq_some_iff.1 hc
  rw [List.drop_eq_getElem_cons hl, he]; rfl
 have hc8 := c.toNat_lt
 have hlong : Calls pP 123 #[.int .u8 (c.toNat : Nat), .int .i64 (k : Nat)] w1 fun e w' => e = .returned (.bool (decide ((k = 9 ∧ 1 < c.toNat) ∨ (0 < k ∧ c.toNat = 0)))) ∧ w' = w1 := by
  refine yaS (yCK ?_)
  have tail : brB (decide ((k : Int) > 0)) (Value.bool ((c.toNat : Int) == 0) = Value.bool (decide ((k = 9 ∧ 1 < c.toNat) ∨ (0 < k ∧ c.toNat = 0))) ∧ w1 = w1) (Value.bool false = Value.bool (decide ((k = 9 ∧ 1 < c.toNat) ∨ (0 < k ∧ c.toNat = 0))) ∧ w1 = w1) ∨ (k = 9 ∧ 1 < c.toNat) := by
   by_cases h9 : k = 9 ∧ 1 < c.toNat
   ·exact .inr h9
   refine .inl (yaC (fun hp => ⟨?_, rfl⟩) fun hn => ⟨?_, rfl⟩)
   ·congr 1
    rw [Bool.eq_iff_iff]; simp; omega
   ·congr 1
    symm
    rw [decide_eq_false_iff_not]; omega
  refine yaB (fun h => ?_) fun h => ?_
  ·have h : (k : Int) = 9 := by simpa using h
   refine yaC (fun h1 => ⟨?_, rfl⟩) fun h1 => ?_
   ·congr 1
    symm
    rw [decide_eq_true_iff]; omega
   ·rcases tail with t | t
    ·exact t
    ·omega
  ·have h : ¬ (k : Int) = 9 := by simpa using h
   rcases tail with t | t
   ·exact t
   ·omega
 refine hlong.mono ?_
 rintro e w2 ⟨rfl, rfl⟩
 refine ⟨_, rfl, ?_⟩
 rw [hdr, yBk] at hv
 refine yaC (fun hb => ?_) fun hb => ?_
 ·refine ⟨?_, rfl⟩
  rw [hv, if_pos hb]
  exact ⟨11, by decide, rfl⟩
 rw [if_neg hb] at hv
 have hst := vstep (acc := acc) (k := k) (c := c.toNat) hk hacc (by omega) (by omega)
 refine ⟨by rw [yaF (by omega) (by omega)]; omega, ?_⟩
 rw [hst]
 refine yaC (fun hsm => ?_) fun hbg => ?_
 ·have hsm : c.toNat < 128 := by omega
  rw [if_pos hsm] at hv
  refine ⟨?_, rfl⟩
  rw [hv, yaF (by omega) (by omega)]
  have e4 : c.toNat % 128 = c.toNat := by omega
  simp only [Option.map_some, yFs, e4]
  congr 3
 ·have hbg : ¬ c.toNat < 128 := by omega
  rw [if_neg hbg] at hv
  refine yuM (9 - (k + 1)) (by omega) ⟨k + 1, acc + 2 ^ (7 * k) * (c.toNat % 128), by rw [yaF (by omega) (by omega)]; omega, rfl, by omega, ?_, rfl, by omega, ?_, rfl⟩
  ·have e : 7 * (k + 1) = 7 * k + 7 := by omega
   rw [e, Nat.pow_add]
   have h5 : c.toNat % 128 ≤ 127 := by omega
   have := Nat.mul_le_mul_left (2 ^ (7 * k)) h5
   omega
  ·rw [hv, Option.map_map]
   congr 1
   funext p
   have e : 7 * (k + 1) = 7 * k + 7 := by omega
   simp only [Function.comp]
   rw [e, Nat.pow_add, Nat.mul_add, ← Nat.mul_assoc]
   congr 1
   ·rw [Nat.add_assoc]
   ·omega
def tg (lim : Nat) (l : List UInt8) : Option (ByteArray × Nat) := match vg 0 l with
 | none => none
 | some (n, m) => if n ≤ lim ∧ n ≤ l.length - m then some (bs ((l.drop m).take n), m + n) else none
def yyX (at_ : Nat) : Option (ByteArray × Nat) → Value → Prop
 | some (t, m), v => v = .tuple #[.string t, .int .i64 ((at_ + m : Nat) : Int), .int .i64 0]
 | none, v => ∃ e : Int, e ≠ 0 ∧ v = .tuple #[.string ⟨#[]⟩, .int .i64 0, .int .i64 e]
theorem ymQ (s : ByteArray) : bs s.data.toList = s := by
 apply ByteArray.ext; simp [bs]
theorem ymR {a b : List UInt8} (h : bs a = bs b) : a = b := by
 have := congrArg (fun s : ByteArray => s.data.toList) h
 simpa [bs] using this
theorem ydL (l : List UInt8) : (bs l).data.toList = l := by simp [bs]
theorem yAo (s : ByteArray) (a n : Nat) (h : a + n ≤ s.size) : s.extract a (a + n) = bs ((s.data.toList.drop a).take n) := by
 apply ByteArray.ext
 rw [ByteArray.data_extract]
 apply Array.ext'
 rw [Array.toList_extract]
 simp [bs, List.extract_eq_take_drop]
theorem yjQ {lim : Nat} {l : List UInt8} {t : ByteArray} {m : Nat} (h : tg lim l = some (t, m)) : 1 ≤ m ∧ m ≤ l.length ∧ t.size ≤ lim ∧ t.size + 1 ≤ m := by
 unfold tg at h
 split at h
 ·cases h
 rename_i n k hv
 have := ymP l hv
 split at h
 ·simp only [Option.some.injEq, Prod.mk.injEq] at h
  obtain ⟨rfl, rfl⟩ := h
  rw [yaK, List.length_take, List.length_drop]
  omega
 ·cases h
theorem yAp {lim : Nat} (s : ByteArray) (r : List UInt8) (h : s.size ≤ lim) (hs : s.size < 18446744073709551616) : tg lim (ybU s ++ r) = some (s, (ybU s).length) := by
 have hv := yuW 9 0 s.size (s.data.toList ++ r) rfl (by simpa using hs) (by omega)
 unfold tg ybU
 rw [List.append_assoc, hv]
 have e : s.data.toList.length = s.size := by simp
 simp only [List.length_append, List.drop_left']
 rw [if_pos (by simp; omega)]
 simp only [Option.some.injEq, Prod.mk.injEq]
 refine ⟨?_, by rw [e]⟩
 rw [← e, List.take_left', ymQ]
 rfl
set_option maxRecDepth 20000 in
theorem ycV (s : ByteArray) (a lim : Nat) (hs : s.size ≤ 1000000000000) (ha : a ≤ s.size) (hl : lim ≤ 1000000000000) (w : World) :
  Calls pP 85 #[.string s, .int .i64 (a : Nat), .int .i64 (lim : Nat)] w fun e w' => ∃ v, e = .returned v ∧ yyX a (tg lim (s.data.toList.drop a)) v ∧ w' = w := by
 refine yCO ?_
 refine (yfJ s a hs ha w).mono ?_
 rintro e w1 ⟨v, rfl, hv, rfl⟩
 cases hg : vg 0 (s.data.toList.drop a) with
 | none =>
  rw [hg] at hv
  obtain ⟨e, he, rfl⟩ := hv
  refine ⟨_, _, _, rfl, ?_⟩
  rw [show (e != 0) = true by simpa using he]
  refine ⟨?_, rfl⟩
  unfold tg; rw [hg]
  exact ⟨e, he, rfl⟩
 | some p =>
  obtain ⟨n, m⟩ := p
  rw [hg] at hv
  have hv : v = .tuple #[.int .u64 (n : Nat), .int .i64 ((a + m : Nat) : Int), .int .i64 0] := hv
  subst hv
  have hm := ymP _ hg
  have hn := yBl _ (by omega) hg
  have el : (s.data.toList.drop a).length = s.size - a := by simp
  have et : tg lim (s.data.toList.drop a) = if n ≤ lim ∧ n ≤ (s.data.toList.drop a).length - m then some (bs (((s.data.toList.drop a).drop m).take n), m + n) else none := by
   unfold tg; rw [hg]
  rw [el] at hm et
  refine ⟨_, _, _, rfl, ?_⟩
  rw [show ((0 : Int) != 0) = false from rfl, ycY]
  refine yaC (fun h => by omega) fun _ => ?_
  have e1 : IntKind.wrap .i64 ((s.size : Int) - ((a + m : Nat) : Int)) = ((s.size - (a + m) : Nat) : Int) := by rw [yaF (by omega) (by omega)]; omega
  rw [yg6 (by omega), e1, yg6 (by omega)]
  refine yaC (fun h => ?_) fun h => ?_
  ·refine ⟨?_, rfl⟩
   rw [et, if_neg (by omega)]
   exact ⟨2, by decide, rfl⟩
  refine yaC (fun h2 => ?_) fun h2 => ?_
  ·refine ⟨?_, rfl⟩
   rw [et, if_neg (by omega)]
   exact ⟨10, by decide, rfl⟩
  have e2 : IntKind.wrap .i64 ((n : Nat) : Int) = ((n : Nat) : Int) := yaF (by omega) (by omega)
  have e3 : IntKind.wrap .i64 (((a + m : Nat) : Int) + ((n : Nat) : Int)) = ((a + m + n : Nat) : Int) := by rw [yaF (by omega) (by omega)]; omega
  rw [e2, e3]
  refine ⟨by omega, by omega, by omega, ?_, rfl⟩
  rw [et, if_pos (by omega), Int.toNat_natCast, Int.toNat_natCast, yAo s (a + m) n (by omega), List.drop_drop]
  exact congrArg (fun k : Nat => Value.tuple #[.string (bs (List.take n (List.drop (a + m) s.data.toList))), .int .i64 (k : Int), .int .i64 0]) (by omega)
def cg (lim : Nat) (l : List UInt8) : Option (ByteArray × Nat) := match tg lim l with
 | none => none
 | some (t, m) => if 4 ≤ l.length - m ∧ (l.drop m).take 4 = yeE (yyW t.data.toList) then some (t, m + 4) else none
theorem yAq {lim : Nat} {l : List UInt8} {t : ByteArray} {m : Nat} (h : cg lim l = some (t, m)) : 1 ≤ m ∧ m ≤ l.length ∧ t.size ≤ lim ∧ t.size + 1 ≤ m := by
 unfold cg at h
 split at h
 ·cases h
 rename_i n k hv
 have := yjQ hv
 split at h
 ·simp only [Option.some.injEq, Prod.mk.injEq] at h
  obtain ⟨rfl, rfl⟩ := h
  omega
 ·cases h
theorem ygI (s : ByteArray) : (yeB s).length = (ybU s).length + 4 := by simp [yeB, yeE]
theorem yqC {lim : Nat} (s : ByteArray) (r : List UInt8) (h : s.size ≤ lim) (hs : s.size < 18446744073709551616) : cg lim (yeB s ++ r) = some (s, (yeB s).length) := by
 unfold cg
 rw [show yeB s ++ r = ybU s ++ (yeE (yyW s.data.toList) ++ r) by simp [yeB], yAp s _ h hs]
 simp only [List.length_append, List.drop_left']
 rw [if_pos ⟨by simp [yeE], by simp [yeE]⟩, ygI]
set_option maxRecDepth 20000 in
theorem ymS (s : ByteArray) (a lim : Nat) (hs : s.size ≤ 1000000000000) (ha : a ≤ s.size) (hl : lim ≤ 1000000000000) (w : World) :
  Calls pP 58 #[.string s, .int .i64 (a : Nat), .int .i64 (lim : Nat)] w fun e w' => ∃ v, e = .returned v ∧ yyX a (cg lim (s.data.toList.drop a)) v ∧ Mod [] w w' := by
 refine yC3 ?_
 refine (ycV s a lim hs ha hl w).mono ?_
 rintro e w1 ⟨v, rfl, hv, rfl⟩
 cases hg : tg lim (s.data.toList.drop a) with
 | none =>
  rw [hg] at hv
  obtain ⟨e, he, rfl⟩ := hv
  refine ⟨_, _, _, rfl, ?_⟩
  rw [show (e != 0) = true by simpa using he]
  refine ⟨?_, Mod.refl _⟩
  unfold cg; rw [hg]
  exact ⟨e, he, rfl⟩
 | some p =>
  obtain ⟨t, m⟩ := p
  rw [hg] at hv
  have hv : v = .tuple #[.string t, .int .i64 ((a + m : Nat) : Int), .int .i64 0] := hv
  subst hv
  have hm := yjQ hg
  have el : (s.data.toList.drop a).length = s.size - a := by simp
  have et : cg lim (s.data.toList.drop a) = if 4 ≤ (s.data.toList.drop a).length - m ∧ ((s.data.toList.drop a).drop m).take 4 = yeE (yyW t.data.toList) then some (t, m + 4) else none := by
   unfold cg; rw [hg]
  rw [el] at hm et
  refine ⟨_, _, _, rfl, ?_⟩
  have e1 : IntKind.wrap .i64 ((s.size : Int) - ((a + m : Nat) : Int)) = ((s.size - (a + m) : Nat) : Int) := by rw [yaF (by omega) (by omega)]; omega
  have e2 : IntKind.wrap .i64 (((a + m : Nat) : Int) + 4) = ((a + m + 4 : Nat) : Int) := by rw [yaF (by omega) (by omega)]; omega
  rw [show ((0 : Int) != 0) = false from rfl, ycY]
  rw [e1, e2]
  refine yaC (fun h => ?_) fun h => ?_
  ·refine ⟨?_, Mod.refl _⟩
   rw [et, if_neg (by omega)]
   exact ⟨20, by decide, rfl⟩
  refine ⟨by omega, by omega, by omega, fun w2 A2 => ?_⟩
  refine (yAn t (by omega) w2).mono ?_
  rintro e w3 ⟨rfl, M3⟩
  refine ⟨_, rfl, ?_⟩
  refine (yuV _ w3).mono ?_
  rintro e w4 ⟨rfl, M4⟩
  have hM : Mod [] w1 w4 := (A2.mod.go0 M3 (by simp)).go0 M4 (by simp)
  refine ⟨_, rfl, ?_⟩
  rw [Int.toNat_natCast, Int.toNat_natCast, yAo s (a + m) 4 (by omega)]
  have hbe : ((bs (List.take 4 (List.drop (a + m) s.data.toList))).toList == (bs (yeE (yyW t.data.toList))).toList) = decide (List.take 4 (List.drop (a + m) s.data.toList) = yeE (yyW t.data.toList)) := by
   rw [Bool.eq_iff_iff, beq_iff_eq, decide_eq_true_iff]
   constructor
   ·intro h; exact ymR (ycU.1 h)
   ·intro h; rw [h]
  rw [hbe]
  rw [List.drop_drop] at et
  refine yaB (fun h => ?_) fun h => ?_
  ·have h : ¬ List.take 4 (List.drop (a + m) s.data.toList) = yeE (yyW t.data.toList) := by simpa using h
   refine ⟨?_, hM⟩
   rw [et, if_neg (fun hh => h hh.2)]
   exact ⟨21, by decide, rfl⟩
  ·have h : List.take 4 (List.drop (a + m) s.data.toList) = yeE (yyW t.data.toList) := by simpa using h
   refine ⟨?_, hM⟩
   rw [et, if_pos ⟨by omega, h⟩]
   exact congrArg (fun k : Nat => Value.tuple #[.string t, .int .i64 (k : Int), .int .i64 0]) (show a + m + 4 = a + (m + 4) by omega)
theorem yb2.ixW {α : Type} {w : World} {sz : Nat} {enc : α → List Value} {a : Option Addr} {n : Nat} {l : List α} {i : Nat} {x : α} {F : Addr → Prop} (h : yb2 w sz enc a n l) (hx : l[i]? = some x)
  (hF : ∀ q, (∀ w', Mod [] w w' → ∀ j v, (enc x)[j]? = some v → w'.cell? (q.add j) = some v) → F q) : ixA a n (i : Int) sz F := by
 obtain ⟨ad, ha, hc⟩ := h.2 i x hx
 have hl := (List.getElem?_eq_some_iff.1 hx).1
 refine ⟨ad, ha, by omega, by rw [h.1]; omega, hF _ fun w' M j v hj => ?_⟩
 obtain ⟨ad', ha', hc'⟩ := (h.keep0 M).2 i x hx
 rw [ha] at ha'; cases ha'
 simpa using hc' j v hj
theorem yh9 : ∀ (vs : List Value) (c : Array Value) (i j : Nat), i + vs.length ≤ c.size → (ybH c i vs).toList[j]? = if i ≤ j ∧ j < i + vs.length then vs[j - i]? else c.toList[j]?
 | [], c, i, j, h => by
  rw [if_neg (by simp)]; rfl
 | v :: r, c, i, j, h => by
  simp only [List.length_cons] at h
  rw [ybH, yh9 r _ _ _ (by simp; omega)]
  simp only [Array.toList_setIfInBounds, List.length_cons]
  by_cases h1 : i = j
  ·subst h1
   have hi : i < c.toList.length := by simp; omega
   rw [if_neg (by omega), if_pos (by omega), List.getElem?_set_self hi, Nat.sub_self]; rfl
  ·by_cases h2 : i + 1 ≤ j ∧ j < i + 1 + r.length
   ·rw [if_pos h2, if_pos (by omega), show j - i = (j - (i + 1)) + 1 by omega]; rfl
   ·rw [if_neg h2, if_neg (by omega), List.getElem?_set_ne h1]
structure PBatch where
 prod : Int
 epoch : Int
 seq : Int
 recs : List PRec
 deriving DecidableEq
structure POp where
 kind : Int
 part : PPart
 n : Int
 off : Int
 b : PBatch
 g : ByteArray
 m : ByteArray
 gen : Int
 robin : Bool
 topics : List ByteArray
 deriving DecidableEq
structure PCall where
 c : Int
 n : Int
 op : POp
 deriving DecidableEq
def ye5 (r : PRec) : List Value := [.bool r.hk, .string r.key, .bool r.tomb, .string r.val]
def yi3 (s : ByteArray) : List Value := [.string s]
theorem yyY (r : PRec) : (ye5 r).length = 4 := rfl
theorem yyZ (s : ByteArray) : (yi3 s).length = 1 := rfl
theorem yqD (x : PRec) : ∀ u ∈ ye5 x, u.oneCell' = true := by simp [ye5, Value.oneCell']
theorem yqE (x : ByteArray) : ∀ u ∈ yi3 x, u.oneCell' = true := by simp [yi3, Value.oneCell']
def POp.cs (o : POp) (rs ts : Sl) : List Value := [.int .i64 o.kind, .string o.part.t, .int .i64 o.part.n, .int .i64 o.n, .int .i64 o.off, .int .i64 o.b.prod, .int .i64 o.b.epoch, .int .i64 o.b.seq, .slice rs.a rs.n rs.c, .string o.g, .string o.m, .int .i64 o.gen, .bool o.robin, .slice ts.a ts.n ts.c]
def POp.v (o : POp) (rs ts : Sl) : Value := .agg #[.int .i64 o.kind, .string o.part.t, .int .i64 o.part.n, .int .i64 o.n, .int .i64 o.off, .int .i64 o.b.prod, .int .i64 o.b.epoch, .int .i64 o.b.seq, .slice rs.a rs.n rs.c, .string o.g, .string o.m, .int .i64 o.gen, .bool o.robin, .slice ts.a ts.n ts.c]
def ybM : PBatch := ⟨0, 0, 0, []⟩
def op0 : POp := ⟨0, ⟨⟨#[]⟩, 0⟩, 0, 0, ybM, ⟨#[]⟩, ⟨#[]⟩, 0, false, []⟩
structure OpAt (w : World) (o : POp) (rs ts : Sl) : Prop where
 recs : yb2 w 4 ye5 rs.a rs.n o.b.recs
 topics : yb2 w 1 yi3 ts.a ts.n o.topics
 lr : o.b.recs.length ≤ 1000000
 lt : o.topics.length ≤ 1000000
structure OpOwn (w : World) (base : Nat) (o : POp) (rs ts : Sl) : Prop where
 recs : Row w base 99 4 ye5 rs.a rs.n rs.c o.b.recs
 topics : Row w base 9 1 yi3 ts.a ts.n ts.c o.topics
 lr : o.b.recs.length ≤ 1000000
 lt : o.topics.length ≤ 1000000
theorem OpOwn.at {w : World} {base : Nat} {o : POp} {rs ts : Sl} (h : OpOwn w base o rs ts) : OpAt w o rs ts := ⟨h.recs.sl yyY, h.topics.sl yyZ, h.lr, h.lt⟩
theorem OpAt.keep0 {w w' : World} {o : POp} {rs ts : Sl} (h : OpAt w o rs ts) (M : Mod [] w w') : OpAt w' o rs ts := ⟨h.recs.keep0 M, h.topics.keep0 M, h.lr, h.lt⟩
theorem OpOwn.keep0 {w w' : World} {base : Nat} {o : POp} {rs ts : Sl} (h : OpOwn w base o rs ts) (M : Mod [] w w') : OpOwn w' base o rs ts := ⟨h.recs.keep0 M, h.topics.keep0 M, h.lr, h.lt⟩
theorem OpOwn.rebase {w : World} {base base' : Nat} {o : POp} {rs ts : Sl} (h : OpOwn w base o rs ts) (hb : base' ≤ base) : OpOwn w base' o rs ts := ⟨h.recs.rebase hb, h.topics.rebase hb, h.lr, h.lt⟩
theorem yn8 (w : World) (base : Nat) : OpOwn w base op0 ⟨none, 0, 0⟩ ⟨none, 0, 0⟩ := ⟨Row.nil .., Row.nil .., by simp [op0, ybM], by simp [op0]⟩
def yb0 (b : PBatch) : Int :=
 if (num b.prod && num b.epoch && num b.seq) = false then 1 else if b.recs.length = 0 then 30 else if b.recs.length > 16 then 2 else
  match b.recs.find? fun r => yg5 r ≠ 0 with
  | none => 0
  | some r => yg5 r
def yFT (k : Int) : List Nat :=
 if k = 0 then [116, 110] else if k = 1 then [110] else if k = 2 then [112, 98] else if k = 3 then [112, 111, 110] else if k = 4 then [112, 111] else if k = 5 then [112]
 else if k = 6 then [103, 109, 110, 114, 108] else if k = 7 then [103, 109, 101] else if k = 8 then [103, 109, 101] else if k = 9 then [103, 109, 101] else if k = 10 then [103, 109, 101, 112, 111] else if k = 11 then [103, 112] else [110]
def ha (k : Int) (c : Nat) : Bool := (yFT k).contains c
def yiA (s : ByteArray) : Bool := decide (s.size = 0)
def yBn (s t : ByteArray) : Bool := Op.bytesLess s.toList t.toList
def yg8 : List ByteArray → Bool
 | s :: t :: r => yBn s t && yg8 (t :: r)
 | _ => true
def ydV (l : List ByteArray) : Bool := decide (1 ≤ l.length ∧ l.length ≤ 8) && l.all ycA && yg8 l
def yiB (o : POp) : Bool :=
 (ha o.kind 112 || ha o.kind 116 || yiA o.part.t) && (ha o.kind 112 || decide (o.part.n = 0)) && (ha o.kind 110 || decide (o.n = 0)) && (ha o.kind 111 || decide (o.off = 0)) &&
 (ha o.kind 98 || decide (o.b = ybM)) && (ha o.kind 103 || yiA o.g) && (ha o.kind 109 || yiA o.m) && (ha o.kind 101 || decide (o.gen = 0)) && (ha o.kind 114 || (!o.robin && decide (o.topics = [])))
def yy0 (o : POp) : Bool :=
 yiB o && (!(ha o.kind 112 || ha o.kind 116) || ycA o.part.t) && (!ha o.kind 103 || ycA o.g) && (!ha o.kind 109 || ycA o.m) && (!ha o.kind 108 || ydV o.topics)
def opE (o : POp) : Int :=
 if o.kind < 0 ∨ o.kind > 12 then 41 else if yy0 o = false then 40 else if (num o.part.n && num o.n && num o.off && num o.gen) = false then 1 else if o.kind = 2 then yb0 o.b else 0
def chF (o : POp) : Bool := (ha o.kind 103 && !ycA o.g) || (ha o.kind 109 && !ycA o.m) || ((ha o.kind 112 || ha o.kind 116) && !ycA o.part.t) || (ha o.kind 108 && !ydV o.topics)
def chA (o : POp) : Bool := (ha o.kind 112 && !num o.part.n) || (ha o.kind 110 && !num o.n) || (ha o.kind 111 && !num o.off) || (ha o.kind 101 && !num o.gen)
def chE (o : POp) : Int := if ha o.kind 98 then yb0 o.b else 0
def es : ByteArray := ⟨#[]⟩
def chO (o : POp) : POp := ⟨o.kind, ⟨if ha o.kind 112 || ha o.kind 116 then es else o.part.t, if ha o.kind 112 then 0 else o.part.n⟩, if ha o.kind 110 then 0 else o.n, if ha o.kind 111 then 0 else o.off,
 if ha o.kind 98 then ybM else o.b, if ha o.kind 103 then es else o.g, if ha o.kind 109 then es else o.m, if ha o.kind 101 then 0 else o.gen, if ha o.kind 114 then false else o.robin, if ha o.kind 114 then [] else o.topics⟩
theorem yiC (s : ByteArray) : yiA s = decide (s = es) := by
 unfold yiA es
 by_cases h : s.size = 0
 ·rw [decide_eq_true h, decide_eq_true ((yk5 s).2 h)]
 ·rw [decide_eq_false h, decide_eq_false fun e => h ((yk5 s).1 e)]
theorem yBo {α : Type} (p : Bool) (x d : α) : ((if p = true then d else x) = d) ↔ (p = true ∨ x = d) := by cases p <;> simp
theorem yy1 {α : Type} (p t : Bool) (x d : α) : ((if p = true ∨ t = true then d else x) = d) ↔ (p = true ∨ t = true ∨ x = d) := by cases p <;> cases t <;> simp
theorem yy2 (o : POp) : decide ({ chO o with kind := 0 } = op0) = yiB o := by
 rw [Bool.eq_iff_iff, decide_eq_true_iff]
 unfold yiB
 rw [yiC, yiC, yiC]
 unfold chO op0
 simp only [POp.mk.injEq, PPart.mk.injEq, true_and, Bool.and_eq_true, decide_eq_true_iff, yy1, show (⟨#[]⟩ : ByteArray) = es from rfl, yBo, Bool.or_eq_true, or_and_left, Bool.not_eq_true', and_assoc, or_assoc]
theorem yFt {p : Bool} {x : Int} (h : (p || decide (x = 0)) = true) : num x = !(p && !num x) := by
 cases p
 ·have : x = 0 := by simpa using h
  subst this; rfl
 ·simp
theorem yGk {k : Int} (h0 : ¬ (k < 0 ∨ k > 12)) : ha k 98 = decide (k = 2) := by
 have : k = 0 ∨ k = 1 ∨ k = 2 ∨ k = 3 ∨ k = 4 ∨ k = 5 ∨ k = 6 ∨ k = 7 ∨ k = 8 ∨ k = 9 ∨ k = 10 ∨ k = 11 ∨ k = 12 := by omega
 rcases this with rfl | rfl | rfl | rfl | rfl | rfl | rfl | rfl | rfl | rfl | rfl | rfl | rfl <;> decide
theorem yuX (o : POp) (h0 : ¬ (o.kind < 0 ∨ o.kind > 12)) : opE o = if (chF o || !decide ({ chO o with kind := 0 } = op0)) = true then 40 else if chA o = true then 1 else chE o := by
 rw [yy2, opE, if_neg h0]
 have hf : yy0 o = !(chF o || !yiB o) := by
  unfold yy0 chF
  generalize yiB o = a
  generalize ha o.kind 103 = b1
  generalize ha o.kind 109 = b2
  generalize (ha o.kind 112 || ha o.kind 116) = b3
  generalize ha o.kind 108 = b4
  cases a <;> cases b1 <;> cases b2 <;> cases b3 <;> cases b4 <;> simp [Bool.and_comm, Bool.and_assoc, Bool.and_left_comm]
 rw [hf]
 cases h : (chF o || !yiB o)
 ·simp only [Bool.not_false, Bool.true_eq_false, if_false, Bool.false_eq_true]
  have ho : yiB o = true := by cases hh : yiB o; rw [hh] at h; simp at h; rfl
  unfold yiB at ho
  simp only [Bool.and_eq_true] at ho
  obtain ⟨⟨⟨⟨⟨⟨⟨⟨_, h1⟩, h2⟩, h3⟩, _⟩, _⟩, _⟩, h4⟩, _⟩ := ho
  have e : (num o.part.n && num o.n && num o.off && num o.gen) = !chA o := by
   rw [yFt h1, yFt h2, yFt h3, yFt h4]
   unfold chA
   simp only [Bool.not_or, Bool.and_assoc]
  rw [e, chE, yGk h0]
  cases chA o <;> simp
 ·simp
section
set_option maxRecDepth 100000
variable {R : VWP} {w w0 : World} {m : Nat} {i0 i1 i2 i3 i4 i5 i6 i7 i8 i9 j0 j1 j2 j3 j4 j5 j6 j7 j8 j9 k0 k1 k2 k3 k4 k5 k6 k7 k8 k9 l0 l1 l2 l3 l4 l5 l6 l7 l8 l9 : Int} {s0 s1 s2 s3 s4 s5 s6 s7 s8 s9 t0 t1 t2 t3 t4 t5 t6 t7 t8 t9 : BA} {n0 n1 n2 n3 n4 n5 n6 n7 n8 n9 o0 o1 o2 o3 o4 o5 o6 o7 o8 o9 p0 p1 p2 p3 p4 p5 p6 p7 p8 p9 : Nat} {q0 q1 q2 q3 q4 q5 q6 q7 q8 q9 r0 r1 r2 r3 r4 r5 r6 r7 r8 r9 : OA} {B0 B1 B2 B3 B4 B5 B6 B7 B8 B9 : Bool} {M0 M1 M2 M3 : Option Nat} {V0 V1 V2 V3 V4 V5 : Value} {A0 A1 A2 : Addr}
theorem yC5 (h :
 brB (decide (i0 ≥ 0)) (
 R (.bool (decide (i0 ≤ 1099511627776))) w)
 (
 R (.bool false) w)) :
 CR pP 190 #[.int .i64 i0] w R :=
 yaA Tryz.wide_mixed (an := []) Tryz.func190 rfl rfl (by kernel_rfl) rfl (Eq.mpr (by kernel_rfl) h)
def yn9 : LA := ⟨[0, 0, 1, 0, 1, 1], [34, 35, 36], [], 1, []⟩
def yqF : List LA := [yn9]
abbrev yC6 := dnF pP yqF (code Tryz.f189)
abbrev yGl := yaW pP yqF (code Tryz.f189)
abbrev yC7 (p : List Nat) (K : List Kh) (R : VWP) := yaW pP yqF (code Tryz.f189) p K (ybI pP Tryz.f189 [] R)
def yjR (a6 : OA) (a8 a7 : Nat) (a9 : Int) (bm0 : Nat) (a3 a4 a5 : Int) (a0 : OA) (a2 a1 : Nat) : Int → List Value × List TB := fun b0 => ([.slice a6 a8 a7, .int .i64 a9, .int .i64 b0], [⟨bm0, 45, [.int .i64 a3, .int .i64 a4, .int .i64 a5, .slice a0 a2 a1], false⟩])
abbrev yAr (a6 : OA) (a8 a7 : Nat) (a9 : Int) (bm0 : Nat) (a3 a4 a5 : Int) (a0 : OA) (a2 a1 : Nat) (I : Nat → Int → World → Prop) (m : Nat) : Kh := KG (yjR a6 a8 a7 a9 bm0 a3 a4 a5 a0 a2 a1) (U1 I) m
theorem yuY {I : Nat → Int → World → Prop} (m' : Nat) (h1 : m' < m) (h2 : I m' i4 w) : KS (yAr q0 n0 n1 i0 n2 i1 i2 i3 q1 n3 n4 I m) (yjR q0 n0 n1 i0 n2 i1 i2 i3 q1 n3 n4 i4) w := ⟨m', h1, _, rfl, rfl, h2⟩
theorem yuZ {a7 : OA} {a0 : OA} (I : Nat → Int → World → Prop) (m0 : Nat) (h0 : I m0 i4 w0)
 (hr : ∀ m a6 w, I m a6 w →
 brB (decide (a6 < i0)) (
 ixA a7 n0 a6 4 fun q9 =>
 ya1 w q9 fun b8 => yaY w (Addr.add q9 1) fun b6 => ya1 w (Addr.add q9 2) fun b9 => yaY w (Addr.add q9 3) fun b7 =>
 ∀ b2, w.heap.size ≤ b2 →
 ∀ b3, Adv [] [b2] w b3 →
 Calls pP 119 #[(.agg (Z7 b8 b6 b9 b7))] b3 fun e b4 => ∃ b5, e = .returned (.int .i64 b5) ∧ yaH [n2, b2] b3 b4 ∧
 brB (b5 != 0) (
 R (.int .i64 b5) b4)
 (
 KS (yAr a7 n0 n1 i0 n2 i1 i2 i3 a0 n3 n4 I m) (yjR a7 n0 n1 i0 n2 i1 i2 i3 a0 n3 n4 (IntKind.wrap .i64 (a6 + 1))) b4))
 (
 R (.int .i64 0) w)) :
 yaL yn9 (yC6 396 [0, 0, 1, 0, 1, 1]) (yC7 [1, 1, 0, 1, 0] [] R) (yjR a7 n0 n1 i0 n2 i1 i2 i3 a0 n3 n4 i4) w0 :=
 lrule (yjR a7 n0 n1 i0 n2 i1 i2 i3 a0 n3 n4) (U1 I) h0 (by rintro m a6 w h; exact ⟨by kernel_rfl, by kernel_rfl, fun js => Eq.mpr (by kernel_rfl) (hr m a6 w h)⟩)
theorem yC8 (h :
 ∀ b1, w.heap.size ≤ b1 →
 ∀ w2, Adv [] [b1] w w2 →
 Calls pP 190 #[.int .i64 i0] w2 fun e w3 => ∃ t4, e = .returned (.bool t4) ∧ yaH [b1] w2 w3 ∧
 brB (!t4) (
 R (.int .i64 1) w3)
 (
 Calls pP 190 #[.int .i64 i1] w3 fun e w5 => ∃ t6, e = .returned (.bool t6) ∧ yaH [b1] w3 w5 ∧
 brB (!t6) (
 R (.int .i64 1) w5)
 (
 Calls pP 190 #[.int .i64 i2] w5 fun e w7 => ∃ t8, e = .returned (.bool t8) ∧ yaH [b1] w5 w7 ∧
 brB (!t8) (
 R (.int .i64 1) w7)
 (
 brB ((n0 : Int) == 0) (
 R (.int .i64 30) w7)
 (
 brB (decide ((n0 : Int) > 16)) (
 R (.int .i64 2) w7)
 (
 yaL yn9 (yC6 396 [0, 0, 1, 0, 1, 1]) (yC7 [1, 1, 0, 1, 0] [] R) (yjR q0 n0 n1 (n0 : Int) b1 i0 i1 i2 q0 n0 n1 0) w7)))))) :
 CR pP 189 #[(.agg (Z8 i0 i1 i2 q0 n0 n1))] w R :=
 yaA Tryz.wide_mixed (an := yqF) Tryz.func189 rfl rfl (by kernel_rfl) rfl (Eq.mpr (by kernel_rfl) h)
def yoA : LA := ⟨[0, 0, 1, 0, 1, 1], [0, 1, 5], [], 0, []⟩
def yqG : List LA := [yoA]
abbrev yC9 := dnF pP yqG (code Tryz.f128)
abbrev yGm := yaW pP yqG (code Tryz.f128)
abbrev yDa (p : List Nat) (K : List Kh) (R : VWP) := yaW pP yqG (code Tryz.f128) p K (ybI pP Tryz.f128 [] R)
def yjS (a0 : OA) (a4 a2 : Nat) (a1 : OA) (a5 a3 : Nat) : Int → List Value × List TB := fun a6 => ([.slice a0 a4 a2, .slice a1 a5 a3, .int .i64 a6], [])
abbrev yAs (a0 : OA) (a4 a2 : Nat) (a1 : OA) (a5 a3 : Nat) (I : Nat → Int → World → Prop) (m : Nat) : Kh := KG (yjS a0 a4 a2 a1 a5 a3) (U1 I) m
theorem yu0 {I : Nat → Int → World → Prop} (m' : Nat) (h1 : m' < m) (h2 : I m' i0 w) : KS (yAs q0 n0 n1 q1 n2 n3 I m) (yjS q0 n0 n1 q1 n2 n3 i0) w := ⟨m', h1, _, rfl, rfl, h2⟩
theorem yu1 {a2 : OA} {a3 : OA} (I : Nat → Int → World → Prop) (m0 : Nat) (h0 : I m0 i0 w0)
 (hr : ∀ m a0 w, I m a0 w →
 brB (decide (a0 < (n0 : Int))) (
 ixA a2 n0 a0 4 fun q1 =>
 ya1 w q1 fun t2 => yaY w (Addr.add q1 1) fun s3 => ya1 w (Addr.add q1 2) fun t4 => yaY w (Addr.add q1 3) fun s5 =>
 ixA a3 n2 a0 4 fun q6 =>
 ya1 w q6 fun t7 => yaY w (Addr.add q6 1) fun s8 => ya1 w (Addr.add q6 2) fun t9 => yaY w (Addr.add q6 3) fun a8 =>
 ∃ a9, (∀ w', Mod [] w w' → Sem.run pP (do eqGuard .neq 99 (.tmp 20) (.tmp 24) (.agg (Z7 t2 s3 t4 s5)) (.agg (Z7 t7 s8 t9 a8)); Go.binOp .neq 99 (.agg (Z7 t2 s3 t4 s5)) (.agg (Z7 t7 s8 t9 a8))) w' = .ok (.bool a9) w') ∧
 brB a9 (
 ∀ b0, Adv [] [] w b0 →
 R (.bool false) b0)
 (
 ∀ b1, Adv [] [] w b1 →
 KS (yAs a2 n0 n1 a3 n2 n3 I m) (yjS a2 n0 n1 a3 n2 n3 (IntKind.wrap .i64 (a0 + 1))) b1))
 (
 R (.bool true) w)) :
 yaL yoA (yC9 396 [0, 0, 1, 0, 1, 1]) (yDa [1, 1, 0, 1, 0] [] R) (yjS a2 n0 n1 a3 n2 n3 i0) w0 :=
 lrule (yjS a2 n0 n1 a3 n2 n3) (U1 I) h0 (by rintro m a0 w h; exact ⟨by kernel_rfl, by kernel_rfl, fun js => Eq.mpr (by kernel_rfl) (hr m a0 w h)⟩)
theorem yDb (h :
 brB ((n0 : Int) != (n2 : Int)) (
 R (.bool false) w)
 (
 yaL yoA (yC9 396 [0, 0, 1, 0, 1, 1]) (yDa [1, 1, 0, 1, 0] [] R) (yjS q0 n0 n1 q1 n2 n3 0) w)) :
 CR pP 128 #[.slice q0 n0 n1, .slice q1 n2 n3] w R :=
 yaA Tryz.wide_mixed (an := yqG) Tryz.func128 rfl rfl (by kernel_rfl) rfl (Eq.mpr (by kernel_rfl) h)
theorem yDc (h :
 ∀ b1, w.heap.size ≤ b1 →
 ∀ b2, w.heap.size ≤ b2 →
 brB (i0 == i3) (
 brB (i1 == i4) (
 brB (i2 == i5) (
 ∀ w3, Adv [] [b2, b1] w w3 →
 Calls pP 128 #[.slice q0 n0 n1, .slice q1 n2 n3] w3 fun e w4 => ∃ t5, e = .returned (.bool t5) ∧ yaH [b1, b2] w3 w4 ∧
 R (.bool t5) w4)
 (
 ∀ w6, Adv [] [b2, b1] w w6 →
 R (.bool false) w6))
 (
 ∀ w7, Adv [] [b2, b1] w w7 →
 R (.bool false) w7))
 (
 ∀ w8, Adv [] [b2, b1] w w8 →
 R (.bool false) w8)) :
 CR pP 89 #[(.agg (Z8 i0 i1 i2 q0 n0 n1)), (.agg (Z8 i3 i4 i5 q1 n2 n3))] w R :=
 yaA Tryz.wide_mixed (an := []) Tryz.func89 rfl rfl (by kernel_rfl) rfl (Eq.mpr (by kernel_rfl) h)
def yoB : LA := ⟨[0, 0, 1, 0, 1, 1], [0, 1, 5], [], 0, []⟩
def yqH : List LA := [yoB]
abbrev yDd := dnF pP yqH (code Tryz.f90)
abbrev yGn := yaW pP yqH (code Tryz.f90)
abbrev yDe (p : List Nat) (K : List Kh) (R : VWP) := yaW pP yqH (code Tryz.f90) p K (ybI pP Tryz.f90 [] R)
def yjT (a0 : OA) (a4 a2 : Nat) (a1 : OA) (a5 a3 : Nat) : Int → List Value × List TB := fun a6 => ([.slice a0 a4 a2, .slice a1 a5 a3, .int .i64 a6], [])
abbrev yAt (a0 : OA) (a4 a2 : Nat) (a1 : OA) (a5 a3 : Nat) (I : Nat → Int → World → Prop) (m : Nat) : Kh := KG (yjT a0 a4 a2 a1 a5 a3) (U1 I) m
theorem yu2 {I : Nat → Int → World → Prop} (m' : Nat) (h1 : m' < m) (h2 : I m' i0 w) : KS (yAt q0 n0 n1 q1 n2 n3 I m) (yjT q0 n0 n1 q1 n2 n3 i0) w := ⟨m', h1, _, rfl, rfl, h2⟩
theorem yu3 {a2 : OA} {a3 : OA} (I : Nat → Int → World → Prop) (m0 : Nat) (h0 : I m0 i0 w0)
 (hr : ∀ m a0 w, I m a0 w →
 brB (decide (a0 < (n0 : Int))) (
 ixA a2 n0 a0 1 fun q1 =>
 yaY w q1 fun s2 =>
 ixA a3 n2 a0 1 fun q3 =>
 yaY w q3 fun s4 =>
 brB (!(s2.toList == s4.toList)) (
 ∀ w5, Adv [] [] w w5 →
 R (.bool false) w5)
 (
 ∀ w6, Adv [] [] w w6 →
 KS (yAt a2 n0 n1 a3 n2 n3 I m) (yjT a2 n0 n1 a3 n2 n3 (IntKind.wrap .i64 (a0 + 1))) w6))
 (
 R (.bool true) w)) :
 yaL yoB (yDd 396 [0, 0, 1, 0, 1, 1]) (yDe [1, 1, 0, 1, 0] [] R) (yjT a2 n0 n1 a3 n2 n3 i0) w0 :=
 lrule (yjT a2 n0 n1 a3 n2 n3) (U1 I) h0 (by rintro m a0 w h; exact ⟨by kernel_rfl, by kernel_rfl, fun js => Eq.mpr (by kernel_rfl) (hr m a0 w h)⟩)
theorem yDf (h :
 brB ((n0 : Int) != (n2 : Int)) (
 R (.bool false) w)
 (
 yaL yoB (yDd 396 [0, 0, 1, 0, 1, 1]) (yDe [1, 1, 0, 1, 0] [] R) (yjT q0 n0 n1 q1 n2 n3 0) w)) :
 CR pP 90 #[.slice q0 n0 n1, .slice q1 n2 n3] w R :=
 yaA Tryz.wide_mixed (an := yqH) Tryz.func90 rfl rfl (by kernel_rfl) rfl (Eq.mpr (by kernel_rfl) h)
theorem yDg {a6 : BA} {d0 b8 : BA} {b3 : BA} {d7 c1 : BA} (h :
 ∀ b1, w.heap.size ≤ b1 →
 ∀ b2, w.heap.size ≤ b2 →
 brB (i0 == i8) (
 ∀ w3, Adv [] [b2, b1] w w3 →
 ∃ t4, (∀ w', Mod [] w3 w' → Sem.run pP (do eqGuard .eql 42 (.tmp 12) (.tmp 14) (.agg #[.string a6, .int .i64 i1]) (.agg #[.string b3, .int .i64 i9]); Go.binOp .eql 42 (.agg #[.string a6, .int .i64 i1]) (.agg #[.string b3, .int .i64 i9])) w' = .ok (.bool t4) w') ∧
 brB t4 (
 brB (i2 == j0) (
 brB (i3 == j1) (
 Calls pP 89 #[(.agg (Z8 i4 i5 i6 q0 n0 n1)), (.agg (Z8 j2 j3 j4 q2 n4 n5))] w3 fun e w5 => ∃ t6, e = .returned (.bool t6) ∧ yaH [b1, b2] w3 w5 ∧
 brB t6 (
 brB (d0.toList == d7.toList) (
 brB (b8.toList == c1.toList) (
 brB (i7 == j5) (
 brB (B0 == B1) (
 Calls pP 90 #[.slice q1 n2 n3, .slice q3 n6 n7] w5 fun e w7 => ∃ t8, e = .returned (.bool t8) ∧ yaH [b1, b2] w5 w7 ∧
 R (.bool t8) w7)
 (
 R (.bool false) w5))
 (
 R (.bool false) w5))
 (
 R (.bool false) w5))
 (
 R (.bool false) w5))
 (
 R (.bool false) w5))
 (
 R (.bool false) w3))
 (
 R (.bool false) w3))
 (
 R (.bool false) w3))
 (
 ∀ w9, Adv [] [b2, b1] w w9 →
 R (.bool false) w9)) :
 CR pP 60 #[(.agg (Z1 i0 a6 i1 i2 i3 i4 i5 i6 q0 n0 n1 d0 b8 i7 B0 q1 n2 n3)), (.agg (Z1 i8 b3 i9 j0 j1 j2 j3 j4 q2 n4 n5 d7 c1 j5 B1 q3 n6 n7))] w R :=
 yaA Tryz.wide_mixed (an := []) Tryz.func60 rfl rfl (by kernel_rfl) rfl (Eq.mpr (by kernel_rfl) h)
theorem yDh (h :
 ∀ b1, w.heap.size ≤ b1 →
 ∀ b2, w.heap.size ≤ b2 →
 brB (i0 == i3) (
 brB (i1 == i4) (
 brB (i2 == i5) (
 ∀ w3, Adv [] [b2, b1] w w3 →
 Calls pP 165 #[.slice q0 n0 n1, .slice q1 n2 n3] w3 fun e w4 => ∃ t5, e = .returned (.bool t5) ∧ yaH [b1, b2] w3 w4 ∧
 R (.bool t5) w4)
 (
 ∀ w6, Adv [] [b2, b1] w w6 →
 R (.bool false) w6))
 (
 ∀ w7, Adv [] [b2, b1] w w7 →
 R (.bool false) w7))
 (
 ∀ w8, Adv [] [b2, b1] w w8 →
 R (.bool false) w8)) :
 CR pP 158 #[(.agg (Z8 i0 i1 i2 q0 n0 n1)), (.agg (Z8 i3 i4 i5 q1 n2 n3))] w R :=
 yaA Tryz.wide_mixed (an := []) Tryz.func158 rfl rfl (by kernel_rfl) rfl (Eq.mpr (by kernel_rfl) h)
theorem yDi {a6 : BA} {d0 b8 : BA} {b3 : BA} {d7 c1 : BA} (h :
 ∀ b1, w.heap.size ≤ b1 →
 ∀ b2, w.heap.size ≤ b2 →
 brB (i0 == i8) (
 ∀ w3, Adv [] [b2, b1] w w3 →
 ∃ t4, (∀ w', Mod [] w3 w' → Sem.run pP (do eqGuard .eql 42 (.tmp 13) (.tmp 15) (.agg #[.string a6, .int .i64 i1]) (.agg #[.string b3, .int .i64 i9]); Go.binOp .eql 42 (.agg #[.string a6, .int .i64 i1]) (.agg #[.string b3, .int .i64 i9])) w' = .ok (.bool t4) w') ∧
 brB t4 (
 brB (i2 == j0) (
 brB (i3 == j1) (
 brB (d0.toList == d7.toList) (
 brB (b8.toList == c1.toList) (
 brB (i7 == j5) (
 brB (B0 == B1) (
 Calls pP 158 #[(.agg (Z8 i4 i5 i6 q0 n0 n1)), (.agg (Z8 j2 j3 j4 q2 n4 n5))] w3 fun e w5 => ∃ t6, e = .returned (.bool t6) ∧ yaH [b1, b2] w3 w5 ∧
 brB t6 (
 Calls pP 159 #[.slice q1 n2 n3, .slice q3 n6 n7] w5 fun e w7 => ∃ t8, e = .returned (.bool t8) ∧ yaH [b1, b2] w5 w7 ∧
 R (.bool t8) w7)
 (
 R (.bool false) w5))
 (
 R (.bool false) w3))
 (
 R (.bool false) w3))
 (
 R (.bool false) w3))
 (
 R (.bool false) w3))
 (
 R (.bool false) w3))
 (
 R (.bool false) w3))
 (
 R (.bool false) w3))
 (
 ∀ w9, Adv [] [b2, b1] w w9 →
 R (.bool false) w9)) :
 CR pP 143 #[(.agg (Z1 i0 a6 i1 i2 i3 i4 i5 i6 q0 n0 n1 d0 b8 i7 B0 q1 n2 n3)), (.agg (Z1 i8 b3 i9 j0 j1 j2 j3 j4 q2 n4 n5 d7 c1 j5 B1 q3 n6 n7))] w R :=
 yaA Tryz.wide_mixed (an := []) Tryz.func143 rfl rfl (by kernel_rfl) rfl (Eq.mpr (by kernel_rfl) h)
def yoC : LA := ⟨[0, 0, 1, 0, 1, 1], [0, 1, 12, 13], [], 0, []⟩
def yqI : List LA := [yoC]
abbrev yDj := dnF pP yqI (code Tryz.f159)
abbrev yGo := yaW pP yqI (code Tryz.f159)
abbrev yDk (p : List Nat) (K : List Kh) (R : VWP) := yaW pP yqI (code Tryz.f159) p K (ybI pP Tryz.f159 [] R)
def yjU (a2 : OA) (a6 a4 : Nat) (a3 : OA) (a7 a5 : Nat) (a0 : Int) : Int → List Value × List TB := fun a1 => ([.slice a2 a6 a4, .slice a3 a7 a5, .int .i64 a0, .int .i64 a1], [])
abbrev yAu (a1 : OA) (a5 a3 : Nat) (a2 : OA) (a6 a4 : Nat) (a0 : Int) (I : Nat → Int → World → Prop) (m : Nat) : Kh := KG (yjU a1 a5 a3 a2 a6 a4 a0) (U1 I) m
theorem yu4 {I : Nat → Int → World → Prop} (m' : Nat) (h1 : m' < m) (h2 : I m' i1 w) : KS (yAu q0 n0 n1 q1 n2 n3 i0 I m) (yjU q0 n0 n1 q1 n2 n3 i0 i1) w := ⟨m', h1, _, rfl, rfl, h2⟩
theorem yu5 {a2 : OA} {a3 : OA} (I : Nat → Int → World → Prop) (m0 : Nat) (h0 : I m0 i1 w0)
 (hr : ∀ m a0 w, I m a0 w →
 brB (decide (a0 < i0)) (
 ixA a2 n0 a0 1 fun q1 =>
 yaY w q1 fun s2 =>
 ixA a3 n2 a0 1 fun q3 =>
 yaY w q3 fun s4 =>
 brB (!(s2.toList == s4.toList)) (
 ∀ w5, Adv [] [] w w5 →
 R (.bool false) w5)
 (
 ∀ w6, Adv [] [] w w6 →
 KS (yAu a2 n0 n1 a3 n2 n3 i0 I m) (yjU a2 n0 n1 a3 n2 n3 i0 (IntKind.wrap .i64 (a0 + 1))) w6))
 (
 R (.bool true) w)) :
 yaL yoC (yDj 396 [0, 0, 1, 0, 1, 1]) (yDk [1, 1, 0, 1, 0] [] R) (yjU a2 n0 n1 a3 n2 n3 i0 i1) w0 :=
 lrule (yjU a2 n0 n1 a3 n2 n3 i0) (U1 I) h0 (by rintro m a0 w h; exact ⟨by kernel_rfl, by kernel_rfl, fun js => Eq.mpr (by kernel_rfl) (hr m a0 w h)⟩)
theorem yDl (h :
 brB ((n0 : Int) != (n2 : Int)) (
 R (.bool false) w)
 (
 yaL yoC (yDj 396 [0, 0, 1, 0, 1, 1]) (yDk [1, 1, 0, 1, 0] [] R) (yjU q0 n0 n1 q1 n2 n3 (n0 : Int) 0) w)) :
 CR pP 159 #[.slice q0 n0 n1, .slice q1 n2 n3] w R :=
 yaA Tryz.wide_mixed (an := yqI) Tryz.func159 rfl rfl (by kernel_rfl) rfl (Eq.mpr (by kernel_rfl) h)
def yoD : LA := ⟨[0, 0, 1, 0, 1, 1], [0, 1, 12, 13], [], 0, []⟩
def yqJ : List LA := [yoD]
abbrev yDm := dnF pP yqJ (code Tryz.f165)
abbrev yGp := yaW pP yqJ (code Tryz.f165)
abbrev yDn (p : List Nat) (K : List Kh) (R : VWP) := yaW pP yqJ (code Tryz.f165) p K (ybI pP Tryz.f165 [] R)
def yjV (a2 : OA) (a6 a4 : Nat) (a3 : OA) (a7 a5 : Nat) (a0 : Int) : Int → List Value × List TB := fun a1 => ([.slice a2 a6 a4, .slice a3 a7 a5, .int .i64 a0, .int .i64 a1], [])
abbrev yAv (a1 : OA) (a5 a3 : Nat) (a2 : OA) (a6 a4 : Nat) (a0 : Int) (I : Nat → Int → World → Prop) (m : Nat) : Kh := KG (yjV a1 a5 a3 a2 a6 a4 a0) (U1 I) m
theorem yu6 {I : Nat → Int → World → Prop} (m' : Nat) (h1 : m' < m) (h2 : I m' i1 w) : KS (yAv q0 n0 n1 q1 n2 n3 i0 I m) (yjV q0 n0 n1 q1 n2 n3 i0 i1) w := ⟨m', h1, _, rfl, rfl, h2⟩
theorem yu7 {a2 : OA} {a3 : OA} (I : Nat → Int → World → Prop) (m0 : Nat) (h0 : I m0 i1 w0)
 (hr : ∀ m a0 w, I m a0 w →
 brB (decide (a0 < i0)) (
 ixA a2 n0 a0 4 fun q1 =>
 ya1 w q1 fun t2 => yaY w (Addr.add q1 1) fun s3 => ya1 w (Addr.add q1 2) fun t4 => yaY w (Addr.add q1 3) fun s5 =>
 ixA a3 n2 a0 4 fun q6 =>
 ya1 w q6 fun t7 => yaY w (Addr.add q6 1) fun s8 => ya1 w (Addr.add q6 2) fun t9 => yaY w (Addr.add q6 3) fun a9 =>
 ∃ b0, (∀ w', Mod [] w w' → Sem.run pP (do eqGuard .neq 99 (.tmp 19) (.tmp 23) (.agg (Z7 t2 s3 t4 s5)) (.agg (Z7 t7 s8 t9 a9)); Go.binOp .neq 99 (.agg (Z7 t2 s3 t4 s5)) (.agg (Z7 t7 s8 t9 a9))) w' = .ok (.bool b0) w') ∧
 brB b0 (
 ∀ b1, Adv [] [] w b1 →
 R (.bool false) b1)
 (
 ∀ b2, Adv [] [] w b2 →
 KS (yAv a2 n0 n1 a3 n2 n3 i0 I m) (yjV a2 n0 n1 a3 n2 n3 i0 (IntKind.wrap .i64 (a0 + 1))) b2))
 (
 R (.bool true) w)) :
 yaL yoD (yDm 396 [0, 0, 1, 0, 1, 1]) (yDn [1, 1, 0, 1, 0] [] R) (yjV a2 n0 n1 a3 n2 n3 i0 i1) w0 :=
 lrule (yjV a2 n0 n1 a3 n2 n3 i0) (U1 I) h0 (by rintro m a0 w h; exact ⟨by kernel_rfl, by kernel_rfl, fun js => Eq.mpr (by kernel_rfl) (hr m a0 w h)⟩)
theorem yDo (h :
 brB ((n0 : Int) != (n2 : Int)) (
 R (.bool false) w)
 (
 yaL yoD (yDm 396 [0, 0, 1, 0, 1, 1]) (yDn [1, 1, 0, 1, 0] [] R) (yjV q0 n0 n1 q1 n2 n3 (n0 : Int) 0) w)) :
 CR pP 165 #[.slice q0 n0 n1, .slice q1 n2 n3] w R :=
 yaA Tryz.wide_mixed (an := yqJ) Tryz.func165 rfl rfl (by kernel_rfl) rfl (Eq.mpr (by kernel_rfl) h)
end
section
set_option maxRecDepth 100000
variable {R : VWP} {w w0 : World} {m : Nat} {i0 i1 i2 i3 i4 i5 i6 i7 i8 i9 j0 j1 j2 j3 j4 j5 j6 j7 j8 j9 k0 k1 k2 k3 k4 k5 k6 k7 k8 k9 l0 l1 l2 l3 l4 l5 l6 l7 l8 l9 : Int} {s0 s1 s2 s3 s4 s5 s6 s7 s8 s9 t0 t1 t2 t3 t4 t5 t6 t7 t8 t9 : BA} {n0 n1 n2 n3 n4 n5 n6 n7 n8 n9 o0 o1 o2 o3 o4 o5 o6 o7 o8 o9 p0 p1 p2 p3 p4 p5 p6 p7 p8 p9 : Nat} {q0 q1 q2 q3 q4 q5 q6 q7 q8 q9 r0 r1 r2 r3 r4 r5 r6 r7 r8 r9 : OA} {B0 B1 B2 B3 B4 B5 B6 B7 B8 B9 : Bool} {M0 M1 M2 M3 : Option Nat} {V0 V1 V2 V3 V4 V5 : Value} {A0 A1 A2 : Addr}
theorem yDp (h :
 ya1 w (Addr.add A0 1) fun t1 =>
 brB t1 (
 st w (Addr.add A0 1) [.bool true] fun w2 =>
 st w2 A1 [.int .i64 0] fun w3 =>
 R (.tuple #[]) w3)
 (
 yaD .i64 w A1 fun x4 =>
 Calls pP 118 #[.int .i64 x4] w fun e w5 => ∃ t6, e = .returned (.bool t6) ∧
 st w5 (Addr.add A0 1) [(.bool (!t6))] fun w7 =>
 st w7 A1 [.int .i64 0] fun w8 =>
 R (.tuple #[]) w8)) :
 CR pP 202 #[(.pointer (some A0)), (.pointer (some A1))] w R :=
 yaA Tryz.wide_mixed (an := []) Tryz.func202 rfl rfl (by kernel_rfl) rfl (Eq.mpr (by kernel_rfl) h)
theorem yDq (h :
 ya1 w A0 fun t1 =>
 brB t1 (
 st w A0 [.bool true] fun w2 =>
 st w2 A1 [(.string (⟨#[]⟩ : BA))] fun w3 =>
 R (.tuple #[]) w3)
 (
 yaY w A1 fun s4 =>
 Calls pP 120 #[.string s4] w fun e w5 => ∃ t6, e = .returned (.bool t6) ∧
 st w5 A0 [(.bool (!t6))] fun w7 =>
 st w7 A1 [(.string (⟨#[]⟩ : BA))] fun w8 =>
 R (.tuple #[]) w8)) :
 CR pP 200 #[(.pointer (some A0)), (.pointer (some A1))] w R :=
 yaA Tryz.wide_mixed (an := []) Tryz.func200 rfl rfl (by kernel_rfl) rfl (Eq.mpr (by kernel_rfl) h)
theorem yDr (h :
 st w A1 [.bool false] fun w1 =>
 R (.tuple #[]) w1) :
 CR pP 199 #[(.pointer (some A0)), (.pointer (some A1))] w R :=
 yaA Tryz.wide_mixed (an := []) Tryz.func199 rfl rfl (by kernel_rfl) rfl (Eq.mpr (by kernel_rfl) h)
theorem yDs (h :
 yaD .i64 w A1 fun x1 => yaD .i64 w (Addr.add A1 1) fun x2 => yaD .i64 w (Addr.add A1 2) fun x3 => yaN w (Addr.add A1 3) fun a4 n5 c6 =>
 Calls pP 189 #[(.agg (Z8 x1 x2 x3 a4 n5 c6))] w fun e w7 => ∃ x8, e = .returned (.int .i64 x8) ∧
 st w7 (Addr.add A0 2) [.int .i64 x8] fun w9 =>
 st w9 A1 [.int .i64 0, .int .i64 0, .int .i64 0, .slice none 0 0] fun a2 =>
 R (.tuple #[]) a2) :
 CR pP 198 #[(.pointer (some A0)), (.pointer (some A1))] w R :=
 yaA Tryz.wide_mixed (an := []) Tryz.func198 rfl rfl (by kernel_rfl) rfl (Eq.mpr (by kernel_rfl) h)
def yoE : LA := ⟨[0, 0, 1, 0, 1], [0, 1, 4, 5], [], 0, []⟩
def yqK : List LA := [yoE]
abbrev yDt := dnF pP yqK (code Tryz.f201)
abbrev yGq := yaW pP yqK (code Tryz.f201)
abbrev yDu (p : List Nat) (K : List Kh) (R : VWP) := yaW pP yqK (code Tryz.f201) p K (ybI pP Tryz.f201 [] R)
def yiD (a0 : Addr) (a1 : Addr) : Bool × Int → List Value × List TB := fun (a2, a3) => ([(.pointer (some a0)), (.pointer (some a1)), .bool a2, .int .i64 a3], [])
abbrev yu8 (a0 : Addr) (a1 : Addr) (I : Nat → Bool → Int → World → Prop) (m : Nat) : Kh := KG (yiD a0 a1) (U2 I) m
theorem ymT {I : Nat → Bool → Int → World → Prop} (m' : Nat) (h1 : m' < m) (h2 : I m' B0 i0 w) : KS (yu8 A0 A1 I m) (yiD A0 A1 (B0, i0)) w := ⟨m', h1, _, rfl, rfl, h2⟩
theorem yu9 (I : Nat → Bool → Int → World → Prop) (m0 : Nat) (h0 : I m0 B0 i0 w0)
 (hr : ∀ m a6 a5 w, I m a6 a5 w →
 yaN w A1 fun a1 n2 c3 =>
 brB (decide (a5 < (n2 : Int))) (
 brB a6 (
 yaN w A1 fun a4 n5 c6 =>
 ixA a4 n5 (IntKind.wrap .i64 (a5 - 1)) 1 fun q7 =>
 yaY w q7 fun s8 =>
 yaN w A1 fun a9 b5 d6 =>
 ixA a9 b5 a5 1 fun b9 =>
 yaY w b9 fun c0 =>
 ∀ b1, Adv [] [] w b1 →
 KS (yu8 A0 A1 I m) (yiD A0 A1 ((Op.bytesLess s8.toList c0.toList), (IntKind.wrap .i64 (a5 + 1)))) b1)
 (
 ∀ b2, Adv [] [] w b2 →
 KS (yu8 A0 A1 I m) (yiD A0 A1 (false, (IntKind.wrap .i64 (a5 + 1)))) b2))
 (
 yaN w A1 fun b3 b6 b4 =>
 Calls pP 203 #[.slice b3 b6 b4, (.func (.func 204) #[] #[])] w fun e a3 => ∃ b0, e = .returned (.bool b0) ∧
 ya1 a3 A0 fun c1 =>
 brB c1 (
 st a3 A0 [.bool true] fun c2 =>
 st c2 A1 [.slice none 0 0] fun c4 =>
 R (.tuple #[]) c4)
 (
 yaN a3 A1 fun d4 b7 d7 =>
 brB ((b7 : Int) == 0) (
 st a3 A0 [.bool true] fun c5 =>
 st c5 A1 [.slice none 0 0] fun c7 =>
 R (.tuple #[]) c7)
 (
 yaN a3 A1 fun d5 b8 d8 =>
 brB (decide ((b8 : Int) > 8)) (
 st a3 A0 [.bool true] fun c8 =>
 st c8 A1 [.slice none 0 0] fun c9 =>
 R (.tuple #[]) c9)
 (
 brB b0 (
 st a3 A0 [.bool true] fun d0 =>
 st d0 A1 [.slice none 0 0] fun d1 =>
 R (.tuple #[]) d1)
 (
 st a3 A0 [(.bool (!a6))] fun d2 =>
 st d2 A1 [.slice none 0 0] fun d3 =>
 R (.tuple #[]) d3)))))) :
 yaL yoE (yDt 397 [0, 0, 1, 0, 1]) (yDu [1, 0, 1, 0] [] R) (yiD A0 A1 (B0, i0)) w0 :=
 lrule (yiD A0 A1) (U2 I) h0 (by rintro m ⟨a6, a5⟩ w h; exact ⟨by kernel_rfl, by kernel_rfl, fun js => Eq.mpr (by kernel_rfl) (hr m a6 a5 w h)⟩)
theorem yDv (h :
 yaL yoE (yDt 397 [0, 0, 1, 0, 1]) (yDu [1, 0, 1, 0] [] R) (yiD A0 A1 (true, 1)) w) :
 CR pP 201 #[(.pointer (some A0)), (.pointer (some A1))] w R :=
 yaA Tryz.wide_mixed (an := yqK) Tryz.func201 rfl rfl (by kernel_rfl) rfl (Eq.mpr (by kernel_rfl) h)
theorem yDw {a0 : BA} (h :
 Calls pP 120 #[.string a0] w fun e w1 => ∃ t2, e = .returned (.bool t2) ∧
 R (.bool (!t2)) w1) :
 CR pP 204 #[.string a0] w R :=
 yaA Tryz.wide_mixed (an := []) Tryz.func204 rfl rfl (by kernel_rfl) rfl (Eq.mpr (by kernel_rfl) h)
theorem yDx (h :
 Calls pP 205 #[.slice q0 n0 n1, (.func (.func 204) #[] #[])] w fun e w1 => ∃ x2, e = .returned (.int .i64 x2) ∧
 R (.bool (decide (x2 ≥ 0))) w1) :
 CR pP 203 #[.slice q0 n0 n1, (.func (.func 204) #[] #[])] w R :=
 yaA Tryz.wide_mixed (an := []) Tryz.func203 rfl rfl (by kernel_rfl) rfl (Eq.mpr (by kernel_rfl) h)
def yoF : LA := ⟨[0, 0, 1, 0, 1], [0, 1, 7, 8], [], 0, []⟩
def yqL : List LA := [yoF]
abbrev yDy := dnF pP yqL (code Tryz.f205)
abbrev yGr := yaW pP yqL (code Tryz.f205)
abbrev yDz (p : List Nat) (K : List Kh) (R : VWP) := yaW pP yqL (code Tryz.f205) p K (ybI pP Tryz.f205 [] R)
def yjW (a0 : OA) (a2 a1 : Nat) (a3 : Int) : Int → List Value × List TB := fun a4 => ([.slice a0 a2 a1, (.func (.func 204) #[] #[]), .int .i64 a3, .int .i64 a4], [])
abbrev yAw (a0 : OA) (a2 a1 : Nat) (a3 : Int) (I : Nat → Int → World → Prop) (m : Nat) : Kh := KG (yjW a0 a2 a1 a3) (U1 I) m
theorem yvA {I : Nat → Int → World → Prop} (m' : Nat) (h1 : m' < m) (h2 : I m' i1 w) : KS (yAw q0 n0 n1 i0 I m) (yjW q0 n0 n1 i0 i1) w := ⟨m', h1, _, rfl, rfl, h2⟩
theorem yvB {a1 : OA} (I : Nat → Int → World → Prop) (m0 : Nat) (h0 : I m0 i1 w0)
 (hr : ∀ m a0 w, I m a0 w →
 brB (decide (a0 < i0)) (
 ixA a1 n0 a0 1 fun q1 =>
 yaY w q1 fun s2 =>
 Calls pP 204 #[.string s2] w fun e w3 => ∃ t4, e = .returned (.bool t4) ∧
 brB t4 (
 R (.int .i64 a0) w3)
 (
 KS (yAw a1 n0 n1 i0 I m) (yjW a1 n0 n1 i0 (IntKind.wrap .i64 (a0 + 1))) w3))
 (
 R (.int .i64 (-1)) w)) :
 yaL yoF (yDy 397 [0, 0, 1, 0, 1]) (yDz [1, 0, 1, 0] [] R) (yjW a1 n0 n1 i0 i1) w0 :=
 lrule (yjW a1 n0 n1 i0) (U1 I) h0 (by rintro m a0 w h; exact ⟨by kernel_rfl, by kernel_rfl, fun js => Eq.mpr (by kernel_rfl) (hr m a0 w h)⟩)
theorem yDA (h :
 yaL yoF (yDy 397 [0, 0, 1, 0, 1]) (yDz [1, 0, 1, 0] [] R) (yjW q0 n0 n1 (n0 : Int) 0) w) :
 CR pP 205 #[.slice q0 n0 n1, (.func (.func 204) #[] #[])] w R :=
 yaA Tryz.wide_mixed (an := yqL) Tryz.func205 rfl rfl (by kernel_rfl) rfl (Eq.mpr (by kernel_rfl) h)
theorem yDB (h :
 ∀ w1, Adv [] [] w w1 →
 Calls pP 200 #[(.pointer (some A1)), (.pointer (some A0))] w1 fun e w2 => e = .returned (.tuple #[]) ∧
 ∀ w3, Adv [] [] w2 w3 →
 Calls pP 202 #[(.pointer (some A1)), (.pointer (some (Addr.add A0 1)))] w3 fun e w4 => e = .returned (.tuple #[]) ∧
 R (.tuple #[]) w4) :
 CR pP 82 #[(.iface 204 (.pointer (some A1))), (.pointer (some A0))] w R :=
 yaA Tryz.wide_mixed (an := []) Tryz.func82 rfl rfl (by kernel_rfl) rfl (Eq.mpr (by kernel_rfl) h)
theorem yDC (h :
 ∀ w1, Adv [] [] w w1 →
 Calls pP 200 #[(.pointer (some A1)), (.pointer (some (Addr.add A0 9)))] w1 fun e w2 => e = .returned (.tuple #[]) ∧
 ∀ w3, Adv [] [] w2 w3 →
 Calls pP 200 #[(.pointer (some A1)), (.pointer (some (Addr.add A0 10)))] w3 fun e w4 => e = .returned (.tuple #[]) ∧
 R (.tuple #[]) w4) :
 CR pP 144 #[(.iface 204 (.pointer (some A1))), (.pointer (some A0))] w R :=
 yaA Tryz.wide_mixed (an := []) Tryz.func144 rfl rfl (by kernel_rfl) rfl (Eq.mpr (by kernel_rfl) h)
theorem yDD (h :
 yaD .i64 w A0 fun x1 =>
 brB (x1 == 0) (
 ∀ w2, Adv [] [] w w2 →
 Calls pP 200 #[(.pointer (some A1)), (.pointer (some (Addr.add A0 1)))] w2 fun e w3 => e = .returned (.tuple #[]) ∧
 ∀ w4, Adv [] [] w3 w4 →
 Calls pP 202 #[(.pointer (some A1)), (.pointer (some (Addr.add A0 3)))] w4 fun e w5 => e = .returned (.tuple #[]) ∧
 R (.tuple #[]) w5)
 (
 brB (x1 == 1) (
 brB (x1 == 1) (
 ∀ w6, Adv [] [] w w6 →
 Calls pP 202 #[(.pointer (some A1)), (.pointer (some (Addr.add A0 3)))] w6 fun e w7 => e = .returned (.tuple #[]) ∧
 R (.tuple #[]) w7)
 (
 brB (x1 == 2) (
 Calls pP 82 #[(.iface 204 (.pointer (some A1))), (.pointer (some (Addr.add A0 1)))] w fun e w8 => e = .returned (.tuple #[]) ∧
 ∀ w9, Adv [] [] w8 w9 →
 Calls pP 198 #[(.pointer (some A1)), (.pointer (some (Addr.add A0 5)))] w9 fun e f3 => e = .returned (.tuple #[]) ∧
 R (.tuple #[]) f3)
 (
 brB (x1 == 3) (
 Calls pP 82 #[(.iface 204 (.pointer (some A1))), (.pointer (some (Addr.add A0 1)))] w fun e f4 => e = .returned (.tuple #[]) ∧
 ∀ a9, Adv [] [] f4 a9 →
 Calls pP 202 #[(.pointer (some A1)), (.pointer (some (Addr.add A0 4)))] a9 fun e f5 => e = .returned (.tuple #[]) ∧
 ∀ b0, Adv [] [] f5 b0 →
 Calls pP 202 #[(.pointer (some A1)), (.pointer (some (Addr.add A0 3)))] b0 fun e f6 => e = .returned (.tuple #[]) ∧
 R (.tuple #[]) f6)
 (
 brB (x1 == 4) (
 Calls pP 82 #[(.iface 204 (.pointer (some A1))), (.pointer (some (Addr.add A0 1)))] w fun e f7 => e = .returned (.tuple #[]) ∧
 ∀ b1, Adv [] [] f7 b1 →
 Calls pP 202 #[(.pointer (some A1)), (.pointer (some (Addr.add A0 4)))] b1 fun e f8 => e = .returned (.tuple #[]) ∧
 R (.tuple #[]) f8)
 (
 brB (x1 == 5) (
 Calls pP 82 #[(.iface 204 (.pointer (some A1))), (.pointer (some (Addr.add A0 1)))] w fun e f9 => e = .returned (.tuple #[]) ∧
 R (.tuple #[]) f9)
 (
 brB (x1 == 6) (
 Calls pP 144 #[(.iface 204 (.pointer (some A1))), (.pointer (some A0))] w fun e g0 => e = .returned (.tuple #[]) ∧
 ∀ b2, Adv [] [] g0 b2 →
 Calls pP 202 #[(.pointer (some A1)), (.pointer (some (Addr.add A0 3)))] b2 fun e g1 => e = .returned (.tuple #[]) ∧
 ∀ b3, Adv [] [] g1 b3 →
 Calls pP 199 #[(.pointer (some A1)), (.pointer (some (Addr.add A0 12)))] b3 fun e g2 => e = .returned (.tuple #[]) ∧
 ∀ b4, Adv [] [] g2 b4 →
 Calls pP 201 #[(.pointer (some A1)), (.pointer (some (Addr.add A0 13)))] b4 fun e g3 => e = .returned (.tuple #[]) ∧
 R (.tuple #[]) g3)
 (
 brB (x1 == 7) (
 brB (x1 == 7) (
 Calls pP 144 #[(.iface 204 (.pointer (some A1))), (.pointer (some A0))] w fun e g4 => e = .returned (.tuple #[]) ∧
 ∀ b5, Adv [] [] g4 b5 →
 Calls pP 202 #[(.pointer (some A1)), (.pointer (some (Addr.add A0 11)))] b5 fun e g5 => e = .returned (.tuple #[]) ∧
 R (.tuple #[]) g5)
 (
 brB (x1 == 10) (
 Calls pP 144 #[(.iface 204 (.pointer (some A1))), (.pointer (some A0))] w fun e g6 => e = .returned (.tuple #[]) ∧
 ∀ b6, Adv [] [] g6 b6 →
 Calls pP 202 #[(.pointer (some A1)), (.pointer (some (Addr.add A0 11)))] b6 fun e g7 => e = .returned (.tuple #[]) ∧
 Calls pP 82 #[(.iface 204 (.pointer (some A1))), (.pointer (some (Addr.add A0 1)))] g7 fun e g8 => e = .returned (.tuple #[]) ∧
 ∀ b7, Adv [] [] g8 b7 →
 Calls pP 202 #[(.pointer (some A1)), (.pointer (some (Addr.add A0 4)))] b7 fun e g9 => e = .returned (.tuple #[]) ∧
 R (.tuple #[]) g9)
 (
 brB (x1 == 11) (
 ∀ b8, Adv [] [] w b8 →
 Calls pP 200 #[(.pointer (some A1)), (.pointer (some (Addr.add A0 9)))] b8 fun e h0 => e = .returned (.tuple #[]) ∧
 Calls pP 82 #[(.iface 204 (.pointer (some A1))), (.pointer (some (Addr.add A0 1)))] h0 fun e h1 => e = .returned (.tuple #[]) ∧
 R (.tuple #[]) h1)
 (
 R (.tuple #[]) w))))
 (
 brB (x1 == 8) (
 brB (x1 == 8) (
 Calls pP 144 #[(.iface 204 (.pointer (some A1))), (.pointer (some A0))] w fun e h2 => e = .returned (.tuple #[]) ∧
 ∀ b9, Adv [] [] h2 b9 →
 Calls pP 202 #[(.pointer (some A1)), (.pointer (some (Addr.add A0 11)))] b9 fun e h3 => e = .returned (.tuple #[]) ∧
 R (.tuple #[]) h3)
 (
 brB (x1 == 10) (
 Calls pP 144 #[(.iface 204 (.pointer (some A1))), (.pointer (some A0))] w fun e h4 => e = .returned (.tuple #[]) ∧
 ∀ c0, Adv [] [] h4 c0 →
 Calls pP 202 #[(.pointer (some A1)), (.pointer (some (Addr.add A0 11)))] c0 fun e h5 => e = .returned (.tuple #[]) ∧
 Calls pP 82 #[(.iface 204 (.pointer (some A1))), (.pointer (some (Addr.add A0 1)))] h5 fun e h6 => e = .returned (.tuple #[]) ∧
 ∀ c1, Adv [] [] h6 c1 →
 Calls pP 202 #[(.pointer (some A1)), (.pointer (some (Addr.add A0 4)))] c1 fun e h7 => e = .returned (.tuple #[]) ∧
 R (.tuple #[]) h7)
 (
 brB (x1 == 11) (
 ∀ c2, Adv [] [] w c2 →
 Calls pP 200 #[(.pointer (some A1)), (.pointer (some (Addr.add A0 9)))] c2 fun e h8 => e = .returned (.tuple #[]) ∧
 Calls pP 82 #[(.iface 204 (.pointer (some A1))), (.pointer (some (Addr.add A0 1)))] h8 fun e h9 => e = .returned (.tuple #[]) ∧
 R (.tuple #[]) h9)
 (
 R (.tuple #[]) w))))
 (
 brB (x1 == 9) (
 Calls pP 144 #[(.iface 204 (.pointer (some A1))), (.pointer (some A0))] w fun e u0 => e = .returned (.tuple #[]) ∧
 ∀ c3, Adv [] [] u0 c3 →
 Calls pP 202 #[(.pointer (some A1)), (.pointer (some (Addr.add A0 11)))] c3 fun e u1 => e = .returned (.tuple #[]) ∧
 R (.tuple #[]) u1)
 (
 brB (x1 == 10) (
 Calls pP 144 #[(.iface 204 (.pointer (some A1))), (.pointer (some A0))] w fun e u2 => e = .returned (.tuple #[]) ∧
 ∀ c4, Adv [] [] u2 c4 →
 Calls pP 202 #[(.pointer (some A1)), (.pointer (some (Addr.add A0 11)))] c4 fun e u3 => e = .returned (.tuple #[]) ∧
 Calls pP 82 #[(.iface 204 (.pointer (some A1))), (.pointer (some (Addr.add A0 1)))] u3 fun e u4 => e = .returned (.tuple #[]) ∧
 ∀ c5, Adv [] [] u4 c5 →
 Calls pP 202 #[(.pointer (some A1)), (.pointer (some (Addr.add A0 4)))] c5 fun e u5 => e = .returned (.tuple #[]) ∧
 R (.tuple #[]) u5)
 (
 brB (x1 == 11) (
 ∀ c6, Adv [] [] w c6 →
 Calls pP 200 #[(.pointer (some A1)), (.pointer (some (Addr.add A0 9)))] c6 fun e u6 => e = .returned (.tuple #[]) ∧
 Calls pP 82 #[(.iface 204 (.pointer (some A1))), (.pointer (some (Addr.add A0 1)))] u6 fun e u7 => e = .returned (.tuple #[]) ∧
 R (.tuple #[]) u7)
 (
 R (.tuple #[]) w))))))))))))
 (
 brB (x1 == 12) (
 ∀ c7, Adv [] [] w c7 →
 Calls pP 202 #[(.pointer (some A1)), (.pointer (some (Addr.add A0 3)))] c7 fun e u9 => e = .returned (.tuple #[]) ∧
 R (.tuple #[]) u9)
 (
 brB (x1 == 2) (
 Calls pP 82 #[(.iface 204 (.pointer (some A1))), (.pointer (some (Addr.add A0 1)))] w fun e v0 => e = .returned (.tuple #[]) ∧
 ∀ c8, Adv [] [] v0 c8 →
 Calls pP 198 #[(.pointer (some A1)), (.pointer (some (Addr.add A0 5)))] c8 fun e v1 => e = .returned (.tuple #[]) ∧
 R (.tuple #[]) v1)
 (
 brB (x1 == 3) (
 Calls pP 82 #[(.iface 204 (.pointer (some A1))), (.pointer (some (Addr.add A0 1)))] w fun e v2 => e = .returned (.tuple #[]) ∧
 ∀ c9, Adv [] [] v2 c9 →
 Calls pP 202 #[(.pointer (some A1)), (.pointer (some (Addr.add A0 4)))] c9 fun e v3 => e = .returned (.tuple #[]) ∧
 ∀ d0, Adv [] [] v3 d0 →
 Calls pP 202 #[(.pointer (some A1)), (.pointer (some (Addr.add A0 3)))] d0 fun e v4 => e = .returned (.tuple #[]) ∧
 R (.tuple #[]) v4)
 (
 brB (x1 == 4) (
 Calls pP 82 #[(.iface 204 (.pointer (some A1))), (.pointer (some (Addr.add A0 1)))] w fun e v5 => e = .returned (.tuple #[]) ∧
 ∀ d1, Adv [] [] v5 d1 →
 Calls pP 202 #[(.pointer (some A1)), (.pointer (some (Addr.add A0 4)))] d1 fun e v6 => e = .returned (.tuple #[]) ∧
 R (.tuple #[]) v6)
 (
 brB (x1 == 5) (
 Calls pP 82 #[(.iface 204 (.pointer (some A1))), (.pointer (some (Addr.add A0 1)))] w fun e v7 => e = .returned (.tuple #[]) ∧
 R (.tuple #[]) v7)
 (
 brB (x1 == 6) (
 Calls pP 144 #[(.iface 204 (.pointer (some A1))), (.pointer (some A0))] w fun e v8 => e = .returned (.tuple #[]) ∧
 ∀ d2, Adv [] [] v8 d2 →
 Calls pP 202 #[(.pointer (some A1)), (.pointer (some (Addr.add A0 3)))] d2 fun e v9 => e = .returned (.tuple #[]) ∧
 ∀ d3, Adv [] [] v9 d3 →
 Calls pP 199 #[(.pointer (some A1)), (.pointer (some (Addr.add A0 12)))] d3 fun e w0 => e = .returned (.tuple #[]) ∧
 ∀ d4, Adv [] [] w0 d4 →
 Calls pP 201 #[(.pointer (some A1)), (.pointer (some (Addr.add A0 13)))] d4 fun e w1 => e = .returned (.tuple #[]) ∧
 R (.tuple #[]) w1)
 (
 brB (x1 == 7) (
 brB (x1 == 7) (
 Calls pP 144 #[(.iface 204 (.pointer (some A1))), (.pointer (some A0))] w fun e x0 => e = .returned (.tuple #[]) ∧
 ∀ d5, Adv [] [] x0 d5 →
 Calls pP 202 #[(.pointer (some A1)), (.pointer (some (Addr.add A0 11)))] d5 fun e x2 => e = .returned (.tuple #[]) ∧
 R (.tuple #[]) x2)
 (
 brB (x1 == 10) (
 Calls pP 144 #[(.iface 204 (.pointer (some A1))), (.pointer (some A0))] w fun e x3 => e = .returned (.tuple #[]) ∧
 ∀ d6, Adv [] [] x3 d6 →
 Calls pP 202 #[(.pointer (some A1)), (.pointer (some (Addr.add A0 11)))] d6 fun e x4 => e = .returned (.tuple #[]) ∧
 Calls pP 82 #[(.iface 204 (.pointer (some A1))), (.pointer (some (Addr.add A0 1)))] x4 fun e x5 => e = .returned (.tuple #[]) ∧
 ∀ d7, Adv [] [] x5 d7 →
 Calls pP 202 #[(.pointer (some A1)), (.pointer (some (Addr.add A0 4)))] d7 fun e x6 => e = .returned (.tuple #[]) ∧
 R (.tuple #[]) x6)
 (
 brB (x1 == 11) (
 ∀ d8, Adv [] [] w d8 →
 Calls pP 200 #[(.pointer (some A1)), (.pointer (some (Addr.add A0 9)))] d8 fun e x7 => e = .returned (.tuple #[]) ∧
 Calls pP 82 #[(.iface 204 (.pointer (some A1))), (.pointer (some (Addr.add A0 1)))] x7 fun e x8 => e = .returned (.tuple #[]) ∧
 R (.tuple #[]) x8)
 (
 R (.tuple #[]) w))))
 (
 brB (x1 == 8) (
 brB (x1 == 8) (
 Calls pP 144 #[(.iface 204 (.pointer (some A1))), (.pointer (some A0))] w fun e x9 => e = .returned (.tuple #[]) ∧
 ∀ d9, Adv [] [] x9 d9 →
 Calls pP 202 #[(.pointer (some A1)), (.pointer (some (Addr.add A0 11)))] d9 fun e y0 => e = .returned (.tuple #[]) ∧
 R (.tuple #[]) y0)
 (
 brB (x1 == 10) (
 Calls pP 144 #[(.iface 204 (.pointer (some A1))), (.pointer (some A0))] w fun e y1 => e = .returned (.tuple #[]) ∧
 ∀ a2, Adv [] [] y1 a2 →
 Calls pP 202 #[(.pointer (some A1)), (.pointer (some (Addr.add A0 11)))] a2 fun e e0 => e = .returned (.tuple #[]) ∧
 Calls pP 82 #[(.iface 204 (.pointer (some A1))), (.pointer (some (Addr.add A0 1)))] e0 fun e e1 => e = .returned (.tuple #[]) ∧
 ∀ a3, Adv [] [] e1 a3 →
 Calls pP 202 #[(.pointer (some A1)), (.pointer (some (Addr.add A0 4)))] a3 fun e e2 => e = .returned (.tuple #[]) ∧
 R (.tuple #[]) e2)
 (
 brB (x1 == 11) (
 ∀ a4, Adv [] [] w a4 →
 Calls pP 200 #[(.pointer (some A1)), (.pointer (some (Addr.add A0 9)))] a4 fun e e3 => e = .returned (.tuple #[]) ∧
 Calls pP 82 #[(.iface 204 (.pointer (some A1))), (.pointer (some (Addr.add A0 1)))] e3 fun e e4 => e = .returned (.tuple #[]) ∧
 R (.tuple #[]) e4)
 (
 R (.tuple #[]) w))))
 (
 brB (x1 == 9) (
 Calls pP 144 #[(.iface 204 (.pointer (some A1))), (.pointer (some A0))] w fun e e5 => e = .returned (.tuple #[]) ∧
 ∀ a5, Adv [] [] e5 a5 →
 Calls pP 202 #[(.pointer (some A1)), (.pointer (some (Addr.add A0 11)))] a5 fun e e6 => e = .returned (.tuple #[]) ∧
 R (.tuple #[]) e6)
 (
 brB (x1 == 10) (
 Calls pP 144 #[(.iface 204 (.pointer (some A1))), (.pointer (some A0))] w fun e e7 => e = .returned (.tuple #[]) ∧
 ∀ a6, Adv [] [] e7 a6 →
 Calls pP 202 #[(.pointer (some A1)), (.pointer (some (Addr.add A0 11)))] a6 fun e e8 => e = .returned (.tuple #[]) ∧
 Calls pP 82 #[(.iface 204 (.pointer (some A1))), (.pointer (some (Addr.add A0 1)))] e8 fun e e9 => e = .returned (.tuple #[]) ∧
 ∀ a7, Adv [] [] e9 a7 →
 Calls pP 202 #[(.pointer (some A1)), (.pointer (some (Addr.add A0 4)))] a7 fun e f0 => e = .returned (.tuple #[]) ∧
 R (.tuple #[]) f0)
 (
 brB (x1 == 11) (
 ∀ a8, Adv [] [] w a8 →
 Calls pP 200 #[(.pointer (some A1)), (.pointer (some (Addr.add A0 9)))] a8 fun e f1 => e = .returned (.tuple #[]) ∧
 Calls pP 82 #[(.iface 204 (.pointer (some A1))), (.pointer (some (Addr.add A0 1)))] f1 fun e f2 => e = .returned (.tuple #[]) ∧
 R (.tuple #[]) f2)
 (
 R (.tuple #[]) w)))))))))))))) :
 CR pP 117 #[(.iface 204 (.pointer (some A1))), (.pointer (some A0))] w R :=
 yaA Tryz.wide_mixed (an := []) Tryz.func117 rfl rfl (by kernel_rfl) rfl (Eq.mpr (by kernel_rfl) h)
theorem yDE {b0 : BA} {b9 a7 : BA} (h :
 ∀ b1, w.heap.size ≤ b1 →
 brB (decide (i0 < 0)) (
 ∀ w2, Adv [] [b1] w w2 →
 R (.int .i64 41) w2)
 (
 brB (decide (i0 ≥ 13)) (
 ∀ w3, Adv [] [b1] w w3 →
 R (.int .i64 41) w3)
 (
 ∀ b4, w.heap.size ≤ b4 →
 ∀ w5, Adv [] [b4, b1] w w5 → w5.heap[b1]? = some (.cells (Z1 i0 b0 i1 i2 i3 i4 i5 i6 q0 n0 n1 b9 a7 i7 B0 q1 n2 n3) 48) →
 w5.heap[b4]? = some (.cells #[.bool false, .bool false, .int .i64 0] 206) →
 Calls pP 117 #[(.iface 204 (.pointer (some ⟨b4, 0, none⟩))), (.pointer (some ⟨b1, 0, none⟩))] w5 fun e w6 => e = .returned (.tuple #[]) ∧ ∃ x7 s8 x9 d3 d4 d5 d6 d7 c1 c5 c3 c7 c8 d8 c9 c2 c6 c4, w6.heap[b1]? = some (.cells (Z1 x7 s8 x9 d3 d4 d5 d6 d7 c1 c5 c3 c7 c8 d8 c9 c2 c6 c4) 48) ∧ ∃ d0 d9 e0, w6.heap[b4]? = some (.cells #[.bool d0, .bool d9, .int .i64 e0] 206) ∧
 brB d0 (
 ∀ d1, Adv [b1] [] w6 d1 → d1.heap[b1]? = some (.cells (Z1 0 s8 x9 d3 d4 d5 d6 d7 c1 c5 c3 c7 c8 d8 c9 c2 c6 c4) 48) →
 d1.heap[b4]? = some (.cells #[.bool d0, .bool d9, .int .i64 e0] 206) →
 R (.int .i64 40) d1)
 (
 ∀ d2, Adv [b1] [] w6 d2 → d2.heap[b1]? = some (.cells (Z1 0 s8 x9 d3 d4 d5 d6 d7 c1 c5 c3 c7 c8 d8 c9 c2 c6 c4) 48) →
 d2.heap[b4]? = some (.cells #[.bool d0, .bool d9, .int .i64 e0] 206) →
 Calls pP 143 #[(.agg (Z1 0 s8 x9 d3 d4 d5 d6 d7 c1 c5 c3 c7 c8 d8 c9 c2 c6 c4)), (.agg (Z1 0 ByteArray.empty 0 0 0 0 0 0 none 0 0 ByteArray.empty ByteArray.empty 0 false none 0 0))] d2 fun e c0 => ∃ e1, e = .returned (.bool e1) ∧ ∃ f5 f0 f6 f7 f8 f9 g0 g1 e4 e8 e6 f1 f2 g2 f3 e5 e9 e7, c0.heap[b1]? = some (.cells (Z1 f5 f0 f6 f7 f8 f9 g0 g1 e4 e8 e6 f1 f2 g2 f3 e5 e9 e7) 48) ∧ ∃ f4 e2 e3, c0.heap[b4]? = some (.cells #[.bool f4, .bool e2, .int .i64 e3] 206) ∧
 brB (!e1) (
 R (.int .i64 40) c0)
 (
 brB e2 (
 R (.int .i64 1) c0)
 (
 R (.int .i64 e3) c0)))))) :
 CR pP 116 #[(.agg (Z1 i0 b0 i1 i2 i3 i4 i5 i6 q0 n0 n1 b9 a7 i7 B0 q1 n2 n3))] w R :=
 yaA Tryz.wide_mixed (an := []) Tryz.func116 rfl rfl (by kernel_rfl) rfl (Eq.mpr (by kernel_rfl) h)
end
theorem yDF {w : World} {a1 a2 : Option Addr} {n1 c1 n2 c2 : Nat} {l1 l2 : List ByteArray} (h1 : yb2 w 1 yi3 a1 n1 l1) (h2 : yb2 w 1 yi3 a2 n2 l2) (hl : l1.length ≤ 1000000) :
  Calls pP 159 #[.slice a1 n1 c1, .slice a2 n2 c2] w fun e w' => e = .returned (.bool (decide (l1 = l2))) ∧ Mod [] w w' := by
 refine yaS (yDl ?_)
 have e1 := h1.1
 have e2 := h2.1
 refine yaB (fun h => ⟨congrArg Value.bool (decide_eq_false fun e => ?_).symm, Mod.refl _⟩) fun h => ?_
 ·subst e
  rw [e1, e2] at h
  simp at h
 have hlen : l1.length = l2.length := by
  simp at h
  omega
 refine yu5 (fun mm x w' => ∃ k : Nat, x = k ∧ k ≤ l1.length ∧ l1.take k = l2.take k ∧ Mod [] w w' ∧ mm = l1.length - k) l1.length ⟨0, rfl, by omega, by simp, Mod.refl _, rfl⟩ ?_
 rintro mm x w1 ⟨k, rfl, hk, ht, M, rfl⟩
 refine yaC (fun hlt => ?_) fun hge => ?_
 ·have g1 : k < l1.length := by omega
  have g2 : k < l2.length := by omega
  obtain ⟨x, hx⟩ : ∃ x, l1[k]? = some x := ⟨_, List.getElem?_eq_getElem g1⟩
  obtain ⟨y, hy⟩ : ∃ y, l2[k]? = some y := ⟨_, List.getElem?_eq_getElem g2⟩
  refine (h1.keep0 M).ix hx fun q hq => yaI (by simpa [add_zero] using hq 0 _ rfl) ?_
  refine (h2.keep0 M).ix hy fun q hq => yaI (by simpa [add_zero] using hq 0 _ rfl) ?_
  rw [ygE x y]
  refine yaB (fun hne => ?_) fun heq => ?_
  rotate_left
  rotate_right
  ·intro w2 A2
   refine ⟨congrArg Value.bool (decide_eq_false fun e => (show ¬ x = y by simpa using hne) ?_).symm, M.go0 A2.mod (by simp)⟩
   subst e
   rw [hx] at hy
   exact Option.some.inj hy
  ·intro w2 A2
   have he : x = y := by simpa using heq
   subst he
   exact yu4 (l1.length - (k + 1)) (by omega) ⟨k + 1, by rw [yaF (by omega) (by omega)]; omega, by omega, yc6 ht hx hy, M.go0 A2.mod (by simp), rfl⟩
 ·have hk : k = l1.length := by omega
  subst hk
  rw [List.take_length, hlen, List.take_length] at ht
  exact ⟨congrArg Value.bool (decide_eq_true ht).symm, M⟩
theorem neR (x y : PRec) (o1 o2 : Operand) (w : World) : Sem.run pP (do eqGuard .neq 99 o1 o2 x.v y.v; Go.binOp .neq 99 x.v y.v) w = .ok (.bool (decide (x ≠ y))) w := by
 obtain ⟨a, b, c, d⟩ := x
 obtain ⟨a', b', c', d'⟩ := y
 simp [go_sem, Sem.run_bind, PRec.v]
 by_cases h1 : a = a' <;> by_cases h2 : b = b' <;> by_cases h3 : c = c' <;> by_cases h4 : d = d' <;> simp [h1, h2, h3, h4, ycU]
theorem yF9 (x y : PPart) (o1 o2 : Operand) (w : World) : Sem.run pP (do eqGuard .eql 42 o1 o2 x.v y.v; Go.binOp .eql 42 x.v y.v) w = .ok (.bool (decide (x = y))) w := by
 obtain ⟨a, b⟩ := x
 obtain ⟨a', b'⟩ := y
 simp [go_sem, Sem.run_bind, PPart.v]
 by_cases h1 : a = a' <;> by_cases h2 : b = b' <;> simp [h1, h2, ycU]
theorem yDG {w : World} {a1 a2 : Option Addr} {n1 c1 n2 c2 : Nat} {l1 l2 : List PRec} (h1 : yb2 w 4 ye5 a1 n1 l1) (h2 : yb2 w 4 ye5 a2 n2 l2) (hl : l1.length ≤ 1000000) :
  Calls pP 165 #[.slice a1 n1 c1, .slice a2 n2 c2] w fun e w' => e = .returned (.bool (decide (l1 = l2))) ∧ Mod [] w w' := by
 refine yaS (yDo ?_)
 have e1 := h1.1
 have e2 := h2.1
 refine yaB (fun h => ⟨congrArg Value.bool (decide_eq_false fun e => ?_).symm, Mod.refl _⟩) fun h => ?_
 ·subst e
  rw [e1, e2] at h
  simp at h
 have hlen : l1.length = l2.length := by
  simp at h
  omega
 refine yu7 (fun mm x w' => ∃ k : Nat, x = k ∧ k ≤ l1.length ∧ l1.take k = l2.take k ∧ Mod [] w w' ∧ mm = l1.length - k) l1.length ⟨0, rfl, by omega, by simp, Mod.refl _, rfl⟩ ?_
 rintro mm x w1 ⟨k, rfl, hk, ht, M, rfl⟩
 refine yaC (fun hlt => ?_) fun hge => ?_
 ·have g1 : k < l1.length := by omega
  have g2 : k < l2.length := by omega
  obtain ⟨x, hx⟩ : ∃ x, l1[k]? = some x := ⟨_, List.getElem?_eq_getElem g1⟩
  obtain ⟨y, hy⟩ : ∃ y, l2[k]? = some y := ⟨_, List.getElem?_eq_getElem g2⟩
  refine (h1.keep0 M).ix hx fun q hq => yaP (by simpa [add_zero] using hq 0 _ rfl) (yaI (hq 1 _ rfl) (yaP (hq 2 _ rfl) (yaI (hq 3 _ rfl) ?_)))
  refine (h2.keep0 M).ix hy fun q hq => yaP (by simpa [add_zero] using hq 0 _ rfl) (yaI (hq 1 _ rfl) (yaP (hq 2 _ rfl) (yaI (hq 3 _ rfl) ?_)))
  refine ⟨_, fun w' _ => neR x y _ _ w', ?_⟩
  refine yaC (fun hne => ?_) fun heq => ?_
  ·intro w2 A2
   refine ⟨congrArg Value.bool (decide_eq_false fun e => hne ?_).symm, M.go0 A2.mod (by simp)⟩
   subst e
   rw [hx] at hy
   exact Option.some.inj hy
  ·intro w2 A2
   have he : x = y := Decidable.not_not.1 heq
   subst he
   exact yu6 (l1.length - (k + 1)) (by omega) ⟨k + 1, by rw [yaF (by omega) (by omega)]; omega, by omega, yc6 ht hx hy, M.go0 A2.mod (by simp), rfl⟩
 ·have hk : k = l1.length := by omega
  subst hk
  rw [List.take_length, hlen, List.take_length] at ht
  exact ⟨congrArg Value.bool (decide_eq_true ht).symm, M⟩
def PBatch.v (b : PBatch) (rs : Sl) : Value := .agg #[.int .i64 b.prod, .int .i64 b.epoch, .int .i64 b.seq, .slice rs.a rs.n rs.c]
theorem ysB {w : World} {x y : PBatch} {s t : Sl} (h1 : yb2 w 4 ye5 s.a s.n x.recs) (h2 : yb2 w 4 ye5 t.a t.n y.recs) (hl : x.recs.length ≤ 1000000) :
  Calls pP 158 #[x.v s, y.v t] w fun e w' => e = .returned (.bool (decide (x = y))) ∧ Mod [] w w' := by
 obtain ⟨a1, a2, a3, a4⟩ := x
 obtain ⟨b1, b2, b3, b4⟩ := y
 refine yaS (yDh ?_)
 intro c1 f1 c2 f2
 simp only [PBatch.mk.injEq]
 refine yaB (fun g1 => ?_) fun g1 => ?_
 ·have g1 : a1 = b1 := by simpa using g1
  refine yaB (fun g2 => ?_) fun g2 => ?_
  ·have g2 : a2 = b2 := by simpa using g2
   refine yaB (fun g3 => ?_) fun g3 => ?_
   ·have g3 : a3 = b3 := by simpa using g3
    intro w1 A1
    refine (yDG (h1.keep0 A1.mod) (h2.keep0 A1.mod) hl).mono ?_
    rintro e w2 ⟨rfl, M2⟩
    exact ⟨_, rfl, yaH.of0 M2, by simp [g1, g2, g3], A1.mod.go0 M2 (by simp)⟩
   ·intro w1 A1
    exact ⟨congrArg Value.bool (decide_eq_false (by simp at g3; rintro ⟨_, _, h, _⟩; exact g3 h)).symm, A1.mod⟩
  ·intro w1 A1
   exact ⟨congrArg Value.bool (decide_eq_false (by simp at g2; rintro ⟨_, h, _⟩; exact g2 h)).symm, A1.mod⟩
 ·intro w1 A1
  exact ⟨congrArg Value.bool (decide_eq_false (by simp at g1; rintro ⟨h, _⟩; exact g1 h)).symm, A1.mod⟩
theorem yvC {w : World} {x y : POp} {rs ts rs' ts' : Sl} (h1 : OpAt w x rs ts) (h2 : OpAt w y rs' ts') :
  Calls pP 143 #[x.v rs ts, y.v rs' ts'] w fun e w' => e = .returned (.bool (decide (x = y))) ∧ Mod [] w w' := by
 obtain ⟨k1, p1, n1, o1, b1, g1, m1, e1, r1, t1⟩ := x
 obtain ⟨k2, p2, n2, o2, b2, g2, m2, e2, r2, t2⟩ := y
 refine yaS (yDi ?_)
 intro c1 f1 c2 f2
 simp only [POp.mk.injEq]
 have no : ∀ {P : Prop} [Decidable P] {w' : World}, ¬ P → Mod [] w w' → (Value.bool false = Value.bool (decide P) ∧ Mod [] w w') := fun hn M => ⟨congrArg Value.bool (decide_eq_false hn).symm, M⟩
 refine yaB (fun q1 => ?_) fun q1 => ?_
 rotate_left
 ·intro w1 A1
  exact no (by simp at q1; rintro ⟨h, _⟩; exact q1 h) A1.mod
 have q1 : k1 = k2 := by simpa using q1
 intro w1 A1
 have M1 := A1.mod
 refine ⟨_, fun w' _ => yF9 p1 p2 _ _ w', yaB (fun q2 => ?_) fun q2 => no (by simp at q2; rintro ⟨_, h, _⟩; exact q2 h) M1⟩
 have q2 : p1 = p2 := by simpa using q2
 refine yaB (fun q3 => ?_) fun q3 => no (by simp at q3; rintro ⟨_, _, h, _⟩; exact q3 h) M1
 have q3 : n1 = n2 := by simpa using q3
 refine yaB (fun q4 => ?_) fun q4 => no (by simp at q4; rintro ⟨_, _, _, h, _⟩; exact q4 h) M1
 have q4 : o1 = o2 := by simpa using q4
 rw [ygE, ygE]
 refine yaB (fun q5 => ?_) fun q5 => no (by simp at q5; rintro ⟨_, _, _, _, _, h, _⟩; exact q5 h) M1
 have q5 : g1 = g2 := by simpa using q5
 refine yaB (fun q6 => ?_) fun q6 => no (by simp at q6; rintro ⟨_, _, _, _, _, _, h, _⟩; exact q6 h) M1
 have q6 : m1 = m2 := by simpa using q6
 refine yaB (fun q7 => ?_) fun q7 => no (by simp at q7; rintro ⟨_, _, _, _, _, _, _, h, _⟩; exact q7 h) M1
 have q7 : e1 = e2 := by simpa using q7
 refine yaB (fun q8 => ?_) fun q8 => no (by simp at q8; rintro ⟨_, _, _, _, _, _, _, _, h, _⟩; exact q8 h) M1
 have q8 : r1 = r2 := by simpa using q8
 refine (ysB (x := b1) (y := b2) (s := rs) (t := rs') (h1.recs.keep0 M1) (h2.recs.keep0 M1) h1.lr).mono ?_
 rintro e w2 ⟨rfl, M2⟩
 have N2 := M1.go0 M2 (by simp)
 refine ⟨_, rfl, yaH.of0 M2, yaB (fun q9 => ?_) fun q9 => no (by simp at q9; rintro ⟨_, _, _, _, h, _⟩; exact q9 h) N2⟩
 have q9 : b1 = b2 := by simpa using q9
 refine (yDF (h1.topics.keep0 N2) (h2.topics.keep0 N2) h1.lt).mono ?_
 rintro e w3 ⟨rfl, M3⟩
 exact ⟨_, rfl, yaH.of0 M3, by simp [q1, q2, q3, q4, q5, q6, q7, q8, q9], N2.go0 M3 (by simp)⟩
theorem yiE (n : Int) (w : World) : Calls pP 190 #[.int .i64 n] w fun e w' => e = .returned (.bool (num n)) ∧ w' = w :=
 yaS (yC5 (yaC (fun h => ⟨by simp [num]; omega, rfl⟩) (fun h => ⟨by simp [num]; omega, rfl⟩)))
theorem yvD {l : List PRec} {k : Nat} {x : PRec} (hx : l[k]? = some x) (h : ∀ y ∈ l.take k, yg5 y = 0) (hne : yg5 x ≠ 0) : (l.find? fun r => yg5 r ≠ 0) = some x := by
 have hk : k < l.length := (List.getElem?_eq_some_iff.1 hx).1
 have e : l = l.take k ++ x :: l.drop (k + 1) := by
  have h2 : l[k] = x := (List.getElem?_eq_some_iff.1 hx).2
  conv => lhs; rw [← List.take_append_drop k l, List.drop_eq_getElem_cons hk, h2]
 rw [e, List.find?_append, List.find?_eq_none.2 (by intro y hy; simp [h y hy])]
 simp [hne]
theorem ymU {w : World} {b : PBatch} {rs : Sl} (h : yb2 w 4 ye5 rs.a rs.n b.recs) (hl : b.recs.length ≤ 1000000) :
  Calls pP 189 #[b.v rs] w fun e w' => e = .returned (.int .i64 (yb0 b)) ∧ Mod [] w w' := by
 refine yaS (yC8 ?_)
 have hn := h.1
 intro b1 f1 w1 A1
 have l1 := A1.lt b1 (by simp)
 have bad : ∀ {k : Int} {w' : World}, yb0 b = k → Mod [] w w' → (Value.int .i64 k = Value.int .i64 (yb0 b) ∧ Mod [] w w') := fun e M => ⟨by rw [e], M⟩
 refine (yiE b.prod w1).mono ?_
 rintro e w2 ⟨rfl, rfl⟩
 refine ⟨_, rfl, yaH.of0 (Mod.refl _), yaB (fun q1 => bad (by rw [yb0, if_pos (by rw [yBf q1]; rfl)]) A1.mod) fun q1 => ?_⟩
 refine (yiE b.epoch w2).mono ?_
 rintro e w3 ⟨rfl, rfl⟩
 refine ⟨_, rfl, yaH.of0 (Mod.refl _), yaB (fun q2 => bad (by rw [yb0, if_pos (by rw [yBf q2]; simp)]) A1.mod) fun q2 => ?_⟩
 refine (yiE b.seq w3).mono ?_
 rintro e w4 ⟨rfl, rfl⟩
 refine ⟨_, rfl, yaH.of0 (Mod.refl _), yaB (fun q3 => bad (by rw [yb0, if_pos (by rw [yBf q3]; simp)]) A1.mod) fun q3 => ?_⟩
 have e0 : yb0 b = if b.recs.length = 0 then 30 else if b.recs.length > 16 then 2 else match b.recs.find? fun r => yg5 r ≠ 0 with | none => 0 | some r => yg5 r := by
  rw [yb0, if_neg (by rw [yAd q1, yAd q2, yAd q3]; decide)] <;> rfl
 refine yaB (fun q4 => bad (by rw [e0, if_pos (by simp at q4; omega)]) A1.mod) fun q4 => ?_
 rw [if_neg (by simp at q4; omega)] at e0
 refine yaC (fun q5 => bad (by rw [e0, if_pos (by omega)]) A1.mod) fun q5 => ?_
 rw [if_neg (by omega)] at e0
 refine yuZ (fun mm x w' => ∃ k : Nat, x = k ∧ k ≤ b.recs.length ∧ (∀ y ∈ b.recs.take k, yg5 y = 0) ∧ Mod [] w w' ∧ mm = b.recs.length - k) b.recs.length ⟨0, rfl, by omega, by simp, A1.mod, rfl⟩ ?_
 rintro mm x w5 ⟨k, rfl, hk, hz, M5, rfl⟩
 refine yaC (fun hlt => ?_) fun hge => ?_
 ·obtain ⟨y, hy⟩ : ∃ y, b.recs[k]? = some y := ⟨_, List.getElem?_eq_getElem (by omega)⟩
  refine (h.keep0 M5).ix hy fun q hq => yaP (by simpa [add_zero] using hq 0 _ rfl) (yaI (hq 1 _ rfl) (yaP (hq 2 _ rfl) (yaI (hq 3 _ rfl) ?_)))
  intro b6 f6 w6 A6
  refine (yd4 y w6).mono ?_
  rintro e w7 ⟨rfl, M7⟩
  have N7 := (M5.go0 A6.mod (by simp)).go0 M7 (by simp)
  refine ⟨_, rfl, yaH.of0 M7, yaB (fun q6 => ?_) fun q6 => ?_⟩
  ·have q6 : yg5 y ≠ 0 := by simpa using q6
   exact bad (by rw [e0, yvD hy hz q6]) N7
  ·have q6 : yg5 y = 0 := by simpa using q6
   refine yuY (b.recs.length - (k + 1)) (by omega) ⟨k + 1, by rw [yaF (by omega) (by omega)]; omega, by omega, ?_, N7, rfl⟩
   rw [List.take_add_one, hy]
   intro z hz'
   rcases List.mem_append.1 hz' with h | h
   ·exact hz z h
   ·simp at h; subst h; exact q6
 ·have : k = b.recs.length := by omega
  subst this
  rw [List.take_length] at hz
  refine bad ?_ M5
  rw [e0, List.find?_eq_none.2 (by intro y hy; simp [hz y hy])]
structure ChSt (w0 w : World) (bc bo : Nat) (F A : Bool) (E : Int) (cs : List Value) : Prop where
 c : w.heap[bc]? = some (.cells #[.bool F, .bool A, .int .i64 E] 206)
 o : w.heap[bo]? = some (.cells cs.toArray 48)
 m : Mod [bc, bo] w0 w
 ne : bc ≠ bo
theorem ChSt.adv {w0 w w' : World} {bc bo : Nat} {F A : Bool} {E : Int} {cs : List Value} (h : ChSt w0 w bc bo F A E cs) {N : List Nat} (M : Adv [] N w w') : ChSt w0 w' bc bo F A E cs :=
 ⟨M.mod.keep0 h.c, M.mod.keep0 h.o, (h.m.trans M.mod).less (by simp), h.ne⟩
theorem ChSt.m0 {w0 w w' : World} {bc bo : Nat} {F A : Bool} {E : Int} {cs : List Value} (h : ChSt w0 w bc bo F A E cs) (M : Mod [] w w') : ChSt w0 w' bc bo F A E cs :=
 ⟨M.keep0 h.c, M.keep0 h.o, (h.m.trans M).less (by simp), h.ne⟩
theorem ChSt.setC {w0 w w' : World} {bc bo : Nat} {F A F' A' : Bool} {E E' : Int} {cs : List Value} (h : ChSt w0 w bc bo F A E cs) (hc : w'.heap[bc]? = some (.cells #[.bool F', .bool A', .int .i64 E'] 206)) (M : Mod [bc] w w') : ChSt w0 w' bc bo F' A' E' cs :=
 ⟨hc, M.keep h.o (by simpa using h.ne.symm), (h.m.trans M).less (by simp), h.ne⟩
theorem ChSt.setO {w0 w w' : World} {bc bo : Nat} {F A : Bool} {E : Int} {cs cs' : List Value} (h : ChSt w0 w bc bo F A E cs) (ho : w'.heap[bo]? = some (.cells cs'.toArray 48)) (M : Mod [bo] w w') : ChSt w0 w' bc bo F A E cs' :=
 ⟨M.keep h.c (by simpa using h.ne), ho, (h.m.trans M).less (by simp), h.ne⟩
theorem yCb {cs : List Value} {off : Nat} {v : Value} : ybH cs.toArray off [v] = (cs.set off v).toArray := by simp [ybH]
theorem yjX {w0 w : World} {bc bo off : Nat} {F A : Bool} {E x : Int} {cs : List Value} {R : World → Prop} (H : ChSt w0 w bc bo F A E cs) (hc : cs[off]? = some (.int .i64 x)) (k : ∀ w', ChSt w0 w' bc bo F (A || !num x) E (cs.set off (.int .i64 0)) → R w') :
  Calls pP 202 #[.pointer (some ⟨bc, 0, none⟩), .pointer (some ⟨bo, off, none⟩)] w fun e w' => e = .returned (.tuple #[]) ∧ R w' := by
 have hlt : off < cs.length := (List.getElem?_eq_some_iff.1 hc).1
 refine yaS (yDp ?_)
 refine yhU (b := bc) (i := 1) H.c rfl ?_
 refine yaB (fun g => ?_) fun g => ?_
 ·subst g
  refine ycT (b := bc) (o := 1) H.c rfl (by simp) fun w1 h1 M1 => ?_
  have H1 := H.setC (F' := F) (A' := true) (E' := E) h1 M1
  refine ycT (b := bo) (o := off) H1.o rfl (by simp; omega) fun w2 h2 M2 => ?_
  exact ⟨rfl, k w2 (H1.setO (by rw [h2, yCb]) M2)⟩
 ·subst g
  refine yeV (b := bo) (i := off) H.o (by simpa using hc) ?_
  refine (ycI x w).mono ?_
  rintro e w1 ⟨rfl, rfl⟩
  refine ⟨_, rfl, ?_⟩
  refine ycT (b := bc) (o := 1) H.c rfl (by simp) fun w2 h2 M2 => ?_
  have H2 := H.setC (F' := F) (A' := !num x) (E' := E) h2 M2
  refine ycT (b := bo) (o := off) H2.o rfl (by simp; omega) fun w3 h3 M3 => ?_
  exact ⟨rfl, k w3 (H2.setO (by rw [h3, yCb]) M3)⟩
theorem yd6 {w0 w : World} {bc bo off : Nat} {F A : Bool} {E : Int} {x : ByteArray} {cs : List Value} {R : World → Prop} (H : ChSt w0 w bc bo F A E cs) (hc : cs[off]? = some (.string x)) (k : ∀ w', ChSt w0 w' bc bo (F || !ycA x) A E (cs.set off (.string es)) → R w') :
  Calls pP 200 #[.pointer (some ⟨bc, 0, none⟩), .pointer (some ⟨bo, off, none⟩)] w fun e w' => e = .returned (.tuple #[]) ∧ R w' := by
 have hlt : off < cs.length := (List.getElem?_eq_some_iff.1 hc).1
 refine yaS (yDq ?_)
 refine yhU (b := bc) (i := 0) H.c rfl ?_
 refine yaB (fun g => ?_) fun g => ?_
 ·subst g
  refine ycT (b := bc) (o := 0) H.c rfl (by simp) fun w1 h1 M1 => ?_
  have H1 := H.setC (F' := true) (A' := A) (E' := E) h1 M1
  refine ycT (b := bo) (o := off) H1.o rfl (by simp; omega) fun w2 h2 M2 => ?_
  exact ⟨rfl, k w2 (H1.setO (by rw [h2, yCb]; rfl) M2)⟩
 ·subst g
  refine yyA (b := bo) (i := off) H.o (by simpa using hc) ?_
  refine (ynZ x w).mono ?_
  rintro e w1 ⟨rfl, M1⟩
  have H1 := H.m0 M1
  refine ⟨_, rfl, ?_⟩
  refine ycT (b := bc) (o := 0) H1.c rfl (by simp) fun w2 h2 M2 => ?_
  have H2 := H1.setC (F' := !ycA x) (A' := A) (E' := E) h2 M2
  refine ycT (b := bo) (o := off) H2.o rfl (by simp; omega) fun w3 h3 M3 => ?_
  exact ⟨rfl, k w3 (H2.setO (by rw [h3, yCb]; rfl) M3)⟩
theorem yoG {w0 w : World} {bc bo off : Nat} {F A : Bool} {E : Int} {x : Bool} {cs : List Value} {R : World → Prop} (H : ChSt w0 w bc bo F A E cs) (hc : cs[off]? = some (.bool x)) (k : ∀ w', ChSt w0 w' bc bo F A E (cs.set off (.bool false)) → R w') :
  Calls pP 199 #[.pointer (some ⟨bc, 0, none⟩), .pointer (some ⟨bo, off, none⟩)] w fun e w' => e = .returned (.tuple #[]) ∧ R w' := by
 have hlt : off < cs.length := (List.getElem?_eq_some_iff.1 hc).1
 refine yaS (yDr ?_)
 refine ycT (b := bo) (o := off) H.o rfl (by simp; omega) fun w2 h2 M2 => ?_
 exact ⟨rfl, k w2 (H.setO (by rw [h2, yCb]) M2)⟩
theorem ymV {w0 w : World} {bc bo : Nat} {F A : Bool} {E : Int} {b : PBatch} {rs : Sl} {cs : List Value} {R : World → Prop} (H : ChSt w0 w bc bo F A E cs) (h5 : cs[5]? = some (.int .i64 b.prod)) (h6 : cs[6]? = some (.int .i64 b.epoch)) (h7 : cs[7]? = some (.int .i64 b.seq)) (h8 : cs[8]? = some (.slice rs.a rs.n rs.c))
  (hs : yb2 w 4 ye5 rs.a rs.n b.recs) (hl : b.recs.length ≤ 1000000) (k : ∀ w', ChSt w0 w' bc bo F A (yb0 b) ((((cs.set 5 (.int .i64 0)).set 6 (.int .i64 0)).set 7 (.int .i64 0)).set 8 (.slice none 0 0)) → R w') :
  Calls pP 198 #[.pointer (some ⟨bc, 0, none⟩), .pointer (some ⟨bo, 5, none⟩)] w fun e w' => e = .returned (.tuple #[]) ∧ R w' := by
 have hlt : 8 < cs.length := (List.getElem?_eq_some_iff.1 h8).1
 refine yaS (yDs ?_)
 refine yeV (b := bo) (i := 5) H.o (by simpa using h5) (yeV (b := bo) (i := 6) H.o (by simpa using h6) (yeV (b := bo) (i := 7) H.o (by simpa using h7) (ycG (b := bo) (i := 8) H.o (by simpa using h8) ?_)))
 refine (ymU (b := b) (rs := rs) hs hl).mono ?_
 rintro e w1 ⟨rfl, M1⟩
 have H1 := H.m0 M1
 refine ⟨_, rfl, ?_⟩
 refine ycT (b := bc) (o := 2) H1.c rfl (by simp) fun w2 h2 M2 => ?_
 have H2 := H1.setC (F' := F) (A' := A) (E' := yb0 b) h2 M2
 refine ycT (b := bo) (o := 5) H2.o rfl (by simp; omega) fun w3 h3 M3 => ?_
 exact ⟨rfl, k w3 (H2.setO (by rw [h3]; simp [ybH]) M3)⟩
theorem yDH (s : ByteArray) (w : World) : Calls pP 204 #[.string s] w fun e w' => e = .returned (.bool (!ycA s)) ∧ Mod [] w w' := by
 refine yaS (yDw ?_)
 refine (ynZ s w).mono ?_
 rintro e w1 ⟨rfl, M1⟩
 exact ⟨_, rfl, rfl, M1⟩
theorem yoH {w : World} {a : Option Addr} {n c : Nat} {l : List ByteArray} (h : yb2 w 1 yi3 a n l) (hl : l.length ≤ 1000000) :
  Calls pP 205 #[.slice a n c, .func (.func 204) #[] #[]] w fun e w' => ∃ v, e = .returned v ∧ ∃ x : Int, v = .int .i64 x ∧ (0 ≤ x ↔ l.all ycA = false) ∧ Mod [] w w' := by
 refine yDA ?_
 have hn := h.1
 refine yvB (fun mm x w' => ∃ k : Nat, x = k ∧ k ≤ l.length ∧ (l.take k).all ycA = true ∧ Mod [] w w' ∧ mm = l.length - k) l.length ⟨0, rfl, by omega, by simp, Mod.refl _, rfl⟩ ?_
 rintro mm x w1 ⟨k, rfl, hk, ha, M1, rfl⟩
 refine yaC (fun hlt => ?_) fun hge => ?_
 ·obtain ⟨y, hy⟩ : ∃ y, l[k]? = some y := ⟨_, List.getElem?_eq_getElem (by omega)⟩
  refine (h.keep0 M1).ix hy fun q hq => yaI (by simpa [add_zero] using hq 0 _ rfl) ?_
  refine (yDH y w1).mono ?_
  rintro e w2 ⟨rfl, M2⟩
  have N2 := M1.go0 M2 (by simp)
  refine ⟨_, rfl, yaB (fun g => ?_) fun g => ?_⟩
  ·refine ⟨_, rfl, ⟨fun _ => ?_, fun _ => by omega⟩, N2⟩
   rw [List.all_eq_false]
   exact ⟨y, List.mem_of_getElem? hy, by simpa using g⟩
  ·refine yvA (l.length - (k + 1)) (by omega) ⟨k + 1, by rw [yaF (by omega) (by omega)]; omega, by omega, ?_, N2, rfl⟩
   rw [yd5 hy, ha]; simpa using g
 ·have : k = l.length := by omega
  subst this
  rw [List.take_length] at ha
  exact ⟨_, rfl, ⟨fun h => by omega, fun h => by rw [ha] at h; cases h⟩, M1⟩
theorem yi4 {w : World} {a : Option Addr} {n c : Nat} {l : List ByteArray} (h : yb2 w 1 yi3 a n l) (hl : l.length ≤ 1000000) :
  Calls pP 203 #[.slice a n c, .func (.func 204) #[] #[]] w fun e w' => e = .returned (.bool (!l.all ycA)) ∧ Mod [] w w' := by
 refine yaS (yDx ?_)
 refine (yoH h hl).mono ?_
 rintro e w1 ⟨_, rfl, x, rfl, hx, M1⟩
 refine ⟨_, rfl, congrArg Value.bool ?_, M1⟩
 cases ha : l.all ycA
 ·exact decide_eq_true (hx.2 ha)
 ·exact decide_eq_false fun h => by have := hx.1 h; rw [ha] at this; cases this
theorem yjY : ∀ (l : List ByteArray) (x y : ByteArray), yg8 (l ++ [x, y]) = (yg8 (l ++ [x]) && yBn x y)
 | [], x, y => by simp [yg8]
 | [a], x, y => by simp [yg8, Bool.and_assoc]
 | a :: b :: r, x, y => by
  have := yjY (b :: r) x y
  simp only [List.cons_append] at this ⊢
  rw [yg8, yg8, this, Bool.and_assoc]
theorem ymW {l : List ByteArray} {k : Nat} {x y : ByteArray} (hx : l[k]? = some x) (hy : l[k + 1]? = some y) : yg8 (l.take (k + 2)) = (yg8 (l.take (k + 1)) && yBn x y) := by
 have e1 : l.take (k + 1) = l.take k ++ [x] := by rw [List.take_add_one, hx]; rfl
 have e2 : l.take (k + 2) = l.take k ++ [x, y] := by rw [List.take_add_one, hy, e1]; simp
 rw [e1, e2, yjY]
theorem ymX {w0 w : World} {bc bo : Nat} {F A : Bool} {E : Int} {l : List ByteArray} {ts : Sl} {cs : List Value} {R : World → Prop} (H : ChSt w0 w bc bo F A E cs) (hc : cs[13]? = some (.slice ts.a ts.n ts.c))
  (hs : yb2 w 1 yi3 ts.a ts.n l) (hl : l.length ≤ 1000000) (k : ∀ w', ChSt w0 w' bc bo (F || !ydV l) A E (cs.set 13 (.slice none 0 0)) → R w') :
  Calls pP 201 #[.pointer (some ⟨bc, 0, none⟩), .pointer (some ⟨bo, 13, none⟩)] w fun e w' => e = .returned (.tuple #[]) ∧ R w' := by
 have hlt : 13 < cs.length := (List.getElem?_eq_some_iff.1 hc).1
 have hn := hs.1
 refine yaS (yDv ?_)
 refine yu9 (fun mm t x w' => ∃ j : Nat, x = ((j + 1 : Nat) : Int) ∧ j ≤ l.length ∧ t = yg8 (l.take (j + 1)) ∧ Mod [] w w' ∧ mm = l.length - j) l.length ⟨0, rfl, by omega, ?_, Mod.refl _, rfl⟩ ?_
 ·cases l <;> simp [yg8]
 rintro mm t x w1 ⟨j, rfl, hj, rfl, M1, rfl⟩
 have H1 := H.m0 M1
 have hcell : cs.toArray[13]? = some (.slice ts.a ts.n ts.c) := by simpa using hc
 refine ycG (b := bo) (i := 13) H1.o hcell ?_
 refine yaC (fun hlt2 => ?_) fun hge => ?_
 ·have g1 : j + 1 < l.length := by omega
  obtain ⟨x, hx⟩ : ∃ x, l[j]? = some x := ⟨_, List.getElem?_eq_getElem (by omega)⟩
  obtain ⟨y, hy⟩ : ∃ y, l[j + 1]? = some y := ⟨_, List.getElem?_eq_getElem g1⟩
  have ew : IntKind.wrap .i64 (((j + 1 : Nat) : Int) + 1) = ((j + 1 + 1 : Nat) : Int) := by rw [yaF (by omega) (by omega)]; omega
  have em : IntKind.wrap .i64 (((j + 1 : Nat) : Int) - 1) = (j : Int) := by rw [yaF (by omega) (by omega)]; omega
  refine yaB (fun g => ?_) fun g => ?_
  ·refine ycG (b := bo) (i := 13) H1.o hcell ?_
   rw [em]
   refine (hs.keep0 M1).ix hx fun q hq => yaI (x := x) (by simpa [add_zero] using hq 0 _ rfl) ?_
   refine ycG (b := bo) (i := 13) H1.o hcell ?_
   refine (hs.keep0 M1).ix hy fun q hq => yaI (x := y) (by simpa [add_zero] using hq 0 _ rfl) ?_
   intro w2 A2
   refine ymT (l.length - (j + 1)) (by omega) ⟨j + 1, ew, by omega, ?_, M1.go0 A2.mod (by simp), rfl⟩
   rw [ymW hx hy, g]; rfl
  ·intro w2 A2
   refine ymT (l.length - (j + 1)) (by omega) ⟨j + 1, ew, by omega, ?_, M1.go0 A2.mod (by simp), rfl⟩
   rw [ymW hx hy, g]; rfl
 ·rw [List.take_of_length_le (by omega)]
  refine ycG (b := bo) (i := 13) H1.o hcell ?_
  refine (yi4 (hs.keep0 M1) hl).mono ?_
  rintro e w2 ⟨rfl, M2⟩
  have H2 := H1.m0 M2
  refine ⟨_, rfl, ?_⟩
  have fin : ∀ {f : Bool}, (F || !ydV l) = f → st w2 ⟨bc, 0, none⟩ [.bool f] fun w3 => st w3 ⟨bo, 13, none⟩ [.slice none 0 0] fun w4 => (Value.tuple #[] = Value.tuple #[] ∧ R w4) := fun {f} hf => by
   refine ycT (b := bc) (o := 0) H2.c rfl (by simp) fun w3 h3 M3 => ?_
   have H3 := H2.setC (F' := f) (A' := A) (E' := E) h3 M3
   refine ycT (b := bo) (o := 13) H3.o rfl (by simp; omega) fun w4 h4 M4 => ?_
   refine ⟨rfl, k w4 ?_⟩
   rw [hf]
   exact H3.setO (by rw [h4, yCb]) M4
  refine yhU (b := bc) (i := 0) H2.c rfl ?_
  refine yaB (fun g => fin (by rw [g]; rfl)) fun g => ?_
  subst g
  refine ycG (b := bo) (i := 13) H2.o hcell ?_
  refine yaB (fun g => fin ?_) fun g => ?_
  ·have : l.length = 0 := by simp at g; omega
   simp [ydV, this]
  refine ycG (b := bo) (i := 13) H2.o hcell ?_
  refine yaC (fun g2 => fin ?_) fun g2 => ?_
  ·have : ¬ (l.length ≤ 8) := by omega
   simp [ydV, this]
  have hl8 : decide (1 ≤ l.length ∧ l.length ≤ 8) = true := decide_eq_true (by simp at g; omega)
  refine yaB (fun g3 => fin ?_) fun g3 => fin ?_
  ·rw [ydV, yBf g3]; simp
  ·rw [ydV, yAd g3, hl8]; simp
theorem yoI {w0 w : World} {bc bo : Nat} {F A : Bool} {E x : Int} {t : ByteArray} {cs : List Value} {R : World → Prop} (H : ChSt w0 w bc bo F A E cs) (h1 : cs[1]? = some (.string t)) (h2 : cs[2]? = some (.int .i64 x)) (k : ∀ w', ChSt w0 w' bc bo (F || !ycA t) (A || !num x) E ((cs.set 1 (.string es)).set 2 (.int .i64 0)) → R w') :
  Calls pP 82 #[.iface 204 (.pointer (some ⟨bc, 0, none⟩)), .pointer (some ⟨bo, 1, none⟩)] w fun e w' => e = .returned (.tuple #[]) ∧ R w' := by
 refine yaS (yDB ?_)
 intro w1 A1
 refine yd6 (off := 1) (H.adv A1) h1 fun w2 H => ?_
 intro w3 A3
 refine yjX (off := 2) (x := x) (H.adv A3) (by rw [List.getElem?_set_ne (by decide)]; exact h2) fun w4 H => ?_
 exact ⟨rfl, k w4 H⟩
theorem ylB {w0 w : World} {bc bo : Nat} {F A : Bool} {E : Int} {g m : ByteArray} {cs : List Value} {R : World → Prop} (H : ChSt w0 w bc bo F A E cs) (h1 : cs[9]? = some (.string g)) (h2 : cs[10]? = some (.string m)) (k : ∀ w', ChSt w0 w' bc bo ((F || !ycA g) || !ycA m) A E ((cs.set 9 (.string es)).set 10 (.string es)) → R w') :
  Calls pP 144 #[.iface 204 (.pointer (some ⟨bc, 0, none⟩)), .pointer (some ⟨bo, 0, none⟩)] w fun e w' => e = .returned (.tuple #[]) ∧ R w' := by
 refine yaS (yDC ?_)
 intro w1 A1
 refine yd6 (off := 9) (H.adv A1) h1 fun w2 H => ?_
 intro w3 A3
 refine yd6 (off := 10) (x := m) (H.adv A3) (by rw [List.getElem?_set_ne (by decide)]; exact h2) fun w4 H => ?_
 exact ⟨rfl, k w4 H⟩
def ybJ : Sl := ⟨none, 0, 0⟩
def chR (o : POp) (rs : Sl) : Sl := if ha o.kind 98 then ybJ else rs
def chT (o : POp) (ts : Sl) : Sl := if ha o.kind 114 then ybJ else ts
set_option maxHeartbeats 2000000 in
theorem ymY {w0 w : World} {bc bo : Nat} {o : POp} {rs ts : Sl} {R : World → Prop} (H : ChSt w0 w bc bo false false 0 (o.cs rs ts)) (h0 : ¬ (o.kind < 0 ∨ o.kind > 12))
  (hop : ∀ w', Mod [bc, bo] w0 w' → OpAt w' o rs ts) (k : ∀ w', ChSt w0 w' bc bo (chF o) (chA o) (chE o) ((chO o).cs (chR o rs) (chT o ts)) → R w') :
  Calls pP 117 #[.iface 204 (.pointer (some ⟨bc, 0, none⟩)), .pointer (some ⟨bo, 0, none⟩)] w fun e w' => e = .returned (.tuple #[]) ∧ R w' := by
 refine yaS (yDD ?_)
 obtain ⟨kd, pt, n, off, b, g, m, gen, robin, topics⟩ := o
 obtain ⟨b1, b2, b3, b4⟩ := b
 simp only at h0
 refine yeV (b := bo) (i := 0) H.o rfl ?_
 have hk : kd = 0 ∨ kd = 1 ∨ kd = 2 ∨ kd = 3 ∨ kd = 4 ∨ kd = 5 ∨ kd = 6 ∨ kd = 7 ∨ kd = 8 ∨ kd = 9 ∨ kd = 10 ∨ kd = 11 ∨ kd = 12 := by omega
 rcases hk with rfl | rfl | rfl | rfl | rfl | rfl | rfl | rfl | rfl | rfl | rfl | rfl | rfl
 all_goals
  repeat (first
   | refine brT rfl ?_
   | refine brF rfl ?_
   | (intro w' A'; have H := H.adv A'; clear A')
   | refine yjX H rfl fun w' H => ?_
   | refine yd6 H rfl fun w' H => ?_
   | refine yoG H rfl fun w' H => ?_
   | refine yoI H rfl rfl fun w' H => ?_
   | refine ylB H rfl rfl fun w' H => ?_
   | refine ymV (b := ⟨b1, b2, b3, b4⟩) (rs := rs) H rfl rfl rfl rfl (hop _ H.m).recs (hop _ H.m).lr fun w' H => ?_
   | refine ymX (ts := ts) H rfl (hop _ H.m).topics (hop _ H.m).lt fun w' H => ?_)
  refine ⟨rfl, k _ ?_⟩
  simpa [chF, chA, chE, chO, chR, chT, ha, yFT, POp.cs, ybJ, ybM, Bool.or_comm, Bool.or_left_comm, Bool.or_assoc] using H
theorem yqM {w : World} {o : POp} {rs ts : Sl} (h : OpAt w o rs ts) :
  Calls pP 116 #[o.v rs ts] w fun e w' => e = .returned (.int .i64 (opE o)) ∧ Mod [] w w' := by
 refine yaS (yDE ?_)
 intro b1 f1
 refine yaC (fun q1 => ?_) fun q1 => ?_
 ·intro w1 A1
  exact ⟨by rw [opE, if_pos (.inl q1)], A1.mod⟩
 refine yaC (fun q2 => ?_) fun q2 => ?_
 ·intro w1 A1
  exact ⟨by rw [opE, if_pos (.inr (by omega))], A1.mod⟩
 have h0 : ¬ (o.kind < 0 ∨ o.kind > 12) := by omega
 intro b4 f4 w5 A5 c1 c4
 have hne : b4 ≠ b1 := by
  rintro rfl
  rw [c1] at c4; cases c4
 have l1 := A5.lt b1 (by simp)
 have l4 := A5.lt b4 (by simp)
 have hop : ∀ w', Mod [b4, b1] w5 w' → OpAt w' o rs ts := fun w' M => h.keep0 (A5.mod.go0 M (by simp; omega))
 refine ymY (o := o) (rs := rs) (ts := ts) ⟨c4, c1, (Mod.refl _).less (by simp), hne⟩ h0 hop fun w6 H => ?_
 have M6 : Mod [] w w6 := A5.mod.go0 H.m (by simp; omega)
 refine ⟨_, _, _, _, _, _, _, _, _, _, _, _, _, _, _, _, _, _, H.o, _, _, _, H.c, ?_⟩
 have law := yuX o h0
 refine yaB (fun q3 => ?_) fun q3 => ?_
 ·intro w7 A7 _ _
  exact ⟨by rw [law, q3]; rfl, M6.go0 A7.mod (by simpa using f1)⟩
 intro w7 A7 d1 d4
 have M7 : Mod [] w w7 := M6.go0 A7.mod (by simpa using f1)
 have hop7 := h.keep0 M7
 have hA : OpAt w7 { chO o with kind := 0 } (chR o rs) (chT o ts) := by
  refine ⟨?_, ?_, ?_, ?_⟩
  ·unfold chR chO; simp only; split
   ·exact ⟨rfl, fun i x hx => by simp [ybM] at hx⟩
   ·exact hop7.recs
  ·unfold chT chO; simp only; split
   ·exact ⟨rfl, fun i x hx => by simp at hx⟩
   ·exact hop7.topics
  ·unfold chO; simp only; split
   ·simp [ybM]
   ·exact hop7.lr
  ·unfold chO; simp only; split
   ·simp
   ·exact hop7.lt
 have h00 : OpAt w7 op0 ybJ ybJ := (yn8 w7 0).at
 refine (yvC (x := { chO o with kind := 0 }) (y := op0) hA h00).mono ?_
 rintro e w8 ⟨rfl, M8⟩
 have c8 := M8.keep0 d1
 have e8 := M8.keep0 d4
 refine ⟨_, rfl, _, _, _, _, _, _, _, _, _, _, _, _, _, _, _, _, _, _, c8, _, _, _, e8, ?_⟩
 have M9 := M7.go0 M8 (by simp)
 refine yaB (fun q4 => ?_) fun q4 => ?_
 ·exact ⟨by rw [law, q3, q4]; rfl, M9⟩
 refine yaB (fun q5 => ?_) fun q5 => ?_
 ·exact ⟨by rw [law, q3, q4, q5]; rfl, M9⟩
 ·exact ⟨by rw [law, q3, q4, q5]; rfl, M9⟩
section
set_option maxRecDepth 100000
variable {R : VWP} {w w0 : World} {m : Nat} {i0 i1 i2 i3 i4 i5 i6 i7 i8 i9 j0 j1 j2 j3 j4 j5 j6 j7 j8 j9 k0 k1 k2 k3 k4 k5 k6 k7 k8 k9 l0 l1 l2 l3 l4 l5 l6 l7 l8 l9 : Int} {s0 s1 s2 s3 s4 s5 s6 s7 s8 s9 t0 t1 t2 t3 t4 t5 t6 t7 t8 t9 : BA} {n0 n1 n2 n3 n4 n5 n6 n7 n8 n9 o0 o1 o2 o3 o4 o5 o6 o7 o8 o9 p0 p1 p2 p3 p4 p5 p6 p7 p8 p9 : Nat} {q0 q1 q2 q3 q4 q5 q6 q7 q8 q9 r0 r1 r2 r3 r4 r5 r6 r7 r8 r9 : OA} {B0 B1 B2 B3 B4 B5 B6 B7 B8 B9 : Bool} {M0 M1 M2 M3 : Option Nat} {V0 V1 V2 V3 V4 V5 : Value} {A0 A1 A2 : Addr}
theorem yDI (h :
 ∀ b1, w.heap.size ≤ b1 →
 ∀ w2, Adv [] [b1] w w2 →
 R (.agg (Z6 (some A0) (some (Addr.add A0 1)) (some (Addr.add A0 2)) (some (Addr.add A0 3)) (some (Addr.add A0 4)) (some (Addr.add A0 5)) (some (Addr.add A0 6)) (some (Addr.add A0 7)) (some (Addr.add A0 8)) (some (Addr.add A0 9)))) w2) :
 CR pP 50 #[(.pointer (some A0))] w R :=
 yaA Tryz.wide_mixed (an := []) Tryz.func50 rfl rfl (by kernel_rfl) rfl (Eq.mpr (by kernel_rfl) h)
def yoJ : LA := ⟨[0, 0, 1, 0, 1, 1], [1, 17, 18], [(1, 0, 0)], 1, [0]⟩
def yqN : List LA := [yoJ]
abbrev yDJ := dnF pP yqN (code Tryz.f49)
abbrev yGs := yaW pP yqN (code Tryz.f49)
abbrev yDK (p : List Nat) (K : List Kh) (R : VWP) := yaW pP yqN (code Tryz.f49) p K (ybI pP Tryz.f49 [] R)
def yjZ (b3 b4 b5 b6 b7 b8 b9 c0 c1 c2 : OA) (bm0 : Nat) (c3 c4 c5 c6 c7 c8 c9 d0 d1 d2 : Int) (a0 : OA) (a6 a3 : Nat) (a9 b0 b1 b2 : Int) (a1 : OA) (a7 a4 : Nat) (a2 : OA) (a8 a5 : Nat) : Int → List Value × List TB := fun d3 => ([(.pointer (some ⟨bm0, 0, none⟩)), (.agg (Z6 b3 b4 b5 b6 b7 b8 b9 c0 c1 c2)), .int .i64 d3], [⟨bm0, 37, [.int .i64 c3, .int .i64 c4, .int .i64 c5, .int .i64 c6, .int .i64 c7, .int .i64 c8, .int .i64 c9, .int .i64 d0, .int .i64 d1, .int .i64 d2, .slice a0 a6 a3, .int .i64 a9, .int .i64 b0, .int .i64 b1, .int .i64 b2, .slice a1 a7 a4, .slice a2 a8 a5], true⟩])
abbrev yAx (b3 b4 b5 b6 b7 b8 b9 c0 c1 c2 : OA) (bm0 : Nat) (c3 c4 c5 c6 c7 c8 c9 d0 d1 d2 : Int) (a0 : OA) (a6 a3 : Nat) (a9 b0 b1 b2 : Int) (a1 : OA) (a7 a4 : Nat) (a2 : OA) (a8 a5 : Nat) (I : Nat → Int → World → Prop) (m : Nat) : Kh := KG (yjZ b3 b4 b5 b6 b7 b8 b9 c0 c1 c2 bm0 c3 c4 c5 c6 c7 c8 c9 d0 d1 d2 a0 a6 a3 a9 b0 b1 b2 a1 a7 a4 a2 a8 a5) (U1 I) m
theorem yvE {I : Nat → Int → World → Prop} (m' : Nat) (h1 : m' < m) (h2 : I m' j4 w) : KS (yAx q0 q1 q2 q3 q4 q5 q6 q7 q8 q9 n0 i0 i1 i2 i3 i4 i5 i6 i7 i8 i9 r0 n1 n2 j0 j1 j2 j3 r1 n3 n4 r2 n5 n6 I m) (yjZ q0 q1 q2 q3 q4 q5 q6 q7 q8 q9 n0 i0 i1 i2 i3 i4 i5 i6 i7 i8 i9 r0 n1 n2 j0 j1 j2 j3 r1 n3 n4 r2 n5 n6 j4) w := ⟨m', h1, _, rfl, rfl, h2⟩
theorem yvF (I : Nat → Int → World → Prop) (m0 : Nat) (h0 : I m0 j4 w0)
 (hr : ∀ m d3 w, I m d3 w →
 w.heap[n0]? = some (.cells (Z0 i0 i1 i2 i3 i4 i5 i6 i7 i8 i9 r0 n1 n2 j0 j1 j2 j3 r1 n3 n4 r2 n5 n6) 37) →
 brB (decide (d3 < 10)) (
 ∃ d5, (∀ w' : World, (Instr.index 108 (.agg (Z6 q0 q1 q2 q3 q4 q5 q6 q7 q8 q9)) (.int .i64 d3)).run pP w' = .ok (.pointer d5) w') ∧
 ynK d5 fun g2 =>
 yaD .i64 w g2 fun g6 =>
 brB (decide (g6 < 0)) (
 R (.int .i64 1) w)
 (
 ynK d5 fun g3 =>
 yaD .i64 w g3 fun g7 =>
 brB (decide (g7 > 1099511627776)) (
 R (.int .i64 1) w)
 (
 KS (yAx q0 q1 q2 q3 q4 q5 q6 q7 q8 q9 n0 i0 i1 i2 i3 i4 i5 i6 i7 i8 i9 r0 n1 n2 j0 j1 j2 j3 r1 n3 n4 r2 n5 n6 I m) (yjZ q0 q1 q2 q3 q4 q5 q6 q7 q8 q9 n0 i0 i1 i2 i3 i4 i5 i6 i7 i8 i9 r0 n1 n2 j0 j1 j2 j3 r1 n3 n4 r2 n5 n6 (IntKind.wrap .i64 (d3 + 1))) w)))
 (
 Calls pP 53 #[.slice r0 n1 n2] w fun e d6 => ∃ g4 d7, e = .returned (.tuple #[.string g4, .int .i64 d7]) ∧ ∃ g8 g9 h1 h2 h3 h4 h5 h6 h7 h8 f0 f8 f4 e5 e6 e7 e8 d8 e2 e0 d9 e3 e1, d6.heap[n0]? = some (.cells (Z0 g8 g9 h1 h2 h3 h4 h5 h6 h7 h8 f0 f8 f4 e5 e6 e7 e8 d8 e2 e0 d9 e3 e1) 37) ∧
 brB (d7 != 0) (
 R (.int .i64 d7) d6)
 (
 Calls pP 54 #[(.agg (Z3 e5 e6 e7 e8 d8 e2 e0 d9 e3 e1))] d6 fun e e4 => ∃ g5 e9, e = .returned (.tuple #[.string g5, .int .i64 e9]) ∧ ∃ h9 u0 u1 u2 u3 u4 u5 u6 u7 u9 f1 f9 f5 v0 v1 v2 v3 f2 g0 f6 f3 g1 f7, e4.heap[n0]? = some (.cells (Z0 h9 u0 u1 u2 u3 u4 u5 u6 u7 u9 f1 f9 f5 v0 v1 v2 v3 f2 g0 f6 f3 g1 f7) 37) ∧
 R (.int .i64 e9) e4))) :
 yaL yoJ (yDJ 396 [0, 0, 1, 0, 1, 1]) (yDK [1, 1, 0, 1, 0] [] R) (yjZ q0 q1 q2 q3 q4 q5 q6 q7 q8 q9 n0 i0 i1 i2 i3 i4 i5 i6 i7 i8 i9 r0 n1 n2 j0 j1 j2 j3 r1 n3 n4 r2 n5 n6 j4) w0 :=
 lrule (yjZ q0 q1 q2 q3 q4 q5 q6 q7 q8 q9 n0 i0 i1 i2 i3 i4 i5 i6 i7 i8 i9 r0 n1 n2 j0 j1 j2 j3 r1 n3 n4 r2 n5 n6) (U1 I) h0 (by rintro m d3 w h; exact ⟨by kernel_rfl, by kernel_rfl, fun js => Eq.mpr (by kernel_rfl) (hr m d3 w h)⟩)
theorem yDL {a3 a2 : Nat} {a6 a5 : Nat} {a9 a8 : Nat} (h :
 ∀ b1, w.heap.size ≤ b1 →
 brB (decide (i0 < 0)) (
 ∀ w2, Adv [] [b1] w w2 →
 R (.int .i64 180) w2)
 (
 brB (decide (i0 ≥ 12)) (
 ∀ w3, Adv [] [b1] w w3 →
 R (.int .i64 180) w3)
 (
 ∀ w4, Adv [] [b1] w w4 → w4.heap[b1]? = some (.cells (Z0 i0 i1 i2 i3 i4 i5 i6 i7 i8 i9 q0 a3 a2 j0 j1 j2 j3 q1 a6 a5 q2 a9 a8) 37) →
 Calls pP 50 #[(.pointer (some ⟨b1, 0, none⟩))] w4 fun e w5 => ∃ p6 p7 p8 p9 d3 d4 d5 d6 d7 d8, e = .returned (.agg (Z6 p6 p7 p8 p9 d3 d4 d5 d6 d7 d8)) ∧ ∃ d9 e0 e1 e2 e3 e4 e5 e6 e7 e8 c4 d0 c7 e9 f0 f1 f2 c5 d1 c8 c6 d2 c9, w5.heap[b1]? = some (.cells (Z0 d9 e0 e1 e2 e3 e4 e5 e6 e7 e8 c4 d0 c7 e9 f0 f1 f2 c5 d1 c8 c6 d2 c9) 37) ∧
 yaL yoJ (yDJ 396 [0, 0, 1, 0, 1, 1]) (yDK [1, 1, 0, 1, 0] [] R) (yjZ p6 p7 p8 p9 d3 d4 d5 d6 d7 d8 b1 d9 e0 e1 e2 e3 e4 e5 e6 e7 e8 c4 d0 c7 e9 f0 f1 f2 c5 d1 c8 c6 d2 c9 0) w5))) :
 CR pP 49 #[(.agg (Z0 i0 i1 i2 i3 i4 i5 i6 i7 i8 i9 q0 a3 a2 j0 j1 j2 j3 q1 a6 a5 q2 a9 a8))] w R :=
 yaA Tryz.wide_mixed (an := yqN) Tryz.func49 rfl rfl (by kernel_rfl) rfl (Eq.mpr (by kernel_rfl) h)
def yoK : LA := ⟨[0, 0, 1, 0, 1, 1, 1, 1, 1], [5, 23, 24, 25], [(5, 0, 0)], 1, [0]⟩
def yqO : List LA := [yoK]
abbrev yDM := dnF pP yqO (code Tryz.f53)
abbrev yGt := yaW pP yqO (code Tryz.f53)
abbrev yDN (p : List Nat) (K : List Kh) (R : VWP) := yaW pP yqO (code Tryz.f53) p K (ybI pP Tryz.f53 [] R)
def yj0 (a4 : OA) (a6 a5 : Nat) (a7 : Int) (bm0 : Nat) : Int × (Option Addr) × (Option Addr) × Nat × Nat → List Value × List TB := fun (a8, a3, a0, a2, a1) => ([(.pointer (some ⟨bm0, 0, none⟩)), .slice a4 a6 a5, .int .i64 a7, .int .i64 a8], [⟨bm0, 106, [.pointer a3, .slice a0 a2 a1], true⟩])
abbrev yAy (a0 : OA) (a2 a1 : Nat) (a3 : Int) (bm0 : Nat) (I : Nat → Int → Option Addr → Option Addr → Nat → Nat → World → Prop) (m : Nat) : Kh := KG (yj0 a0 a2 a1 a3 bm0) (U5 I) m
theorem yvG {I : Nat → Int → Option Addr → Option Addr → Nat → Nat → World → Prop} (m' : Nat) (h1 : m' < m) (h2 : I m' i1 q1 q2 n3 n4 w) : KS (yAy q0 n0 n1 i0 n2 I m) (yj0 q0 n0 n1 i0 n2 (i1, q1, q2, n3, n4)) w := ⟨m', h1, _, rfl, rfl, h2⟩
theorem yvH (I : Nat → Int → Option Addr → Option Addr → Nat → Nat → World → Prop) (m0 : Nat) (h0 : I m0 i1 q1 q2 n3 n4 w0)
 (hr : ∀ m a6 a5 a2 a4 a3 w, I m a6 a5 a2 a4 a3 w →
 w.heap[n2]? = some (.cells #[.pointer a5, .slice a2 a4 a3] 106) →
 brB (decide (a6 < i0)) (
 ixA q0 n0 a6 16 fun a0 =>
 yaD .i64 w a0 fun h4 => yaD .i64 w (Addr.add a0 1) fun c4 => yaD .i64 w (Addr.add a0 2) fun h5 => yaY w (Addr.add a0 3) fun g6 => yaD .i64 w (Addr.add a0 4) fun h6 => yaD .i64 w (Addr.add a0 5) fun h7 => yaD .i64 w (Addr.add a0 6) fun h8 => yaD .i64 w (Addr.add a0 7) fun h9 => yaD .i64 w (Addr.add a0 8) fun u0 => yaD .i64 w (Addr.add a0 9) fun u1 => yaN w (Addr.add a0 10) fun e0 f4 e7 => yaY w (Addr.add a0 11) fun g7 => yaY w (Addr.add a0 12) fun g8 => yaD .i64 w (Addr.add a0 13) fun u2 => ya1 w (Addr.add a0 14) fun h2 => yaN w (Addr.add a0 15) fun e1 f5 e8 =>
 ∀ a1, w.heap.size ≤ a1 →
 ∀ b5, Adv [] [a1] w b5 → b5.heap[n2]? = some (.cells #[.pointer a5, .slice a2 a4 a3] 106) →
 Calls pP 78 #[(.agg (Z1 h5 g6 h6 h7 h8 h9 u0 u1 e0 f4 e7 g7 g8 u2 h2 e1 f5 e8))] b5 fun e c2 => ∃ d3 u3, e = .returned (.tuple #[.string d3, .int .i64 u3]) ∧ yaZ [n2] [(a1, 50)] [a1] b5 c2 ∧ ∃ d1 c5 c9 c7, c2.heap[n2]? = some (.cells #[.pointer d1, .slice c5 c9 c7] 106) ∧
 ∀ b6, Adv [] [] c2 b6 → b6.heap[n2]? = some (.cells #[.pointer d1, .slice c5 c9 c7] 106) →
 Calls pP 52 #[(.int .u64 (IntKind.wrap .u64 h4))] b6 fun e b7 => ∃ d4, e = .returned (.string d4) ∧ yaZ [n2] [(a1, 50)] [a1] b6 b7 ∧ ∃ g1 e2 f6 e9, b7.heap[n2]? = some (.cells #[.pointer g1, .slice e2 f6 e9] 106) ∧ (((.int .i64 c4) : Value) = (.int .i64 c4)) ∧
 Calls pP 52 #[(.int .u64 (IntKind.wrap .u64 c4))] b7 fun e b8 => ∃ d5, e = .returned (.string d5) ∧ yaZ [n2] [(a1, 50)] [a1] b7 b8 ∧ ∃ g2 e3 f7 f0, b8.heap[n2]? = some (.cells #[.pointer g2, .slice e3 f7 f0] 106) ∧
 yx0 d4 d5 fun g9 =>
 Calls pP 56 #[.string d3] b8 fun e b9 => ∃ d6, e = .returned (.string d6) ∧ yaZ [n2] [(a1, 50)] [a1] b8 b9 ∧ ∃ g3 e4 f8 f1, b9.heap[n2]? = some (.cells #[.pointer g3, .slice e4 f8 f1] 106) ∧
 yx0 g9 d6 fun h1 =>
 Calls pP 57 #[.string h1] b9 fun e c0 => ∃ d7, e = .returned (.string d7) ∧ yaZ [n2] [(a1, 50)] [a1] b9 c0 ∧ ∃ g4 e5 f9 f2, c0.heap[n2]? = some (.cells #[.pointer g4, .slice e5 f9 f2] 106) ∧
 Calls pP 51 #[(.pointer (some ⟨n2, 0, none⟩)), .string d7] c0 fun e c3 => ∃ u4 h3, e = .returned (.tuple #[.int .i64 u4, h3]) ∧ yaZ [n2] [(a1, 50)] [a1] c0 c3 ∧ ∃ d2 c6 d0 c8, c3.heap[n2]? = some (.cells #[.pointer d2, .slice c6 d0 c8] 106) ∧
 KS (yAy q0 n0 n1 i0 n2 I m) (yj0 q0 n0 n1 i0 n2 ((IntKind.wrap .i64 (a6 + 1)), d2, c6, d0, c8)) c3)
 (
 Calls pP 55 #[(.pointer (some ⟨n2, 0, none⟩))] w fun e d9 => ∃ d8, e = .returned (.string d8) ∧ ∃ g5 e6 g0 f3, d9.heap[n2]? = some (.cells #[.pointer g5, .slice e6 g0 f3] 106) ∧
 R (.tuple #[.string d8, .int .i64 0]) d9)) :
 yaL yoK (yDM 393 [0, 0, 1, 0, 1, 1, 1, 1, 1]) (yDN [1, 1, 1, 1, 1, 0, 1, 0] [] R) (yj0 q0 n0 n1 i0 n2 (i1, q1, q2, n3, n4)) w0 :=
 lrule (yj0 q0 n0 n1 i0 n2) (U5 I) h0 (by rintro m ⟨a6, a5, a2, a4, a3⟩ w h; exact ⟨by kernel_rfl, by kernel_rfl, fun js => Eq.mpr (by kernel_rfl) (hr m a6 a5 a2 a4 a3 w h)⟩)
theorem yDO (h :
 brB (decide ((n0 : Int) > 4096)) (
 R (.tuple #[(.string (⟨#[]⟩ : BA)), .int .i64 2]) w)
 (
 Calls pP 77 #[.slice q0 n0 n1] w fun e w1 => ∃ x2, e = .returned (.int .i64 x2) ∧
 brB (x2 != 0) (
 R (.tuple #[(.string (⟨#[]⟩ : BA)), .int .i64 x2]) w1)
 (
 ∀ b3, w1.heap.size ≤ b3 →
 ∀ w4, Adv [] [b3] w1 w4 →
 Calls pP 52 #[(.int .u64 (IntKind.wrap .u64 (n0 : Int)))] w4 fun e w5 => ∃ s6, e = .returned (.string s6) ∧ yaH [b3] w4 w5 ∧
 ∀ w7, Adv [] [] w5 w7 → w7.heap[b3]? = some (.cells #[.pointer none, .slice none 0 0] 106) →
 Calls pP 51 #[(.pointer (some ⟨b3, 0, none⟩)), .string s6] w7 fun e w8 => ∃ x9 a7, e = .returned (.tuple #[.int .i64 x9, a7]) ∧ ∃ a6 a3 a5 a4, w8.heap[b3]? = some (.cells #[.pointer a6, .slice a3 a5 a4] 106) ∧
 yaL yoK (yDM 393 [0, 0, 1, 0, 1, 1, 1, 1, 1]) (yDN [1, 1, 1, 1, 1, 0, 1, 0] [] R) (yj0 q0 n0 n1 (n0 : Int) b3 (0, a6, a3, a5, a4)) w8))) :
 CR pP 53 #[.slice q0 n0 n1] w R :=
 yaA Tryz.wide_mixed (an := yqO) Tryz.func53 rfl rfl (by kernel_rfl) rfl (Eq.mpr (by kernel_rfl) h)
def yoL : LA := ⟨[0, 0, 1, 0, 1, 1, 1], [10, 11, 12], [], 1, [0]⟩
def yqP : List LA := [yoL]
abbrev yDP := dnF pP yqP (code Tryz.f77)
abbrev yGu := yaW pP yqP (code Tryz.f77)
abbrev yDQ (p : List Nat) (K : List Kh) (R : VWP) := yaW pP yqP (code Tryz.f77) p K (ybI pP Tryz.f77 [] R)
def yj1 (a1 : OA) (a3 a2 : Nat) (a4 : Int) (bm0 : Nat) : Int × Value → List Value × List TB := fun (a5, a0) => ([.slice a1 a3 a2, .int .i64 a4, .int .i64 a5], [⟨bm0, 29, [a0], true⟩])
abbrev yAz (a0 : OA) (a2 a1 : Nat) (a3 : Int) (bm0 : Nat) (I : Nat → Int → VWP) (m : Nat) : Kh := KG (yj1 a0 a2 a1 a3 bm0) (U2 I) m
theorem yvI {I : Nat → Int → VWP} (m' : Nat) (h1 : m' < m) (h2 : I m' i1 V0 w) : KS (yAz q0 n0 n1 i0 n2 I m) (yj1 q0 n0 n1 i0 n2 (i1, V0)) w := ⟨m', h1, _, rfl, rfl, h2⟩
theorem yvJ {a2 : OA} (I : Nat → Int → VWP) (m0 : Nat) (h0 : I m0 i1 V0 w0)
 (hr : ∀ m a1 a0 w, I m a1 a0 w →
 w.heap[n2]? = some (.cells #[a0] 29) →
 brB (decide (a1 < i0)) (
 ixA a2 n0 a1 16 fun q6 =>
 yaD .i64 w q6 fun x7 => yaD .i64 w (Addr.add q6 1) fun x8 => yaD .i64 w (Addr.add q6 2) fun x9 => yaY w (Addr.add q6 3) fun b9 => yaD .i64 w (Addr.add q6 4) fun c3 => yaD .i64 w (Addr.add q6 5) fun c4 => yaD .i64 w (Addr.add q6 6) fun c5 => yaD .i64 w (Addr.add q6 7) fun c6 => yaD .i64 w (Addr.add q6 8) fun c7 => yaD .i64 w (Addr.add q6 9) fun c8 => yaN w (Addr.add q6 10) fun b3 b7 b5 => yaY w (Addr.add q6 11) fun c0 => yaY w (Addr.add q6 12) fun c1 => yaD .i64 w (Addr.add q6 13) fun c9 => ya1 w (Addr.add q6 14) fun c2 => yaN w (Addr.add q6 15) fun b4 b8 b6 =>
 ∀ a7, w.heap.size ≤ a7 →
 ∀ a8, Adv [] [a7] w a8 → a8.heap[n2]? = some (.cells #[a0] 29) →
 Calls pP 116 #[(.agg (Z1 x9 b9 c3 c4 c5 c6 c7 c8 b3 b7 b5 c0 c1 c9 c2 b4 b8 b6))] a8 fun e a9 => ∃ b1, e = .returned (.int .i64 b1) ∧ yaZ [n2] [(a7, 50)] [a7] a8 a9 ∧ ∃ b2, a9.heap[n2]? = some (.cells #[b2] 29) ∧
 brB (b1 != 0) (
 R (.int .i64 b1) a9)
 (
 KS (yAz a2 n0 n1 i0 n2 I m) (yj1 a2 n0 n1 i0 n2 ((IntKind.wrap .i64 (a1 + 1)), b2)) a9))
 (
 R (.int .i64 0) w)) :
 yaL yoL (yDP 395 [0, 0, 1, 0, 1, 1, 1]) (yDQ [1, 1, 1, 0, 1, 0] [] R) (yj1 a2 n0 n1 i0 n2 (i1, V0)) w0 :=
 lrule (yj1 a2 n0 n1 i0 n2) (U2 I) h0 (by rintro m ⟨a1, a0⟩ w h; exact ⟨by kernel_rfl, by kernel_rfl, fun js => Eq.mpr (by kernel_rfl) (hr m a1 a0 w h)⟩)
theorem yDR (h :
 ∀ b1, w.heap.size ≤ b1 →
 ∀ w2, Adv [] [b1] w w2 → w2.heap[b1]? = some (.cells #[(.func (.func 113) #[] #[])] 29) →
 Calls pP 114 #[.slice q0 n0 n1, (.func (.func 115) #[] #[(.pointer (some ⟨b1, 0, none⟩))])] w2 fun e w3 => ∃ t4, e = .returned (.bool t4) ∧ ∃ v5, w3.heap[b1]? = some (.cells #[v5] 29) ∧
 brB t4 (
 R (.int .i64 1) w3)
 (
 yaL yoL (yDP 395 [0, 0, 1, 0, 1, 1, 1]) (yDQ [1, 1, 1, 0, 1, 0] [] R) (yj1 q0 n0 n1 (n0 : Int) b1 (0, v5)) w3)) :
 CR pP 77 #[.slice q0 n0 n1] w R :=
 yaA Tryz.wide_mixed (an := yqP) Tryz.func77 rfl rfl (by kernel_rfl) rfl (Eq.mpr (by kernel_rfl) h)
theorem yDS (h :
 brB (decide (i0 < 1)) (
 R (.bool true) w)
 (
 R (.bool (decide (i0 > 1099511627776))) w)) :
 CR pP 113 #[.int .i64 i0] w R :=
 yaA Tryz.wide_mixed (an := []) Tryz.func113 rfl rfl (by kernel_rfl) rfl (Eq.mpr (by kernel_rfl) h)
theorem yDT (h :
 Calls pP 142 #[.slice q0 n0 n1, (.func (.func 115) #[] #[(.pointer (some A0))])] w fun e w1 => ∃ x2, e = .returned (.int .i64 x2) ∧
 R (.bool (decide (x2 ≥ 0))) w1) :
 CR pP 114 #[.slice q0 n0 n1, (.func (.func 115) #[] #[(.pointer (some A0))])] w R :=
 yaA Tryz.wide_mixed (an := []) Tryz.func114 rfl rfl (by kernel_rfl) rfl (Eq.mpr (by kernel_rfl) h)
def yoM : LA := ⟨[0, 0, 1, 0, 1], [0, 1, 7, 8], [], 0, []⟩
def yqQ : List LA := [yoM]
abbrev yDU := dnF pP yqQ (code Tryz.f142)
abbrev yGv := yaW pP yqQ (code Tryz.f142)
abbrev yDV (p : List Nat) (K : List Kh) (R : VWP) := yaW pP yqQ (code Tryz.f142) p K (ybI pP Tryz.f142 [] R)
def yj2 (a1 : OA) (a3 a2 : Nat) (a0 : Addr) (a4 : Int) : Int → List Value × List TB := fun a5 => ([.slice a1 a3 a2, (.func (.func 115) #[] #[(.pointer (some a0))]), .int .i64 a4, .int .i64 a5], [])
abbrev yAA (a1 : OA) (a3 a2 : Nat) (a0 : Addr) (a4 : Int) (I : Nat → Int → World → Prop) (m : Nat) : Kh := KG (yj2 a1 a3 a2 a0 a4) (U1 I) m
theorem yvK {I : Nat → Int → World → Prop} (m' : Nat) (h1 : m' < m) (h2 : I m' i1 w) : KS (yAA q0 n0 n1 A0 i0 I m) (yj2 q0 n0 n1 A0 i0 i1) w := ⟨m', h1, _, rfl, rfl, h2⟩
theorem yvL {a2 : OA} (I : Nat → Int → World → Prop) (m0 : Nat) (h0 : I m0 i1 w0)
 (hr : ∀ m a1 w, I m a1 w →
 brB (decide (a1 < i0)) (
 ixA a2 n0 a1 16 fun q1 =>
 yaD .i64 w q1 fun x2 => yaD .i64 w (Addr.add q1 1) fun x3 => yaD .i64 w (Addr.add q1 2) fun x4 => yaY w (Addr.add q1 3) fun s5 => yaD .i64 w (Addr.add q1 4) fun x6 => yaD .i64 w (Addr.add q1 5) fun x7 => yaD .i64 w (Addr.add q1 6) fun x8 => yaD .i64 w (Addr.add q1 7) fun x9 => yaD .i64 w (Addr.add q1 8) fun b8 => yaD .i64 w (Addr.add q1 9) fun b9 => yaN w (Addr.add q1 10) fun a9 b3 b1 => yaY w (Addr.add q1 11) fun b5 => yaY w (Addr.add q1 12) fun b6 => yaD .i64 w (Addr.add q1 13) fun c0 => ya1 w (Addr.add q1 14) fun b7 => yaN w (Addr.add q1 15) fun b0 b4 b2 =>
 Calls pP 115 #[(.agg (Z5 x2 x3 x4 s5 x6 x7 x8 x9 b8 b9 a9 b3 b1 b5 b6 c0 b7 b0 b4 b2)), (.pointer (some A0))] w fun e a8 => ∃ a7, e = .returned (.bool a7) ∧
 brB a7 (
 R (.int .i64 a1) a8)
 (
 KS (yAA a2 n0 n1 A0 i0 I m) (yj2 a2 n0 n1 A0 i0 (IntKind.wrap .i64 (a1 + 1))) a8))
 (
 R (.int .i64 (-1)) w)) :
 yaL yoM (yDU 397 [0, 0, 1, 0, 1]) (yDV [1, 0, 1, 0] [] R) (yj2 a2 n0 n1 A0 i0 i1) w0 :=
 lrule (yj2 a2 n0 n1 A0 i0) (U1 I) h0 (by rintro m a1 w h; exact ⟨by kernel_rfl, by kernel_rfl, fun js => Eq.mpr (by kernel_rfl) (hr m a1 w h)⟩)
theorem yDW (h :
 yaL yoM (yDU 397 [0, 0, 1, 0, 1]) (yDV [1, 0, 1, 0] [] R) (yj2 q0 n0 n1 A0 (n0 : Int) 0) w) :
 CR pP 142 #[.slice q0 n0 n1, (.func (.func 115) #[] #[(.pointer (some A0))])] w R :=
 yaA Tryz.wide_mixed (an := yqQ) Tryz.func142 rfl rfl (by kernel_rfl) rfl (Eq.mpr (by kernel_rfl) h)
theorem yDX (h :
 ∀ b1, w.heap.size ≤ b1 →
 ∀ w2, Adv [] [b1] w w2 →
 al w2 (.cells #[.int .i64 i0, .int .i64 i1, .int .i64 i2, .int .i64 i3, .int .i64 i4, .int .i64 i5, .int .i64 i6, .int .i64 i7, .int .i64 i8, .int .i64 i9] 3) fun b3 w4 =>
 R (.slice (some ⟨b3, 0, none⟩) 10 10) w4) :
 CR pP 37 #[(.agg (Z0 i0 i1 i2 i3 i4 i5 i6 i7 i8 i9 q0 n0 n1 j0 j1 j2 j3 q1 n2 n3 q2 n4 n5))] w R :=
 yaA Tryz.wide_mixed (an := []) Tryz.func37 rfl rfl (by kernel_rfl) rfl (Eq.mpr (by kernel_rfl) h)
def yoN : LA := ⟨[0, 0, 1, 0, 1, 1], [2, 3, 5, 6, 7], [(2, 0, 0), (3, 1, 0)], 2, []⟩
def yqR : List LA := [yoN]
abbrev yDY := dnF pP yqR (code Tryz.f14)
abbrev yGw := yaW pP yqR (code Tryz.f14)
abbrev yDZ (p : List Nat) (K : List Kh) (R : VWP) := yaW pP yqR (code Tryz.f14) p K (ybI pP Tryz.f14 [] R)
def yj3 (e6 : OA) (f0 e8 : Nat) (e7 : OA) (f1 e9 bm0 : Nat) (c6 c7 c8 c9 d0 d1 d2 d3 d4 d5 : Int) (a0 : OA) (b2 a6 : Nat) (b8 b9 c0 c1 : Int) (a1 : OA) (b3 a7 : Nat) (a2 : OA) (b4 a8 bm1 : Nat) (d6 d7 d8 d9 e0 e1 e2 e3 e4 e5 : Int) (a3 : OA) (b5 a9 : Nat) (c2 c3 c4 c5 : Int) (a4 : OA) (b6 b0 : Nat) (a5 : OA) (b7 b1 : Nat) : Int → List Value × List TB := fun f2 => ([(.pointer (some ⟨bm0, 0, none⟩)), (.pointer (some ⟨bm1, 0, none⟩)), .slice e6 f0 e8, .slice e7 f1 e9, .int .i64 f2], [⟨bm0, 37, [.int .i64 c6, .int .i64 c7, .int .i64 c8, .int .i64 c9, .int .i64 d0, .int .i64 d1, .int .i64 d2, .int .i64 d3, .int .i64 d4, .int .i64 d5, .slice a0 b2 a6, .int .i64 b8, .int .i64 b9, .int .i64 c0, .int .i64 c1, .slice a1 b3 a7, .slice a2 b4 a8], false⟩, ⟨bm1, 37, [.int .i64 d6, .int .i64 d7, .int .i64 d8, .int .i64 d9, .int .i64 e0, .int .i64 e1, .int .i64 e2, .int .i64 e3, .int .i64 e4, .int .i64 e5, .slice a3 b5 a9, .int .i64 c2, .int .i64 c3, .int .i64 c4, .int .i64 c5, .slice a4 b6 b0, .slice a5 b7 b1], false⟩])
abbrev yAB (e6 : OA) (f0 e8 : Nat) (e7 : OA) (f1 e9 bm0 : Nat) (c6 c7 c8 c9 d0 d1 d2 d3 d4 d5 : Int) (a0 : OA) (b2 a6 : Nat) (b8 b9 c0 c1 : Int) (a1 : OA) (b3 a7 : Nat) (a2 : OA) (b4 a8 bm1 : Nat) (d6 d7 d8 d9 e0 e1 e2 e3 e4 e5 : Int) (a3 : OA) (b5 a9 : Nat) (c2 c3 c4 c5 : Int) (a4 : OA) (b6 b0 : Nat) (a5 : OA) (b7 b1 : Nat) (I : Nat → Int → World → Prop) (m : Nat) : Kh := KG (yj3 e6 f0 e8 e7 f1 e9 bm0 c6 c7 c8 c9 d0 d1 d2 d3 d4 d5 a0 b2 a6 b8 b9 c0 c1 a1 b3 a7 a2 b4 a8 bm1 d6 d7 d8 d9 e0 e1 e2 e3 e4 e5 a3 b5 a9 c2 c3 c4 c5 a4 b6 b0 a5 b7 b1) (U1 I) m
theorem yvM {I : Nat → Int → World → Prop} (m' : Nat) (h1 : m' < m) (h2 : I m' k8 w) : KS (yAB q0 n0 n1 q1 n2 n3 n4 i0 i1 i2 i3 i4 i5 i6 i7 i8 i9 q2 n5 n6 j0 j1 j2 j3 q3 n7 n8 q4 n9 o0 o1 j4 j5 j6 j7 j8 j9 k0 k1 k2 k3 q5 o2 o3 k4 k5 k6 k7 q6 o4 o5 q7 o6 o7 I m) (yj3 q0 n0 n1 q1 n2 n3 n4 i0 i1 i2 i3 i4 i5 i6 i7 i8 i9 q2 n5 n6 j0 j1 j2 j3 q3 n7 n8 q4 n9 o0 o1 j4 j5 j6 j7 j8 j9 k0 k1 k2 k3 q5 o2 o3 k4 k5 k6 k7 q6 o4 o5 q7 o6 o7 k8) w := ⟨m', h1, _, rfl, rfl, h2⟩
theorem yvN (I : Nat → Int → World → Prop) (m0 : Nat) (h0 : I m0 k8 w0)
 (hr : ∀ m e6 w, I m e6 w →
 brB (decide (e6 < (n0 : Int))) (
 ixA q0 n0 e6 1 fun g0 =>
 yaD .i64 w g0 fun g2 =>
 ixA q1 n2 e6 1 fun g1 =>
 yaD .i64 w g1 fun g3 =>
 brB (g2 != g3) (
 ∀ f7, Adv [] [] w f7 →
 R (.bool false) f7)
 (
 ∀ f8, Adv [] [] w f8 →
 KS (yAB q0 n0 n1 q1 n2 n3 n4 i0 i1 i2 i3 i4 i5 i6 i7 i8 i9 q2 n5 n6 j0 j1 j2 j3 q3 n7 n8 q4 n9 o0 o1 j4 j5 j6 j7 j8 j9 k0 k1 k2 k3 q5 o2 o3 k4 k5 k6 k7 q6 o4 o5 q7 o6 o7 I m) (yj3 q0 n0 n1 q1 n2 n3 n4 i0 i1 i2 i3 i4 i5 i6 i7 i8 i9 q2 n5 n6 j0 j1 j2 j3 q3 n7 n8 q4 n9 o0 o1 j4 j5 j6 j7 j8 j9 k0 k1 k2 k3 q5 o2 o3 k4 k5 k6 k7 q6 o4 o5 q7 o6 o7 (IntKind.wrap .i64 (e6 + 1))) f8))
 (
 Calls pP 38 #[.slice q2 n5 n6, .slice q5 o2 o3] w fun e f3 => ∃ f5, e = .returned (.bool f5) ∧ yaH [n4, o1] w f3 ∧
 brB f5 (
 Calls pP 39 #[(.agg (Z3 j0 j1 j2 j3 q3 n7 n8 q4 n9 o0)), (.agg (Z3 k4 k5 k6 k7 q6 o4 o5 q7 o6 o7))] f3 fun e f9 => ∃ f6, e = .returned (.bool f6) ∧ yaH [n4, o1] f3 f9 ∧
 R (.bool f6) f9)
 (
 R (.bool false) f3))) :
 yaL yoN (yDY 396 [0, 0, 1, 0, 1, 1]) (yDZ [1, 1, 0, 1, 0] [] R) (yj3 q0 n0 n1 q1 n2 n3 n4 i0 i1 i2 i3 i4 i5 i6 i7 i8 i9 q2 n5 n6 j0 j1 j2 j3 q3 n7 n8 q4 n9 o0 o1 j4 j5 j6 j7 j8 j9 k0 k1 k2 k3 q5 o2 o3 k4 k5 k6 k7 q6 o4 o5 q7 o6 o7 k8) w0 :=
 lrule (yj3 q0 n0 n1 q1 n2 n3 n4 i0 i1 i2 i3 i4 i5 i6 i7 i8 i9 q2 n5 n6 j0 j1 j2 j3 q3 n7 n8 q4 n9 o0 o1 j4 j5 j6 j7 j8 j9 k0 k1 k2 k3 q5 o2 o3 k4 k5 k6 k7 q6 o4 o5 q7 o6 o7) (U1 I) h0 (by rintro m e6 w h; exact ⟨by kernel_rfl, by kernel_rfl, fun js => Eq.mpr (by kernel_rfl) (hr m e6 w h)⟩)
theorem yD0 {b9 b8 : Nat} {c2 c1 : Nat} {c5 c4 : Nat} {a2 a1 : Nat} {a6 a4 : Nat} {b0 a8 : Nat} (h :
 ∀ b1, w.heap.size ≤ b1 →
 ∀ b2, w.heap.size ≤ b2 →
 ∀ w3, Adv [] [b2, b1] w w3 →
 Calls pP 37 #[(.agg (Z0 i0 i1 i2 i3 i4 i5 i6 i7 i8 i9 q0 b9 b8 j0 j1 j2 j3 q1 c2 c1 q2 c5 c4))] w3 fun e w4 => ∃ a5 n6 c7, e = .returned (.slice a5 n6 c7) ∧ yaH [b1, b2] w3 w4 ∧ (((.agg (Z0 j4 j5 j6 j7 j8 j9 k0 k1 k2 k3 q3 a2 a1 k4 k5 k6 k7 q4 a6 a4 q5 b0 a8)) : Value) = (.agg (Z0 j4 j5 j6 j7 j8 j9 k0 k1 k2 k3 q3 a2 a1 k4 k5 k6 k7 q4 a6 a4 q5 b0 a8))) ∧
 Calls pP 37 #[(.agg (Z0 j4 j5 j6 j7 j8 j9 k0 k1 k2 k3 q3 a2 a1 k4 k5 k6 k7 q4 a6 a4 q5 b0 a8))] w4 fun e w8 => ∃ a9 f2 f1, e = .returned (.slice a9 f2 f1) ∧ yaH [b1, b2] w4 w8 ∧
 yaL yoN (yDY 396 [0, 0, 1, 0, 1, 1]) (yDZ [1, 1, 0, 1, 0] [] R) (yj3 a5 n6 c7 a9 f2 f1 b1 i0 i1 i2 i3 i4 i5 i6 i7 i8 i9 q0 b9 b8 j0 j1 j2 j3 q1 c2 c1 q2 c5 c4 b2 j4 j5 j6 j7 j8 j9 k0 k1 k2 k3 q3 a2 a1 k4 k5 k6 k7 q4 a6 a4 q5 b0 a8 0) w8) :
 CR pP 14 #[(.agg (Z0 i0 i1 i2 i3 i4 i5 i6 i7 i8 i9 q0 b9 b8 j0 j1 j2 j3 q1 c2 c1 q2 c5 c4)), (.agg (Z0 j4 j5 j6 j7 j8 j9 k0 k1 k2 k3 q3 a2 a1 k4 k5 k6 k7 q4 a6 a4 q5 b0 a8))] w R :=
 yaA Tryz.wide_mixed (an := yqR) Tryz.func14 rfl rfl (by kernel_rfl) rfl (Eq.mpr (by kernel_rfl) h)
def yoO : LA := ⟨[0, 0, 1, 0, 1, 1], [0, 1, 5], [], 0, []⟩
def yqS : List LA := [yoO]
abbrev yD1 := dnF pP yqS (code Tryz.f38)
abbrev yGx := yaW pP yqS (code Tryz.f38)
abbrev yD2 (p : List Nat) (K : List Kh) (R : VWP) := yaW pP yqS (code Tryz.f38) p K (ybI pP Tryz.f38 [] R)
def yj4 (a0 : OA) (a4 a2 : Nat) (a1 : OA) (a5 a3 : Nat) : Int → List Value × List TB := fun a6 => ([.slice a0 a4 a2, .slice a1 a5 a3, .int .i64 a6], [])
abbrev yAC (a0 : OA) (a4 a2 : Nat) (a1 : OA) (a5 a3 : Nat) (I : Nat → Int → World → Prop) (m : Nat) : Kh := KG (yj4 a0 a4 a2 a1 a5 a3) (U1 I) m
theorem yvO {I : Nat → Int → World → Prop} (m' : Nat) (h1 : m' < m) (h2 : I m' i0 w) : KS (yAC q0 n0 n1 q1 n2 n3 I m) (yj4 q0 n0 n1 q1 n2 n3 i0) w := ⟨m', h1, _, rfl, rfl, h2⟩
theorem yvP {a4 : OA} {a5 : OA} (I : Nat → Int → World → Prop) (m0 : Nat) (h0 : I m0 i0 w0)
 (hr : ∀ m a2 w, I m a2 w →
 brB (decide (a2 < (n0 : Int))) (
 ixA a4 n0 a2 16 fun q1 =>
 ∀ w2, Adv [] [] w w2 →
 yaD .i64 w2 q1 fun x3 =>
 ixA a5 n2 a2 16 fun q4 =>
 yaD .i64 w2 q4 fun x5 =>
 brB (x3 != x5) (
 R (.bool false) w2)
 (
 ixA a4 n0 a2 16 fun q6 =>
 yaD .i64 w2 (Addr.add q6 1) fun x7 =>
 ixA a5 n2 a2 16 fun q8 =>
 yaD .i64 w2 (Addr.add q8 1) fun x9 =>
 brB (x7 != x9) (
 R (.bool false) w2)
 (
 ixA a4 n0 a2 16 fun a0 =>
 yaD .i64 w2 (Addr.add a0 2) fun d2 => yaY w2 (Addr.add (Addr.add a0 2) 1) fun c4 => yaD .i64 w2 (Addr.add (Addr.add a0 2) 2) fun d3 => yaD .i64 w2 (Addr.add (Addr.add a0 2) 3) fun d4 => yaD .i64 w2 (Addr.add (Addr.add a0 2) 4) fun d5 => yaD .i64 w2 (Addr.add (Addr.add a0 2) 5) fun d6 => yaD .i64 w2 (Addr.add (Addr.add a0 2) 6) fun d7 => yaD .i64 w2 (Addr.add (Addr.add a0 2) 7) fun d8 => yaN w2 (Addr.add (Addr.add a0 2) 8) fun b2 c0 b6 => yaY w2 (Addr.add (Addr.add a0 2) 9) fun c5 => yaY w2 (Addr.add (Addr.add a0 2) 10) fun c6 => yaD .i64 w2 (Addr.add (Addr.add a0 2) 11) fun d9 => ya1 w2 (Addr.add (Addr.add a0 2) 12) fun d0 => yaN w2 (Addr.add (Addr.add a0 2) 13) fun b3 c1 b7 =>
 ixA a5 n2 a2 16 fun a1 =>
 yaD .i64 w2 (Addr.add a1 2) fun e0 => yaY w2 (Addr.add (Addr.add a1 2) 1) fun c7 => yaD .i64 w2 (Addr.add (Addr.add a1 2) 2) fun e1 => yaD .i64 w2 (Addr.add (Addr.add a1 2) 3) fun e2 => yaD .i64 w2 (Addr.add (Addr.add a1 2) 4) fun e3 => yaD .i64 w2 (Addr.add (Addr.add a1 2) 5) fun e4 => yaD .i64 w2 (Addr.add (Addr.add a1 2) 6) fun e5 => yaD .i64 w2 (Addr.add (Addr.add a1 2) 7) fun e6 => yaN w2 (Addr.add (Addr.add a1 2) 8) fun b4 c2 b8 => yaY w2 (Addr.add (Addr.add a1 2) 9) fun c8 => yaY w2 (Addr.add (Addr.add a1 2) 10) fun c9 => yaD .i64 w2 (Addr.add (Addr.add a1 2) 11) fun e7 => ya1 w2 (Addr.add (Addr.add a1 2) 12) fun d1 => yaN w2 (Addr.add (Addr.add a1 2) 13) fun b5 c3 b9 =>
 Calls pP 60 #[(.agg (Z1 d2 c4 d3 d4 d5 d6 d7 d8 b2 c0 b6 c5 c6 d9 d0 b3 c1 b7)), (.agg (Z1 e0 c7 e1 e2 e3 e4 e5 e6 b4 c2 b8 c8 c9 e7 d1 b5 c3 b9))] w2 fun e b1 => ∃ b0, e = .returned (.bool b0) ∧
 brB (!b0) (
 R (.bool false) b1)
 (
 KS (yAC a4 n0 n1 a5 n2 n3 I m) (yj4 a4 n0 n1 a5 n2 n3 (IntKind.wrap .i64 (a2 + 1))) b1))))
 (
 R (.bool true) w)) :
 yaL yoO (yD1 396 [0, 0, 1, 0, 1, 1]) (yD2 [1, 1, 0, 1, 0] [] R) (yj4 a4 n0 n1 a5 n2 n3 i0) w0 :=
 lrule (yj4 a4 n0 n1 a5 n2 n3) (U1 I) h0 (by rintro m a2 w h; exact ⟨by kernel_rfl, by kernel_rfl, fun js => Eq.mpr (by kernel_rfl) (hr m a2 w h)⟩)
theorem yD3 (h :
 brB ((n0 : Int) != (n2 : Int)) (
 R (.bool false) w)
 (
 yaL yoO (yD1 396 [0, 0, 1, 0, 1, 1]) (yD2 [1, 1, 0, 1, 0] [] R) (yj4 q0 n0 n1 q1 n2 n3 0) w)) :
 CR pP 38 #[.slice q0 n0 n1, .slice q1 n2 n3] w R :=
 yaA Tryz.wide_mixed (an := yqS) Tryz.func38 rfl rfl (by kernel_rfl) rfl (Eq.mpr (by kernel_rfl) h)
end
structure CV where
 x : PCall
 rs : Sl
 ts : Sl
def CV.cs (q : CV) : List Value := [.int .i64 q.x.c, .int .i64 q.x.n, .int .i64 q.x.op.kind, .string q.x.op.part.t, .int .i64 q.x.op.part.n, .int .i64 q.x.op.n, .int .i64 q.x.op.off, .int .i64 q.x.op.b.prod, .int .i64 q.x.op.b.epoch, .int .i64 q.x.op.b.seq, .slice q.rs.a q.rs.n q.rs.c, .string q.x.op.g, .string q.x.op.m, .int .i64 q.x.op.gen, .bool q.x.op.robin, .slice q.ts.a q.ts.n q.ts.c]
def CV.v (q : CV) : Value := .agg #[.int .i64 q.x.c, .int .i64 q.x.n, .int .i64 q.x.op.kind, .string q.x.op.part.t, .int .i64 q.x.op.part.n, .int .i64 q.x.op.n, .int .i64 q.x.op.off, .int .i64 q.x.op.b.prod, .int .i64 q.x.op.b.epoch, .int .i64 q.x.op.b.seq, .slice q.rs.a q.rs.n q.rs.c, .string q.x.op.g, .string q.x.op.m, .int .i64 q.x.op.gen, .bool q.x.op.robin, .slice q.ts.a q.ts.n q.ts.c]
theorem CV.cs_len (q : CV) : q.cs.length = 16 := rfl
theorem CV.cs_one (q : CV) : ∀ u ∈ q.cs, u.oneCell' = true := by simp [CV.cs, Value.oneCell']
structure PMail where
 kind : Int
 fr : Int
 to : Int
 view : Int
 normal : Int
 last : Int
 commit : Int
 nonce : Int
 base : Int
 n : Int
 calls : List PCall
 r : PRep
 deriving DecidableEq
def PMail.v (m : PMail) (s f p : Sl) : Value := .agg #[.int .i64 m.kind, .int .i64 m.fr, .int .i64 m.to, .int .i64 m.view, .int .i64 m.normal, .int .i64 m.last, .int .i64 m.commit, .int .i64 m.nonce, .int .i64 m.base, .int .i64 m.n, .slice s.a s.n s.c, .int .i64 m.r.e, .int .i64 m.r.off, .int .i64 m.r.n, .int .i64 m.r.gen, .slice f.a f.n f.c, .slice p.a p.n p.c]
def PMail.cs (m : PMail) (s f p : Sl) : List Value := [.int .i64 m.kind, .int .i64 m.fr, .int .i64 m.to, .int .i64 m.view, .int .i64 m.normal, .int .i64 m.last, .int .i64 m.commit, .int .i64 m.nonce, .int .i64 m.base, .int .i64 m.n, .slice s.a s.n s.c, .int .i64 m.r.e, .int .i64 m.r.off, .int .i64 m.r.n, .int .i64 m.r.gen, .slice f.a f.n f.c, .slice p.a p.n p.c]
def ydW : PRep := ⟨0, 0, 0, 0, [], []⟩
def yiF : PMail := ⟨0, 0, 0, 0, 0, 0, 0, 0, 0, 0, [], ydW⟩
def yeM (w : World) (s : Sl) (xs : List PCall) : Prop := ∃ ll : List CV, yb2 w 16 CV.cs s.a s.n ll ∧ (∀ q ∈ ll, OpAt w q.x.op q.rs q.ts) ∧ ll.map (·.x) = xs
def ya7 (w : World) (base : Nat) (s : Sl) (xs : List PCall) : Prop := ∃ ll : List CV, Row w base 50 16 CV.cs s.a s.n s.c ll ∧ (∀ q ∈ ll, OpOwn w base q.x.op q.rs q.ts) ∧ ll.map (·.x) = xs
theorem ya7.at {w : World} {base : Nat} {s : Sl} {xs : List PCall} (h : ya7 w base s xs) : yeM w s xs := by
 obtain ⟨ll, h1, h2, h3⟩ := h; exact ⟨ll, h1.sl CV.cs_len, fun q hq => (h2 q hq).at, h3⟩
theorem yeM.keep0 {w w' : World} {s : Sl} {xs : List PCall} (h : yeM w s xs) (M : Mod [] w w') : yeM w' s xs := by
 obtain ⟨ll, h1, h2, h3⟩ := h; exact ⟨ll, h1.keep0 M, fun q hq => (h2 q hq).keep0 M, h3⟩
theorem ya7.keep0 {w w' : World} {base : Nat} {s : Sl} {xs : List PCall} (h : ya7 w base s xs) (M : Mod [] w w') : ya7 w' base s xs := by
 obtain ⟨ll, h1, h2, h3⟩ := h; exact ⟨ll, h1.keep0 M, fun q hq => (h2 q hq).keep0 M, h3⟩
theorem ya7.rebase {w : World} {base base' : Nat} {s : Sl} {xs : List PCall} (h : ya7 w base s xs) (hb : base' ≤ base) : ya7 w base' s xs := by
 obtain ⟨ll, h1, h2, h3⟩ := h; exact ⟨ll, h1.rebase hb, fun q hq => (h2 q hq).rebase hb, h3⟩
structure MailAt (w : World) (m : PMail) (s f p : Sl) : Prop where
 calls : yeM w s m.calls
 rep : RepAt w m.r f p
structure MailOwn (w : World) (base : Nat) (m : PMail) (s f p : Sl) : Prop where
 calls : ya7 w base s m.calls
 rep : RepOwn w base m.r f p
theorem MailOwn.at {w : World} {base : Nat} {m : PMail} {s f p : Sl} (h : MailOwn w base m s f p) : MailAt w m s f p := ⟨h.calls.at, h.rep.at⟩
theorem MailAt.keep0 {w w' : World} {m : PMail} {s f p : Sl} (h : MailAt w m s f p) (M : Mod [] w w') : MailAt w' m s f p := ⟨h.calls.keep0 M, h.rep.keep0 M⟩
theorem MailOwn.keep0 {w w' : World} {base : Nat} {m : PMail} {s f p : Sl} (h : MailOwn w base m s f p) (M : Mod [] w w') : MailOwn w' base m s f p := ⟨h.calls.keep0 M, h.rep.keep0 M⟩
theorem MailOwn.rebase {w : World} {base base' : Nat} {m : PMail} {s f p : Sl} (h : MailOwn w base m s f p) (hb : base' ≤ base) : MailOwn w base' m s f p := ⟨h.calls.rebase hb, h.rep.rebase hb⟩
theorem OpOwn.keep {S : List Nat} {w w' : World} {base : Nat} {o : POp} {rs ts : Sl} (h : OpOwn w base o rs ts) (M : Mod S w w') (hS : ∀ k ∈ S, ∀ cs T, w.heap[k]? = some (.cells cs T) → T ≠ 99 ∧ T ≠ 9) : OpOwn w' base o rs ts :=
  ⟨h.recs.keep M fun ad ha hk => by obtain ⟨_, cur, hc⟩ := h.recs.block ad ha; exact (hS _ hk _ _ hc).1 rfl,
   h.topics.keep M fun ad ha hk => by obtain ⟨_, cur, hc⟩ := h.topics.block ad ha; exact (hS _ hk _ _ hc).2 rfl, h.lr, h.lt⟩
theorem OpOwn.keepB {S : List Nat} {w w' : World} {base : Nat} {o : POp} {rs ts : Sl} (h : OpOwn w base o rs ts) (M : Mod S w w') (hS : ∀ k ∈ S, k < base) : OpOwn w' base o rs ts :=
 ⟨h.recs.keep M fun ad ha hk => by have := h.recs.base ad ha; have := hS _ hk; omega, h.topics.keep M fun ad ha hk => by have := h.topics.base ad ha; have := hS _ hk; omega, h.lr, h.lt⟩
theorem RepOwn.keepB {S : List Nat} {w w' : World} {base : Nat} {r : PRep} {f p : Sl} (h : RepOwn w base r f p) (M : Mod S w w') (hS : ∀ k ∈ S, k < base) : RepOwn w' base r f p :=
 ⟨h.found.keep M fun ad ha hk => by have := h.found.base ad ha; have := hS _ hk; omega, h.parts.keep M fun ad ha hk => by have := h.parts.base ad ha; have := hS _ hk; omega, h.lf, h.lp⟩
theorem ya7.keepB {S : List Nat} {w w' : World} {base : Nat} {s : Sl} {xs : List PCall} (h : ya7 w base s xs) (M : Mod S w w') (hS : ∀ k ∈ S, k < base) : ya7 w' base s xs := by
 obtain ⟨ll, h1, h2, h3⟩ := h
 exact ⟨ll, h1.keep M fun ad ha hk => by have := h1.base ad ha; have := hS _ hk; omega, fun q hq => (h2 q hq).keepB M hS, h3⟩
theorem MailOwn.keepB {S : List Nat} {w w' : World} {base : Nat} {m : PMail} {s f p : Sl} (h : MailOwn w base m s f p) (M : Mod S w w') (hS : ∀ k ∈ S, k < base) : MailOwn w' base m s f p := ⟨h.calls.keepB M hS, h.rep.keepB M hS⟩
theorem yD4 : (Tryz.prog.info? 99).map (fun i => (i.zero, i.size, i.bytes)) = some (some (.agg #[.bool false, .string ByteArray.empty, .bool false, .string ByteArray.empty]), 4, 48) := by kernel_rfl
theorem yD5 : (Tryz.prog.info? 9).map (fun i => (i.zero, i.size, i.bytes)) = some (some (.string ByteArray.empty), 1, 16) := by kernel_rfl
theorem yqT : (Tryz.prog.info? 50).map (fun i => (i.zero, i.size, i.bytes)) = some (some (.agg #[.int .i64 0, .int .i64 0, .int .i64 0, .string ByteArray.empty, .int .i64 0, .int .i64 0, .int .i64 0, .int .i64 0, .int .i64 0, .int .i64 0, .slice none 0 0, .string ByteArray.empty, .string ByteArray.empty, .int .i64 0, .bool false, .slice none 0 0]), 16, 184) := by kernel_rfl
theorem yaT {α : Type} {w : World} {base T sz : Nat} {enc : α → List Value} {a : Option Addr} {n c : Nat} {l : List α} (h : Row w base T sz enc a n c l) : ∀ k ∈ yeL a, base ≤ k ∧ k < w.heap.size ∧ ∃ cur, w.heap[k]? = some (.cells cur T) := by
 cases a with
 | none => simp [yeL]
 | some ad => intro k hk; simp [yeL] at hk; subst hk; obtain ⟨h1, cur, h2⟩ := h.block ad rfl; exact ⟨h1, yaJ h2, cur, h2⟩
end Go.Proofs.YtjellhflalbbmaaGreat
