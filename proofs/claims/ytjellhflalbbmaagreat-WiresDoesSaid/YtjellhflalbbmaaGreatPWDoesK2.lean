/- Part 2 of the proof of PWDoes. -/
import Derived.Test.YtjellhflalbbmaaGreatPWDoesK1
namespace Go.Proofs.YtjellhflalbbmaaGreat
open Go Go.RowKit Go.Shelf
set_option linter.unusedVariables false
set_option linter.unusedSimpArgs false
attribute [local go_sem] Oper.semAt_some
def ysB (n : Nat) : List (Nat × Bool) := if h : n < 128 then [(n, false)] else (n % 128, true) :: ysB (n / 128)
termination_by n
decreasing_by omega
theorem ydB {n : Nat} (h : n < 128) : ysB n = [(n, false)] := by rw [ysB, dif_pos h]
theorem yhT {n : Nat} (h : ¬ n < 128) : ysB n = (n % 128, true) :: ysB (n / 128) := by rw [ysB, dif_neg h]
theorem ygE : ∀ (k n : Nat), n < 128 ^ (k + 1) → 1 ≤ (ysB n).length ∧ (ysB n).length ≤ k + 1
 | 0, n, h => by rw [ydB (by simpa using h)]; simp
 | k + 1, n, h => by
  by_cases h1 : n < 128
  ·rw [ydB h1]; simp
  ·rw [yhT h1]
   have := ygE k (n / 128) (by rw [Nat.pow_succ] at h; omega)
   simp; omega
set_option maxRecDepth 100000 in
set_option maxHeartbeats 2000000 in
theorem yxP (C n : Nat) (hn : n < 18446744073709551616) :
  yAt pP 112 #[.pointer (some ⟨C, 0, none⟩)] (fun x : Nat × Bool => #[.int .u8 (x.1 : Nat), .bool x.2]) C 10 (.cells #[.int .u64 (n : Nat)] 116) (ysB n) := fun l J W hset hdrew hY h0 hC => by
 have hro : Fence.wide.round = none := rfl
 refine callsIn_of_wp Tryz.func112 rfl trivial ?_ hro
 simp only [Tryz.ntmps112, List.size_toArray, List.length_cons, List.length_nil, Nat.reduceAdd, Nat.reduceSub, Array.replicate_succ, Array.replicate_zero, List.push_toArray, List.append_toArray, List.nil_append, List.cons_append]
 have hcellOf : ∀ {wr : World} {m : Nat}, wr.heap[C]? = some (.cells #[.int .u64 (m : Nat)] 116) → wr.cell? ⟨C, 0, none⟩ = some (.int .u64 (m : Nat)) ∧ wr.frozen? ⟨C, 0, none⟩ = false := fun h => ⟨by rw [yaY h]; rfl, yqQ h⟩
 gi_wp2
 gi_loopg [] n (fun k wr => ∃ pre, k < 18446744073709551616 ∧ ysB n = pre ++ ysB k ∧ wr.heap[C]? = some (.cells #[.int .u64 (k : Nat)] 116) ∧ J pre wr)
 case atStart => exact ⟨[], hn, rfl, hC, h0⟩
 case round =>
  obtain ⟨pre, hk, hs, hCw, hJ⟩ := hrel
  obtain ⟨hc, hf⟩ := hcellOf hCw
  have hlen := (ygE 9 n (by omega)).2
  rw [hs] at hlen
  have hk1 := (ygE 9 gk (by omega)).1
  rw [List.length_append] at hlen
  by_cases hb : gk < 128
  ·have hb' : ¬ (128 : Int) ≤ (gk : Int) := by omega
   obtain ⟨fn, tmps, assign, body, hy, hR⟩ := hY pre (gk, false) wr hJ (by omega)
   dsimp only at hy
   gi_wp2
   refine hR.mono ?_
   rintro e W3 ⟨rfl, hJ3, hC3⟩
   gi_wp2
   go_end0
   refine ⟨⟨_, rfl⟩, ?_⟩
   rw [hs, ydB hb]
   exact hJ3
  ·have hb' : (128 : Int) ≤ (gk : Int) := by omega
   have e7 : bits .and .u64 (gk : Int) 127 % 256 = (gk : Int) % 128 := by
    have h := bits_and_u64_nat gk 127 (by omega) (by omega)
    have h2 : (gk &&& 127 : Nat) = gk % 128 := Nat.and_two_pow_sub_one_eq_mod gk 7
    rw [h2] at h
    have h3 : bits .and .u64 (gk : Int) 127 = ((gk % 128 : Nat) : Int) := h
    rw [h3]; omega
   obtain ⟨fn, tmps, assign, body, hy, hR⟩ := hY pre (gk % 128, true) wr hJ (by omega)
   dsimp only at hy
   have e8 : ((gk % 128 : Nat) : Int) = (gk : Int) % 128 := by omega
   rw [e8] at hy
   gi_wp2
   refine hR.mono ?_
   rintro e W3 ⟨rfl, hJ3, hC3⟩
   obtain ⟨hc3, hf3⟩ := hcellOf (hC3.trans hCw)
   gi_wp2
   gi_roundg (gk / 128)
   case rel =>
    refine ⟨pre ++ [(gk % 128, true)], by omega, by rw [hs, yhT hb]; simp, ?_, hset _ _ _ hJ3⟩
    rw [yjB (hC3.trans hCw)]
    rfl
   case measure => omega
theorem yAu (n : Int) (w : World) :
  CallsIn Fence.wide 1 pP 76 #[.int .u64 n] w fun e w' => e = .returned (.func (.func 112) #[] #[.pointer (some ⟨w.heap.size, 0, none⟩)]) ∧ w' = w.alloc (.cells #[.int .u64 n] 116) := by
 refine callsIn_of_wp Tryz.func76 rfl trivial ?_ rfl
 simp only [Tryz.ntmps76, List.size_toArray, List.length_cons, List.length_nil, Nat.reduceAdd, Nat.reduceSub, Array.replicate_succ, Array.replicate_zero, List.push_toArray, List.append_toArray, List.nil_append, List.cons_append]
 gi_wp2
 go_ret
 exact ⟨rfl, rfl⟩
def yI0 (p : Nat × Bool) : Int := if p.2 then bits .or .u8 (p.1 : Nat) 128 else (p.1 : Nat)
def yaL (n : Nat) : List UInt8 := (ysB n).map fun p => UInt8.ofNat (if p.2 then p.1 + 128 else p.1)
def yDN (n : Nat) : ByteArray := ⟨(yaL n).toArray⟩
theorem yMl : ∀ x : Fin 128, bits .or .u8 ((x.val : Nat) : Int) 128 = ((x.val + 128 : Nat) : Int) := by decide
theorem yxQ : ∀ (n : Nat), (ysB n).map (fun p => Value.int .u8 (yI0 p)) = (yaL n).map fun b => Value.int .u8 (b.toNat : Int) := by
 intro n
 induction n using Nat.strongRecOn with
 | ind n ih =>
  by_cases h : n < 128
  ·have e : (UInt8.ofNat n).toNat = n := by simp; omega
   simp [yaL, ydB h, yI0]; omega
  ·have e := yMl ⟨n % 128, by omega⟩
   have ih := ih (n / 128) (by omega)
   unfold yaL at ih ⊢
   rw [yhT h, List.map_cons, List.map_cons, List.map_cons, ih]
   simp only [yI0, if_true]
   rw [e]
   simp; omega
theorem yE9 : (Tryz.prog.info? 5).map (fun i => (i.zero, i.size, i.bytes)) = some (some (.int .u8 0), 1, 1) := by kernel_rfl
set_option maxRecDepth 100000 in
set_option maxHeartbeats 2000000 in
theorem yI1 (n : Nat) (hn : n < 18446744073709551616) (w : World) :
  CallsIn Fence.wide 2 pP 52 #[.int .u64 (n : Nat)] w fun e w' => e = .returned (.string (yDN n)) ∧ Below w.heap.size w w' := by
 have hro : Fence.wide.round = none := rfl
 obtain ⟨i0, hi, hz0, hz1, hz2⟩ := info_parts yE9
 refine callsIn_of_wp_marks Tryz.func52 rfl trivial ?_ hro
 simp only [Tryz.ntmps52, List.size_toArray, List.length_cons, List.length_nil, Nat.reduceAdd, Nat.reduceSub, Array.replicate_succ, Array.replicate_zero, List.push_toArray, List.append_toArray, List.nil_append, List.cons_append]
 have hmk : ∀ W : World, (Instr.makeSlice 104 (.int .i64 0) (.int .i64 10)).run pP W = .ok (.slice (some ⟨W.heap.size, 0, none⟩) 0 10) (W.alloc (.cells (madeCells #[Value.int .u8 0] 10) 5)) := fun W => by
  have h := run_makeSlice (P := pP) W 104 5 i0 (.int .u8 0) Tryz.underlying104 hi hz0 .i64 .i64 0 10 (by omega) (by omega) (by rw [hz1]; decide) (by rw [hz2]; decide) (by decide)
  rw [hz1] at h
  exact h
 gi_wp2_with (refine ⟨trivial, ?_⟩; gi_at_call 76; refine (yAu _ _).mono ?_; rintro e w' ⟨rfl, rfl⟩)
 obtain ⟨W0, hW0⟩ : ∃ W0, (((w.alloc (Obj.cells (madeCells #[Value.int IntKind.u8 0] 10) 5)).alloc (Obj.cells #[Value.slice (some { block := w.heap.size, off := 0 }) 0 10] 104)).alloc (Obj.cells #[Value.int IntKind.u64 (n : Nat)] 116)) = W0 := ⟨_, rfl⟩
 have hsz : W0.heap.size = w.heap.size + 3 := by rw [← hW0]; simp
 have bO : Boxed W0 (w.heap.size + 1) 104 (.slice (some ⟨w.heap.size, 0, none⟩) 0 10) := by
  rw [← hW0]
  have := (Boxed.new (w.alloc (Obj.cells (madeCells #[Value.int IntKind.u8 0] 10) 5)) 104 (.slice (some ⟨w.heap.size, 0, none⟩) 0 10)).alloc (Obj.cells #[Value.int IntKind.u64 (n : Nat)] 116)
  rwa [World.size_alloc] at this
 have bN : Boxed W0 (w.heap.size + 1 + 1) 116 (.int .u64 (n : Nat)) := by
  rw [← hW0]
  have := Boxed.new ((w.alloc (Obj.cells (madeCells #[Value.int IntKind.u8 0] 10) 5)).alloc (Obj.cells #[Value.slice (some { block := w.heap.size, off := 0 }) 0 10] 104)) 116 (.int .u64 (n : Nat))
  rwa [World.size_alloc, World.size_alloc] at this
 have hR0 : W0.ownsRow w.heap.size 5 1 (.slice (some ⟨w.heap.size, 0, none⟩) 0 10) 0 [] := by
  rw [← hW0]
  exact ((World.ownsRow_made w _ 10 (Nat.le_refl _) (by unfold maxLen; decide) (by simp [size_madeCells])).alloc _).alloc _
 have hB0 : Below w.heap.size w W0 := by
  rw [← hW0]
  exact (((Below.refl _ w).alloc (Nat.le_refl _) _).alloc (by simp) _).alloc (by simp; omega) _
 rw [hW0]
 clear hW0
 refine ykM (C := w.heap.size + 1 + 1) (N := 10) (xs := ysB n) rfl (enters_of Tryz.func112 (by kernel_rfl) rfl) (by omega) bN rfl (yxP _ n hn) (fun _ => rfl)
  (fun pre W => ∃ v u, Boxed W (w.heap.size + 1) 104 v ∧ Boxed W (w.heap.size + 1 + 1) 116 u ∧ W.ownsRow w.heap.size 5 1 v pre.length (pre.map fun p => Value.int .u8 (yI0 p)) ∧ Below w.heap.size w W)
  ?ia ?ip ?ic ?idr ⟨_, _, bO, bN, hR0, hB0⟩
  (fun x => { tmps := #[.int .u64 (n : Nat), undef, .string { data := #[] }, .pointer (some ⟨w.heap.size + 1, 0, none⟩), .int .u8 (x.1 : Nat), .bool x.2, .slice (some ⟨w.heap.size, 0, none⟩) 0 10, .int .u64 (n : Nat), .func (.func 112) #[] #[.pointer (some ⟨w.heap.size + 1 + 1, 0, none⟩)], .int .u8 (x.1 : Nat), .bool x.2, undef, undef, undef, undef, undef, undef, undef, undef, undef], defers := [] }) ?assign ?body ?done
 case ia =>
  rintro s W o ⟨v, u, h1, h2, h3, h4⟩
  exact ⟨v, u, h1.alloc o, h2.alloc o, h3.alloc o, h4.alloc h4.size o⟩
 case ip =>
  rintro s W l o o' hl ho hc ⟨v, u, h1, h2, h3, h4⟩
  have hne : ∀ {B t u}, Boxed W B t u → some B ≠ some l := fun h e => by cases e; rw [show W.heap[l]? = _ from h] at ho; cases ho; cases hc
  exact ⟨v, u, h1.kept (grownBy_putObj' W l o') (hne h1), h2.kept (grownBy_putObj' W l o') (hne h2), ownsRow_putObj h3 o' ho hc, h4.trans ⟨rfl, rfl, rfl, by simp [World.putObj], fun k hk => World.putObj_heap_other (by omega)⟩⟩
 case ic =>
  rintro s W v' ⟨v, u, h1, h2, h3, h4⟩
  exact ⟨v, v', h1.other (by omega) _, h2.set _, h3.kept (grownBy_setCell' W _ _) (.inr (h2.not_row (by decide) h3).symm), h4.setCell (p := ⟨w.heap.size + 1 + 1, 0, none⟩) (by show w.heap.size ≤ w.heap.size + 1 + 1; omega) _⟩
 case idr =>
  rintro s W ⟨v, u, h1, h2, h3, h4⟩
  exact ⟨v, u, h1, h2, h3, h4.drew⟩
 case assign =>
  intro l x W K hK
  gi_wp2
  exact hK
 case body =>
  rintro l pre x W ⟨v, u, hv, hu, hrow, hB⟩ hlen hCl
  have hc := hv.cell
  obtain ⟨x, f⟩ := x
  cases f
  all_goals
   gi_wp2_with (gi_at_builtin; refine wpListIn_append_own _ rfl _ _ 104 rfl w.heap.size 5 i0 (.int .u8 0) 1 1 Tryz.underlying104 hi hz0 hz1 hz2 rfl (by decide) _ _ _ rfl (hrow.alloc _) ⟨W.heap.size, 0, none⟩ 1 1 [_] rfl rfl (cell_one_new _ _ _) (by simp [Value.oneCell']) (by unfold maxLen; omega) (by omega) (by have := hB.size; simp; omega) ?_; intro v' w1 hown' hgrow _; obtain ⟨g', cap', rfl⟩ := ownsRow_succ hown'; have hu1 := (hu.alloc _).kept hgrow (hu.not_row (by decide) hrow); obtain ⟨hv1, hv2, hr2, hk2, hb2⟩ := hv.appended (by decide) hrow hB.size (Nat.le_add_right _ _) hown' hgrow; have hc1 := hv1.cell; have hf1 := hv1.frozen)
   have hu2 := hu1.other (B' := w.heap.size + 1) (by omega) (Value.slice (some { block := g', off := 0 }) (pre.length + 1) cap')
   refine ⟨hk2.from _, (show _ = _ from hu2).trans ((show _ = _ from hu).symm.trans (by simp [hCl])), _, hv2, ⟨_, hu2⟩, ?_, hB.trans hb2⟩
   simpa [yI0] using hr2
 case done =>
  rintro D W hD ⟨v, u, hv, hu, hrow, hB⟩ hK
  have hc := hv.cell
  rw [yxQ, show (ysB n).length = (yaL n).length by simp [yaL]] at hrow
  have hl1 : 1 ≤ (yaL n).length := by have := (ygE 9 n (by omega)).1; simp [yaL]; omega
  obtain ⟨g, cap, rfl⟩ : ∃ g cap, v = .slice (some ⟨g, 0, none⟩) (yaL n).length cap := by
   obtain ⟨m, hm⟩ : ∃ m, (yaL n).length = m + 1 := ⟨(yaL n).length - 1, by omega⟩
   have h' := hrow
   rw [hm] at h'
   rw [hm]
   exact ownsRow_succ h'
  have hcv : (convert 104 9 (.slice (some ⟨g, 0, none⟩) (yaL n).length cap)).run pP W = .ok (.string (yDN n)) W :=
   run_convert_bytes_back W _ _ 5 ⟨g, 0, none⟩ cap (yaL n) Tryz.underlying104 Tryz.underlying5 Tryz.underlying9 fun j hj => by
    rw [ya6, Nat.zero_add, World.ownsRow.cellAt hrow j (by omega)]
    simp [hj]
  gi_wp2
  refine ⟨by simp, .inl ⟨_, _, rfl, run_takeDeferred hK, ?_⟩⟩
  exact ⟨_, results_tmp rfl _ _ _, rfl, hB.trans ⟨rfl, rfl, rfl, by simp [World.putObj], fun k hk => World.putObj_heap_other (by omega)⟩⟩
theorem ykN (n : Nat) (hn : n < 18446744073709551616) (w : World) :
  Calls pP 52 #[.int .u64 (n : Nat)] w fun e w' => e = .returned (.string (yDN n)) ∧ Mod [] w w' :=
 (callsIn_wide.1 (yI1 n hn w)).mono fun e w' ⟨h1, h2⟩ => ⟨h1, Mod.of_below h2⟩
theorem yAv (n : Nat) (hn : n < 18446744073709551616) : 1 ≤ (yDN n).size ∧ (yDN n).size ≤ 10 := by
 have := ygE 9 n (by omega)
 have e : (yDN n).size = (ysB n).length := by simp [yDN, yaL, ByteArray.size]
 omega
end Go.Proofs.YtjellhflalbbmaaGreat
namespace Go.Proofs.YtjellhflalbbmaaGreat
open Go Go.RowKit
set_option linter.all false
structure PRec where
 hk : Bool
 key : ByteArray
 tomb : Bool
 val : ByteArray
 deriving DecidableEq
structure PFound where
 off : Int
 r : PRec
 deriving DecidableEq
structure PPart where
 t : ByteArray
 n : Int
 deriving DecidableEq
structure PRep where
 e : Int
 off : Int
 n : Int
 gen : Int
 found : List PFound
 parts : List PPart
 deriving DecidableEq
structure Sl where
 a : Option Addr
 n : Nat
 c : Nat
def PRec.v (r : PRec) : Value := .agg #[.bool r.hk, .string r.key, .bool r.tomb, .string r.val]
def PFound.v (x : PFound) : Value := .agg #[.int .i64 x.off, .bool x.r.hk, .string x.r.key, .bool x.r.tomb, .string x.r.val]
def PPart.v (x : PPart) : Value := .agg #[.string x.t, .int .i64 x.n]
def ylO (x : PFound) : List Value := [.int .i64 x.off, .bool x.r.hk, .string x.r.key, .bool x.r.tomb, .string x.r.val]
def yn4 (x : PPart) : List Value := [.string x.t, .int .i64 x.n]
theorem yuX (x : PFound) : (ylO x).length = 5 := rfl
theorem yuY (x : PPart) : (yn4 x).length = 2 := rfl
def PRep.cs (r : PRep) (f p : Sl) : List Value := [.int .i64 r.e, .int .i64 r.off, .int .i64 r.n, .int .i64 r.gen, .slice f.a f.n f.c, .slice p.a p.n p.c]
def PRep.v (r : PRep) (f p : Sl) : Value := .agg #[.int .i64 r.e, .int .i64 r.off, .int .i64 r.n, .int .i64 r.gen, .slice f.a f.n f.c, .slice p.a p.n p.c]
structure RepAt (w : World) (r : PRep) (f p : Sl) : Prop where
 found : ycD w 5 ylO f.a f.n r.found
 parts : ycD w 2 yn4 p.a p.n r.parts
 lf : r.found.length ≤ 1000000
 lp : r.parts.length ≤ 1000000
structure RepOwn (w : World) (base : Nat) (r : PRep) (f p : Sl) : Prop where
 found : Row w base 101 5 ylO f.a f.n f.c r.found
 parts : Row w base 42 2 yn4 p.a p.n p.c r.parts
 lf : r.found.length ≤ 1000000
 lp : r.parts.length ≤ 1000000
theorem RepOwn.at {w : World} {base : Nat} {r : PRep} {f p : Sl} (h : RepOwn w base r f p) : RepAt w r f p := ⟨h.found.sl yuX, h.parts.sl yuY, h.lf, h.lp⟩
theorem RepAt.keep0 {w w' : World} {r : PRep} {f p : Sl} (h : RepAt w r f p) (M : Mod [] w w') : RepAt w' r f p := ⟨h.found.keep0 M, h.parts.keep0 M, h.lf, h.lp⟩
structure RepAtW (w : World) (r : PRep) (f p : Sl) : Prop where
 found : ycD w 5 ylO f.a f.n r.found
 parts : ycD w 2 yn4 p.a p.n r.parts
 lf : r.found.length ≤ 9223372036854775807
 lp : r.parts.length ≤ 9223372036854775807
theorem RepAtW.keep0 {w w' : World} {r : PRep} {f p : Sl} (h : RepAtW w r f p) (M : Mod [] w w') : RepAtW w' r f p := ⟨h.found.keep0 M, h.parts.keep0 M, h.lf, h.lp⟩
theorem RepAt.wide {w : World} {r : PRep} {f p : Sl} (h : RepAt w r f p) : RepAtW w r f p := ⟨h.found, h.parts, by have := h.lf; omega, by have := h.lp; omega⟩
theorem RepOwn.keep0 {w w' : World} {base : Nat} {r : PRep} {f p : Sl} (h : RepOwn w base r f p) (M : Mod [] w w') : RepOwn w' base r f p := ⟨h.found.keep0 M, h.parts.keep0 M, h.lf, h.lp⟩
theorem RepOwn.rebase {w : World} {base base' : Nat} {r : PRep} {f p : Sl} (h : RepOwn w base r f p) (hb : base' ≤ base) : RepOwn w base' r f p := ⟨h.found.rebase hb, h.parts.rebase hb, h.lf, h.lp⟩
theorem neF (x y : PFound) (o1 o2 : Operand) (w : World) : Sem.run pP (do eqGuard .neq 101 o1 o2 x.v y.v; Go.binOp .neq 101 x.v y.v) w = .ok (.bool (decide (x ≠ y))) w := by
 obtain ⟨a, b, c, d, e⟩ := x
 obtain ⟨a', b', c', d', e'⟩ := y
 simp [go_sem, Sem.run_bind, PFound.v]
 by_cases h1 : a = a' <;> by_cases h2 : b = b' <;> by_cases h3 : c = c' <;> by_cases h4 : d = d' <;> by_cases h5 : e = e' <;> simp [h1, h2, h3, h4, h5, yd0]
theorem neP (x y : PPart) (o1 o2 : Operand) (w : World) : Sem.run pP (do eqGuard .neq 42 o1 o2 x.v y.v; Go.binOp .neq 42 x.v y.v) w = .ok (.bool (decide (x ≠ y))) w := by
 obtain ⟨a, b⟩ := x
 obtain ⟨a', b'⟩ := y
 simp [go_sem, Sem.run_bind, PPart.v]
 by_cases h1 : a = a' <;> by_cases h2 : b = b' <;> simp [h1, h2, yd0]
section
set_option maxRecDepth 100000
variable {R : VWP} {w w0 : World} {m : Nat} {i0 i1 i2 i3 i4 i5 i6 i7 i8 i9 j0 j1 j2 j3 j4 j5 j6 j7 j8 j9 k0 k1 k2 k3 k4 k5 k6 k7 k8 k9 l0 l1 l2 l3 l4 l5 l6 l7 l8 l9 : Int} {s0 s1 s2 s3 s4 s5 s6 s7 s8 s9 t0 t1 t2 t3 t4 t5 t6 t7 t8 t9 : BA} {n0 n1 n2 n3 n4 n5 n6 n7 n8 n9 o0 o1 o2 o3 o4 o5 o6 o7 o8 o9 p0 p1 p2 p3 p4 p5 p6 p7 p8 p9 : Nat} {q0 q1 q2 q3 q4 q5 q6 q7 q8 q9 r0 r1 r2 r3 r4 r5 r6 r7 r8 r9 : OA} {B0 B1 B2 B3 B4 B5 B6 B7 B8 B9 : Bool} {M0 M1 M2 M3 : Option Nat} {V0 V1 V2 V3 V4 V5 : Value} {A0 A1 A2 : Addr}
abbrev hpC (w : World) (b : Nat) (c : Array Value) (T : TypeId) : Prop := w.heap[b]? = some (.cells c T)
abbrev Z0 (x0 x1 x2 x3 x4 x5 x6 x7 x8 x9 : Int) (x10 : OA) (x11 x12 : Nat) (x13 x14 x15 x16 : Int) (x17 : OA) (x18 x19 : Nat) (x20 : OA) (x21 x22 : Nat) : Array Value := #[.int .i64 x0, .int .i64 x1, .int .i64 x2, .int .i64 x3, .int .i64 x4, .int .i64 x5, .int .i64 x6, .int .i64 x7, .int .i64 x8, .int .i64 x9, .slice x10 x11 x12, .int .i64 x13, .int .i64 x14, .int .i64 x15, .int .i64 x16, .slice x17 x18 x19, .slice x20 x21 x22]
abbrev Z1 (x0 : Int) (x1 : BA) (x2 x3 x4 x5 x6 x7 : Int) (x8 : OA) (x9 x10 : Nat) (x11 x12 : BA) (x13 : Int) (x14 : Bool) (x15 : OA) (x16 x17 : Nat) : Array Value := #[.int .i64 x0, .string x1, .int .i64 x2, .int .i64 x3, .int .i64 x4, .int .i64 x5, .int .i64 x6, .int .i64 x7, .slice x8 x9 x10, .string x11, .string x12, .int .i64 x13, .bool x14, .slice x15 x16 x17]
abbrev Z2 (x0 : BA) (x1 x2 : Int) : Array Value := #[.string x0, .int .i64 x1, .int .i64 x2]
abbrev Z3 (x0 x1 x2 x3 : Int) (x4 : OA) (x5 x6 : Nat) (x7 : OA) (x8 x9 : Nat) : Array Value := #[.int .i64 x0, .int .i64 x1, .int .i64 x2, .int .i64 x3, .slice x4 x5 x6, .slice x7 x8 x9]
abbrev Z4 (x0 x1 : Int) (x2 : OA) (x3 x4 : Nat) (x5 : OA) (x6 x7 : Nat) : Array Value := #[.int .i64 x0, .int .i64 x1, .slice x2 x3 x4, .slice x5 x6 x7]
abbrev Z5 (x0 : Bool) (x1 : BA) (x2 : Bool) (x3 : BA) : Array Value := #[.bool x0, .string x1, .bool x2, .string x3]
abbrev Z6 (x0 : Int) (x1 : Bool) (x2 : BA) (x3 : Bool) (x4 : BA) : Array Value := #[.int .i64 x0, .bool x1, .string x2, .bool x3, .string x4]
abbrev Z7 (x0 x1 x2 : Int) (x3 : BA) (x4 x5 x6 x7 x8 x9 : Int) (x10 : OA) (x11 x12 : Nat) (x13 x14 : BA) (x15 : Int) (x16 : Bool) (x17 : OA) (x18 x19 : Nat) : Array Value := #[.int .i64 x0, .int .i64 x1, .int .i64 x2, .string x3, .int .i64 x4, .int .i64 x5, .int .i64 x6, .int .i64 x7, .int .i64 x8, .int .i64 x9, .slice x10 x11 x12, .string x13, .string x14, .int .i64 x15, .bool x16, .slice x17 x18 x19]
abbrev Z8 (x0 x1 x2 : Int) (x3 : OA) (x4 x5 : Nat) : Array Value := #[.int .i64 x0, .int .i64 x1, .int .i64 x2, .slice x3 x4 x5]
abbrev Z9 (x0 x1 x2 x3 x4 x5 x6 x7 x8 x9 : OA) : Array Value := #[.pointer x0, .pointer x1, .pointer x2, .pointer x3, .pointer x4, .pointer x5, .pointer x6, .pointer x7, .pointer x8, .pointer x9]
abbrev Z10 (x0 x1 x2 x3 : Int) : Array Value := #[.int .i64 x0, .int .i64 x1, .int .i64 x2, .int .i64 x3]
abbrev Z11 (x0 : OA) (x1 x2 : Int) : Array Value := #[.pointer x0, .int .i64 x1, .int .i64 x2]
abbrev Z13 (x0 : OA) (x1 x2 : Int) (x3 : Bool) : Array Value := #[.pointer x0, .int .i64 x1, .int .i64 x2, .bool x3]
theorem yMm (h :
 brB (decide (i0 ≥ 0)) (
 R (.bool (decide (i0 ≤ 1099511627776))) w)
 (
 R (.bool false) w)) :
 CR pP 118 #[.int .i64 i0] w R :=
 yaA Tryz.wide_mixed (an := []) Tryz.func118 rfl rfl (by kernel_rfl) rfl (Eq.mpr (by kernel_rfl) h)
theorem yMn (h :
 ∀ b1, w.heap.size ≤ b1 →
 brB (!B0) (
 brB (!(s0.toList == (⟨#[]⟩ : BA).toList)) (
 brB (!(s0.toList == (⟨#[]⟩ : BA).toList)) (
 ∀ w2, Adv [] [b1] w w2 →
 R (.int .i64 30) w2)
 (
 brB (decide ((s0.size : Int) > 64)) (
 brB (decide ((s0.size : Int) > 64)) (
 ∀ w3, Adv [] [b1] w w3 →
 R (.int .i64 2) w3)
 (
 ∀ w4, Adv [] [b1] w w4 →
 R (.int .i64 0) w4))
 (
 brB (decide ((s1.size : Int) > 512)) (
 ∀ w5, Adv [] [b1] w w5 →
 R (.int .i64 2) w5)
 (
 ∀ w6, Adv [] [b1] w w6 →
 R (.int .i64 0) w6))))
 (
 brB B1 (
 brB (!B0) (
 ∀ w7, Adv [] [b1] w w7 →
 R (.int .i64 30) w7)
 (
 brB (!(s1.toList == (⟨#[]⟩ : BA).toList)) (
 ∀ w8, Adv [] [b1] w w8 →
 R (.int .i64 30) w8)
 (
 brB (decide ((s0.size : Int) > 64)) (
 brB (decide ((s0.size : Int) > 64)) (
 ∀ w9, Adv [] [b1] w w9 →
 R (.int .i64 2) w9)
 (
 ∀ a4, Adv [] [b1] w a4 →
 R (.int .i64 0) a4))
 (
 brB (decide ((s1.size : Int) > 512)) (
 ∀ a5, Adv [] [b1] w a5 →
 R (.int .i64 2) a5)
 (
 ∀ a6, Adv [] [b1] w a6 →
 R (.int .i64 0) a6)))))
 (
 brB (decide ((s0.size : Int) > 64)) (
 brB (decide ((s0.size : Int) > 64)) (
 ∀ a7, Adv [] [b1] w a7 →
 R (.int .i64 2) a7)
 (
 ∀ a8, Adv [] [b1] w a8 →
 R (.int .i64 0) a8))
 (
 brB (decide ((s1.size : Int) > 512)) (
 ∀ a9, Adv [] [b1] w a9 →
 R (.int .i64 2) a9)
 (
 ∀ b0, Adv [] [b1] w b0 →
 R (.int .i64 0) b0)))))
 (
 brB B1 (
 brB (!B0) (
 ∀ b2, Adv [] [b1] w b2 →
 R (.int .i64 30) b2)
 (
 brB (!(s1.toList == (⟨#[]⟩ : BA).toList)) (
 ∀ b3, Adv [] [b1] w b3 →
 R (.int .i64 30) b3)
 (
 brB (decide ((s0.size : Int) > 64)) (
 brB (decide ((s0.size : Int) > 64)) (
 ∀ b4, Adv [] [b1] w b4 →
 R (.int .i64 2) b4)
 (
 ∀ b5, Adv [] [b1] w b5 →
 R (.int .i64 0) b5))
 (
 brB (decide ((s1.size : Int) > 512)) (
 ∀ b6, Adv [] [b1] w b6 →
 R (.int .i64 2) b6)
 (
 ∀ b7, Adv [] [b1] w b7 →
 R (.int .i64 0) b7)))))
 (
 brB (decide ((s0.size : Int) > 64)) (
 brB (decide ((s0.size : Int) > 64)) (
 ∀ b8, Adv [] [b1] w b8 →
 R (.int .i64 2) b8)
 (
 ∀ b9, Adv [] [b1] w b9 →
 R (.int .i64 0) b9))
 (
 brB (decide ((s1.size : Int) > 512)) (
 ∀ c0, Adv [] [b1] w c0 →
 R (.int .i64 2) c0)
 (
 ∀ c1, Adv [] [b1] w c1 →
 R (.int .i64 0) c1))))) :
 CR pP 119 #[(.agg (Z5 B0 s0 B1 s1))] w R :=
 yaA Tryz.wide_mixed (an := []) Tryz.func119 rfl rfl (by kernel_rfl) rfl (Eq.mpr (by kernel_rfl) h)
theorem yMo (h :
 ∀ b1, w.heap.size ≤ b1 →
 brB B1 (
 ∀ w2, Adv [] [b1] w w2 →
 R (.int .u8 (IntKind.wrap .u8 ((IntKind.wrap .u8 (0 + 2)) + 1))) w2)
 (
 brB B0 (
 ∀ w3, Adv [] [b1] w w3 →
 R (.int .u8 (IntKind.wrap .u8 (0 + 1))) w3)
 (
 ∀ w4, Adv [] [b1] w w4 →
 R (.int .u8 0) w4))) :
 CR pP 147 #[(.agg (Z5 B0 s0 B1 s1))] w R :=
 yaA Tryz.wide_mixed (an := []) Tryz.func147 rfl rfl (by kernel_rfl) rfl (Eq.mpr (by kernel_rfl) h)
theorem yMp (h :
 brB (decide (i0 ≥ 0)) (
 R (.bool (decide (i0 ≤ 1099511627776))) w)
 (
 R (.bool false) w)) :
 CR pP 91 #[.int .i64 i0] w R :=
 yaA Tryz.wide_mixed (an := []) Tryz.func91 rfl rfl (by kernel_rfl) rfl (Eq.mpr (by kernel_rfl) h)
theorem yMq (h :
 ∀ b1, w.heap.size ≤ b1 →
 brB (!B0) (
 brB (decide ((s0.size : Int) > 0)) (
 ∀ w2, Adv [] [b1] w w2 →
 R (.int .i64 30) w2)
 (
 brB B1 (
 brB (!B0) (
 ∀ w3, Adv [] [b1] w w3 →
 R (.int .i64 30) w3)
 (
 brB B1 (
 brB (decide ((s1.size : Int) > 0)) (
 ∀ w4, Adv [] [b1] w w4 →
 R (.int .i64 30) w4)
 (
 brB (decide ((s0.size : Int) > 64)) (
 ∀ w5, Adv [] [b1] w w5 →
 R (.int .i64 2) w5)
 (
 brB (decide ((s1.size : Int) > 512)) (
 ∀ w6, Adv [] [b1] w w6 →
 R (.int .i64 2) w6)
 (
 ∀ w7, Adv [] [b1] w w7 →
 R (.int .i64 0) w7))))
 (
 brB (decide ((s0.size : Int) > 64)) (
 ∀ w8, Adv [] [b1] w w8 →
 R (.int .i64 2) w8)
 (
 brB (decide ((s1.size : Int) > 512)) (
 ∀ w9, Adv [] [b1] w w9 →
 R (.int .i64 2) w9)
 (
 ∀ a4, Adv [] [b1] w a4 →
 R (.int .i64 0) a4)))))
 (
 brB B1 (
 brB (decide ((s1.size : Int) > 0)) (
 ∀ a5, Adv [] [b1] w a5 →
 R (.int .i64 30) a5)
 (
 brB (decide ((s0.size : Int) > 64)) (
 ∀ a6, Adv [] [b1] w a6 →
 R (.int .i64 2) a6)
 (
 brB (decide ((s1.size : Int) > 512)) (
 ∀ a7, Adv [] [b1] w a7 →
 R (.int .i64 2) a7)
 (
 ∀ a8, Adv [] [b1] w a8 →
 R (.int .i64 0) a8))))
 (
 brB (decide ((s0.size : Int) > 64)) (
 ∀ a9, Adv [] [b1] w a9 →
 R (.int .i64 2) a9)
 (
 brB (decide ((s1.size : Int) > 512)) (
 ∀ b0, Adv [] [b1] w b0 →
 R (.int .i64 2) b0)
 (
 ∀ b2, Adv [] [b1] w b2 →
 R (.int .i64 0) b2))))))
 (
 brB B1 (
 brB (!B0) (
 ∀ b3, Adv [] [b1] w b3 →
 R (.int .i64 30) b3)
 (
 brB B1 (
 brB (decide ((s1.size : Int) > 0)) (
 ∀ b4, Adv [] [b1] w b4 →
 R (.int .i64 30) b4)
 (
 brB (decide ((s0.size : Int) > 64)) (
 ∀ b5, Adv [] [b1] w b5 →
 R (.int .i64 2) b5)
 (
 brB (decide ((s1.size : Int) > 512)) (
 ∀ b6, Adv [] [b1] w b6 →
 R (.int .i64 2) b6)
 (
 ∀ b7, Adv [] [b1] w b7 →
 R (.int .i64 0) b7))))
 (
 brB (decide ((s0.size : Int) > 64)) (
 ∀ b8, Adv [] [b1] w b8 →
 R (.int .i64 2) b8)
 (
 brB (decide ((s1.size : Int) > 512)) (
 ∀ b9, Adv [] [b1] w b9 →
 R (.int .i64 2) b9)
 (
 ∀ c0, Adv [] [b1] w c0 →
 R (.int .i64 0) c0)))))
 (
 brB B1 (
 brB (decide ((s1.size : Int) > 0)) (
 ∀ c1, Adv [] [b1] w c1 →
 R (.int .i64 30) c1)
 (
 brB (decide ((s0.size : Int) > 64)) (
 ∀ c2, Adv [] [b1] w c2 →
 R (.int .i64 2) c2)
 (
 brB (decide ((s1.size : Int) > 512)) (
 ∀ c3, Adv [] [b1] w c3 →
 R (.int .i64 2) c3)
 (
 ∀ c4, Adv [] [b1] w c4 →
 R (.int .i64 0) c4))))
 (
 brB (decide ((s0.size : Int) > 64)) (
 ∀ c5, Adv [] [b1] w c5 →
 R (.int .i64 2) c5)
 (
 brB (decide ((s1.size : Int) > 512)) (
 ∀ c6, Adv [] [b1] w c6 →
 R (.int .i64 2) c6)
 (
 ∀ c7, Adv [] [b1] w c7 →
 R (.int .i64 0) c7)))))) :
 CR pP 133 #[(.agg (Z5 B0 s0 B1 s1))] w R :=
 yaA Tryz.wide_mixed (an := []) Tryz.func133 rfl rfl (by kernel_rfl) rfl (Eq.mpr (by kernel_rfl) h)
def yAw : LA := ⟨[0, 0, 1, 0, 1, 1], [0, 3], [], 0, []⟩
def yDO : List LA := [yAw]
abbrev yMP := dnF pP yDO (code Tryz.f134)
abbrev yN1 := yaO pP yDO (code Tryz.f134)
abbrev yMQ (p : List Nat) (K : List Kh) (R : VWP) := yaO pP yDO (code Tryz.f134) p K (ya7 pP Tryz.f134 [] R)
def yjN (a0 : BA) : Int → List Value × List TB := fun a1 => ([.string a0, .int .i64 a1], [])
abbrev yq1 (a0 : BA) (I : Nat → Int → World → Prop) (m : Nat) : Kh := KG (yjN a0) (U1 I) m
theorem yDP {I : Nat → Int → World → Prop} (m' : Nat) (h1 : m' < m) (h2 : I m' i0 w) : KS (yq1 s0 I m) (yjN s0 i0) w := ⟨m', h1, _, rfl, rfl, h2⟩
theorem yDQ (I : Nat → Int → World → Prop) (m0 : Nat) (h0 : I m0 i0 w0)
 (hr : ∀ m a1 w, I m a1 w →
 brB (decide (a1 < (s0.size : Int))) (
 ixS s0 a1 fun x1 =>
 brB (decide (x1 ≥ 97)) (
 brB (decide (x1 ≤ 122)) (
 KS (yq1 s0 I m) (yjN s0 (IntKind.wrap .i64 (a1 + 1))) w)
 (
 brB (decide (x1 ≥ 48)) (
 brB (decide (x1 ≤ 57)) (
 KS (yq1 s0 I m) (yjN s0 (IntKind.wrap .i64 (a1 + 1))) w)
 (
 brB (!(x1 == 45)) (
 R (.bool false) w)
 (
 KS (yq1 s0 I m) (yjN s0 (IntKind.wrap .i64 (a1 + 1))) w)))
 (
 brB (!(x1 == 45)) (
 R (.bool false) w)
 (
 KS (yq1 s0 I m) (yjN s0 (IntKind.wrap .i64 (a1 + 1))) w))))
 (
 brB (decide (x1 ≥ 48)) (
 brB (decide (x1 ≤ 57)) (
 KS (yq1 s0 I m) (yjN s0 (IntKind.wrap .i64 (a1 + 1))) w)
 (
 brB (!(x1 == 45)) (
 R (.bool false) w)
 (
 KS (yq1 s0 I m) (yjN s0 (IntKind.wrap .i64 (a1 + 1))) w)))
 (
 brB (!(x1 == 45)) (
 R (.bool false) w)
 (
 KS (yq1 s0 I m) (yjN s0 (IntKind.wrap .i64 (a1 + 1))) w))))
 (
 R (.bool true) w)) :
 yaJ yAw (yMP 396 [0, 0, 1, 0, 1, 1]) (yMQ [1, 1, 0, 1, 0] [] R) (yjN s0 i0) w0 :=
 lrule (yjN s0) (U1 I) h0 (by rintro m a1 w h; exact ⟨by kernel_rfl, by kernel_rfl, fun js => Eq.mpr (by kernel_rfl) (hr m a1 w h)⟩)
theorem yMr (h :
 brB (decide ((s0.size : Int) < 1)) (
 R (.bool false) w)
 (
 brB (decide ((s0.size : Int) > 16)) (
 R (.bool false) w)
 (
 yaJ yAw (yMP 396 [0, 0, 1, 0, 1, 1]) (yMQ [1, 1, 0, 1, 0] [] R) (yjN s0 0) w))) :
 CR pP 134 #[.string s0] w R :=
 yaA Tryz.wide_mixed (an := yDO) Tryz.func134 rfl rfl (by kernel_rfl) rfl (Eq.mpr (by kernel_rfl) h)
def yAx : LA := ⟨[0, 0, 1, 0, 1, 1], [0, 1, 5], [], 0, []⟩
def yDR : List LA := [yAx]
abbrev yMR := dnF pP yDR (code Tryz.f61)
abbrev yN2 := yaO pP yDR (code Tryz.f61)
abbrev yMS (p : List Nat) (K : List Kh) (R : VWP) := yaO pP yDR (code Tryz.f61) p K (ya7 pP Tryz.f61 [] R)
def yxR (a0 : OA) (a4 a2 : Nat) (a1 : OA) (a5 a3 : Nat) : Int → List Value × List TB := fun a6 => ([.slice a0 a4 a2, .slice a1 a5 a3, .int .i64 a6], [])
abbrev yI2 (a0 : OA) (a4 a2 : Nat) (a1 : OA) (a5 a3 : Nat) (I : Nat → Int → World → Prop) (m : Nat) : Kh := KG (yxR a0 a4 a2 a1 a5 a3) (U1 I) m
theorem yDS {I : Nat → Int → World → Prop} (m' : Nat) (h1 : m' < m) (h2 : I m' i0 w) : KS (yI2 q0 n0 n1 q1 n2 n3 I m) (yxR q0 n0 n1 q1 n2 n3 i0) w := ⟨m', h1, _, rfl, rfl, h2⟩
theorem yDT {a2 : OA} {a3 : OA} (I : Nat → Int → World → Prop) (m0 : Nat) (h0 : I m0 i0 w0)
 (hr : ∀ m a0 w, I m a0 w →
 brB (decide (a0 < (n0 : Int))) (
 ixA a2 n0 a0 5 fun q1 =>
 yaF .i64 w q1 fun x2 => ya1 w (Addr.add q1 1) fun t3 => yaT w (Addr.add q1 2) fun s4 => ya1 w (Addr.add q1 3) fun t5 => yaT w (Addr.add q1 4) fun s6 =>
 ixA a3 n2 a0 5 fun q7 =>
 yaF .i64 w q7 fun x8 => ya1 w (Addr.add q7 1) fun t9 => yaT w (Addr.add q7 2) fun a8 => ya1 w (Addr.add q7 3) fun b0 => yaT w (Addr.add q7 4) fun a9 =>
 ∃ b1, (∀ w', Mod [] w w' → Sem.run pP (do eqGuard .neq 101 (.tmp 20) (.tmp 24) (.agg (Z6 x2 t3 s4 t5 s6)) (.agg (Z6 x8 t9 a8 b0 a9)); Go.binOp .neq 101 (.agg (Z6 x2 t3 s4 t5 s6)) (.agg (Z6 x8 t9 a8 b0 a9))) w' = .ok (.bool b1) w') ∧
 brB b1 (
 ∀ b2, Adv [] [] w b2 →
 R (.bool false) b2)
 (
 ∀ b3, Adv [] [] w b3 →
 KS (yI2 a2 n0 n1 a3 n2 n3 I m) (yxR a2 n0 n1 a3 n2 n3 (IntKind.wrap .i64 (a0 + 1))) b3))
 (
 R (.bool true) w)) :
 yaJ yAx (yMR 396 [0, 0, 1, 0, 1, 1]) (yMS [1, 1, 0, 1, 0] [] R) (yxR a2 n0 n1 a3 n2 n3 i0) w0 :=
 lrule (yxR a2 n0 n1 a3 n2 n3) (U1 I) h0 (by rintro m a0 w h; exact ⟨by kernel_rfl, by kernel_rfl, fun js => Eq.mpr (by kernel_rfl) (hr m a0 w h)⟩)
theorem yMs (h :
 brB ((n0 : Int) != (n2 : Int)) (
 R (.bool false) w)
 (
 yaJ yAx (yMR 396 [0, 0, 1, 0, 1, 1]) (yMS [1, 1, 0, 1, 0] [] R) (yxR q0 n0 n1 q1 n2 n3 0) w)) :
 CR pP 61 #[.slice q0 n0 n1, .slice q1 n2 n3] w R :=
 yaA Tryz.wide_mixed (an := yDR) Tryz.func61 rfl rfl (by kernel_rfl) rfl (Eq.mpr (by kernel_rfl) h)
def yAy : LA := ⟨[0, 0, 1, 0, 1, 1], [0, 1, 5], [], 0, []⟩
def yDU : List LA := [yAy]
abbrev yMT := dnF pP yDU (code Tryz.f62)
abbrev yN3 := yaO pP yDU (code Tryz.f62)
abbrev yMU (p : List Nat) (K : List Kh) (R : VWP) := yaO pP yDU (code Tryz.f62) p K (ya7 pP Tryz.f62 [] R)
def yxS (a0 : OA) (a4 a2 : Nat) (a1 : OA) (a5 a3 : Nat) : Int → List Value × List TB := fun a6 => ([.slice a0 a4 a2, .slice a1 a5 a3, .int .i64 a6], [])
abbrev yI3 (a0 : OA) (a4 a2 : Nat) (a1 : OA) (a5 a3 : Nat) (I : Nat → Int → World → Prop) (m : Nat) : Kh := KG (yxS a0 a4 a2 a1 a5 a3) (U1 I) m
theorem yDV {I : Nat → Int → World → Prop} (m' : Nat) (h1 : m' < m) (h2 : I m' i0 w) : KS (yI3 q0 n0 n1 q1 n2 n3 I m) (yxS q0 n0 n1 q1 n2 n3 i0) w := ⟨m', h1, _, rfl, rfl, h2⟩
theorem yDW {a2 : OA} {a3 : OA} (I : Nat → Int → World → Prop) (m0 : Nat) (h0 : I m0 i0 w0)
 (hr : ∀ m a0 w, I m a0 w →
 brB (decide (a0 < (n0 : Int))) (
 ixA a2 n0 a0 2 fun q1 =>
 yaT w q1 fun s2 => yaF .i64 w (Addr.add q1 1) fun x3 =>
 ixA a3 n2 a0 2 fun q4 =>
 yaT w q4 fun s5 => yaF .i64 w (Addr.add q4 1) fun x6 =>
 ∃ t7, (∀ w', Mod [] w w' → Sem.run pP (do eqGuard .neq 42 (.tmp 20) (.tmp 24) (.agg #[.string s2, .int .i64 x3]) (.agg #[.string s5, .int .i64 x6]); Go.binOp .neq 42 (.agg #[.string s2, .int .i64 x3]) (.agg #[.string s5, .int .i64 x6])) w' = .ok (.bool t7) w') ∧
 brB t7 (
 ∀ w8, Adv [] [] w w8 →
 R (.bool false) w8)
 (
 ∀ w9, Adv [] [] w w9 →
 KS (yI3 a2 n0 n1 a3 n2 n3 I m) (yxS a2 n0 n1 a3 n2 n3 (IntKind.wrap .i64 (a0 + 1))) w9))
 (
 R (.bool true) w)) :
 yaJ yAy (yMT 396 [0, 0, 1, 0, 1, 1]) (yMU [1, 1, 0, 1, 0] [] R) (yxS a2 n0 n1 a3 n2 n3 i0) w0 :=
 lrule (yxS a2 n0 n1 a3 n2 n3) (U1 I) h0 (by rintro m a0 w h; exact ⟨by kernel_rfl, by kernel_rfl, fun js => Eq.mpr (by kernel_rfl) (hr m a0 w h)⟩)
theorem yMt (h :
 brB ((n0 : Int) != (n2 : Int)) (
 R (.bool false) w)
 (
 yaJ yAy (yMT 396 [0, 0, 1, 0, 1, 1]) (yMU [1, 1, 0, 1, 0] [] R) (yxS q0 n0 n1 q1 n2 n3 0) w)) :
 CR pP 62 #[.slice q0 n0 n1, .slice q1 n2 n3] w R :=
 yaA Tryz.wide_mixed (an := yDU) Tryz.func62 rfl rfl (by kernel_rfl) rfl (Eq.mpr (by kernel_rfl) h)
theorem yMu (h :
 ∀ b1, w.heap.size ≤ b1 →
 ∀ b2, w.heap.size ≤ b2 →
 brB (i0 == i4) (
 brB (i1 == i5) (
 brB (i2 == i6) (
 brB (i3 == i7) (
 ∀ w3, Adv [] [b2, b1] w w3 →
 Calls pP 61 #[.slice q0 n0 n1, .slice q2 n4 n5] w3 fun e w4 => ∃ t5, e = .returned (.bool t5) ∧ yaD [b1, b2] w3 w4 ∧
 brB t5 (
 Calls pP 62 #[.slice q1 n2 n3, .slice q3 n6 n7] w4 fun e w6 => ∃ t7, e = .returned (.bool t7) ∧ yaD [b1, b2] w4 w6 ∧
 R (.bool t7) w6)
 (
 R (.bool false) w4))
 (
 ∀ w8, Adv [] [b2, b1] w w8 →
 R (.bool false) w8))
 (
 ∀ w9, Adv [] [b2, b1] w w9 →
 R (.bool false) w9))
 (
 ∀ c2, Adv [] [b2, b1] w c2 →
 R (.bool false) c2))
 (
 ∀ c3, Adv [] [b2, b1] w c3 →
 R (.bool false) c3)) :
 CR pP 39 #[(.agg (Z3 i0 i1 i2 i3 q0 n0 n1 q1 n2 n3)), (.agg (Z3 i4 i5 i6 i7 q2 n4 n5 q3 n6 n7))] w R :=
 yaA Tryz.wide_mixed (an := []) Tryz.func39 rfl rfl (by kernel_rfl) rfl (Eq.mpr (by kernel_rfl) h)
theorem yMv {a0 : BA} (h :
 brB (!(a0.toList == (⟨#[]⟩ : BA).toList)) (
 brB (decide ((a0.size : Int) ≤ 16)) (
 Calls pP 146 #[.string a0, (.func (.func 145) #[] #[])] w fun e w1 => ∃ t2, e = .returned (.bool t2) ∧
 R (.bool (!t2)) w1)
 (
 R (.bool false) w))
 (
 R (.bool false) w)) :
 CR pP 120 #[.string a0] w R :=
 yaA Tryz.wide_mixed (an := []) Tryz.func120 rfl rfl (by kernel_rfl) rfl (Eq.mpr (by kernel_rfl) h)
theorem yI4 (h :
 brB (decide (i0 < 97)) (
 brB (decide (i0 < 48)) (
 R (.bool (i0 != 45)) w)
 (
 brB (decide (i0 > 57)) (
 R (.bool (i0 != 45)) w)
 (
 R (.bool false) w)))
 (
 brB (decide (i0 > 122)) (
 brB (decide (i0 < 48)) (
 R (.bool (i0 != 45)) w)
 (
 brB (decide (i0 > 57)) (
 R (.bool (i0 != 45)) w)
 (
 R (.bool false) w)))
 (
 R (.bool false) w))) :
 CR pP 145 #[.int .i32 i0] w R :=
 yaA Tryz.wide_mixed (an := []) Tryz.func145 rfl rfl (by kernel_rfl) rfl (Eq.mpr (by kernel_rfl) h)
def yiC : LA := ⟨[1, 1], [1, 3], [(1, 0, 0)], 1, []⟩
def ysR : LA := ⟨[0, 0, 1, 0, 1, 1, 1], [1, 3, 4, 28, 29, 30], [(1, 0, 0)], 1, []⟩
def yn5 : LA := ⟨[0, 0, 1, 0, 1, 1, 1, 1], [1, 3, 4, 49, 50, 51], [(1, 0, 0)], 1, []⟩
def yuZ : List LA := [yiC, ysR, yn5]
abbrev ylP := dnF pP yuZ (code Tryz.f79)
abbrev yMw := yaO pP yuZ (code Tryz.f79)
abbrev yn6 (p : List Nat) (K : List Kh) (R : VWP) := yaO pP yuZ (code Tryz.f79) p K (ya7 pP Tryz.f79 [] R)
def yl4 : Bool × Nat × Int × Int × Int × Int × (Option Addr) × Nat × Nat × (Option Addr) × Nat × Nat → List Value × List TB := fun (b0, bm0, a6, a7, a8, a9, a0, a4, a2, a1, a5, a3) => ([(.pointer (some ⟨bm0, 0, none⟩)), .bool b0], [⟨bm0, 35, [.int .i64 a6, .int .i64 a7, .int .i64 a8, .int .i64 a9, .slice a0 a4 a2, .slice a1 a5 a3], false⟩])
def yhU (b0 : OA) (b2 b1 : Nat) (b3 : Int) (bm0 : Nat) (a6 a7 a8 a9 : Int) (a0 : OA) (a4 a2 : Nat) (a1 : OA) (a5 a3 : Nat) : Bool × Bool × Int → List Value × List TB := fun (b5, b6, b4) => ([(.pointer (some ⟨bm0, 0, none⟩)), .bool b5, .bool b6, .slice b0 b2 b1, .int .i64 b3, .int .i64 b4], [⟨bm0, 35, [.int .i64 a6, .int .i64 a7, .int .i64 a8, .int .i64 a9, .slice a0 a4 a2, .slice a1 a5 a3], false⟩])
def ygV (b0 : OA) (b2 b1 : Nat) (b3 : Int) (bm0 : Nat) (a6 a7 a8 a9 : Int) (a0 : OA) (a4 a2 : Nat) (a1 : OA) (a5 a3 : Nat) : Bool × Bool × Int → List Value × List TB := fun (b5, b6, b4) => ([(.pointer (some ⟨bm0, 0, none⟩)), .bool b5, .bool b6, .slice b0 b2 b1, .int .i64 b3, .int .i64 b4], [⟨bm0, 35, [.int .i64 a6, .int .i64 a7, .int .i64 a8, .int .i64 a9, .slice a0 a4 a2, .slice a1 a5 a3], false⟩])
def yFa (b0 : Bool) (bm0 : Nat) (a6 a7 a8 a9 : Int) (a1 : OA) (a0 a2 : Nat) (a3 : OA) (a5 a4 : Nat) (R : VWP) (w : World) : Prop :=
 yaJ ysR (ylP 395 [0, 0, 1, 0, 1, 1, 1]) (yn6 [1, 1, 1, 0, 1, 0] [] R) (yhU a1 a0 a2 (a0 : Int) bm0 a6 a7 a8 a9 a1 a0 a2 a3 a5 a4 (b0, false, 0)) w
theorem yjV (J : Bool → Nat → Int → Int → Int → Int → Option Addr → Nat → Nat → Option Addr → Nat → Nat → World → Prop) (h0 : J B0 n0 i0 i1 i2 i3 q0 n1 n2 q1 n3 n4 w0)
 (hr : ∀ c0 bm0 a6 a7 a8 a9 a0 a4 a2 a1 a5 a3 w, J c0 bm0 a6 a7 a8 a9 a0 a4 a2 a1 a5 a3 w → yFa c0 bm0 a6 a7 a8 a9 a0 a4 a2 a1 a5 a3 R w) :
 yaR yiC ((ylP 398 [1, 1]) (yn6 [1] [] R)) (yl4 (B0, n0, i0, i1, i2, i3, q0, n1, n2, q1, n3, n4)) w0 :=
 crule (yl4) (V12 J) h0 (by rintro ⟨c0, bm0, a6, a7, a8, a9, a0, a4, a2, a1, a5, a3⟩ w h; exact ⟨by kernel_rfl, by kernel_rfl, fun js => Eq.mpr (by kernel_rfl) (hr c0 bm0 a6 a7 a8 a9 a0 a4 a2 a1 a5 a3 w h)⟩)
abbrev yq2 (b0 : OA) (b2 b1 : Nat) (b3 : Int) (bm0 : Nat) (a6 a7 a8 a9 : Int) (a0 : OA) (a4 a2 : Nat) (a1 : OA) (a5 a3 : Nat) (I : Nat → Bool → Bool → Int → World → Prop) (m : Nat) : Kh := KG (yhU b0 b2 b1 b3 bm0 a6 a7 a8 a9 a0 a4 a2 a1 a5 a3) (U3 I) m
theorem yhV {I : Nat → Bool → Bool → Int → World → Prop} (m' : Nat) (h1 : m' < m) (h2 : I m' B0 B1 i5 w) : KS (yq2 q0 n0 n1 i0 n2 i1 i2 i3 i4 q1 n3 n4 q2 n5 n6 I m) (yhU q0 n0 n1 i0 n2 i1 i2 i3 i4 q1 n3 n4 q2 n5 n6 (B0, B1, i5)) w := ⟨m', h1, _, rfl, rfl, h2⟩
theorem yAz (I : Nat → Bool → Bool → Int → World → Prop) (m0 : Nat) (h0 : I m0 B0 B1 i5 w0)
 (hr : ∀ m b8 b6 b4 w, I m b8 b6 b4 w →
 brB (decide (b4 < i0)) (
 ixA q0 n0 b4 5 fun b7 =>
 yaF .i64 w b7 fun d5 => ya1 w (Addr.add b7 1) fun c8 => yaT w (Addr.add b7 2) fun c6 => ya1 w (Addr.add b7 3) fun c9 => yaT w (Addr.add b7 4) fun c7 =>
 ∀ b5, w.heap.size ≤ b5 →
 brB b8 (
 ∀ c4, Adv [] [b5] w c4 →
 Calls pP 118 #[.int .i64 d5] c4 fun e b9 => ∃ c1, e = .returned (.bool c1) ∧ yaD [n2, b5] c4 b9 ∧
 brB b6 (
 KS (yq2 q0 n0 n1 i0 n2 i1 i2 i3 i4 q1 n3 n4 q2 n5 n6 I m) (yhU q0 n0 n1 i0 n2 i1 i2 i3 i4 q1 n3 n4 q2 n5 n6 (c1, true, (IntKind.wrap .i64 (b4 + 1)))) b9)
 (
 Calls pP 119 #[(.agg (Z5 c8 c6 c9 c7))] b9 fun e d0 => ∃ d3, e = .returned (.int .i64 d3) ∧ yaD [n2, b5] b9 d0 ∧
 KS (yq2 q0 n0 n1 i0 n2 i1 i2 i3 i4 q1 n3 n4 q2 n5 n6 I m) (yhU q0 n0 n1 i0 n2 i1 i2 i3 i4 q1 n3 n4 q2 n5 n6 (c1, (d3 != 0), (IntKind.wrap .i64 (b4 + 1)))) d0))
 (
 brB b6 (
 ∀ d1, Adv [] [b5] w d1 →
 KS (yq2 q0 n0 n1 i0 n2 i1 i2 i3 i4 q1 n3 n4 q2 n5 n6 I m) (yhU q0 n0 n1 i0 n2 i1 i2 i3 i4 q1 n3 n4 q2 n5 n6 (false, true, (IntKind.wrap .i64 (b4 + 1)))) d1)
 (
 ∀ c5, Adv [] [b5] w c5 →
 Calls pP 119 #[(.agg (Z5 c8 c6 c9 c7))] c5 fun e d2 => ∃ d4, e = .returned (.int .i64 d4) ∧ yaD [n2, b5] c5 d2 ∧
 KS (yq2 q0 n0 n1 i0 n2 i1 i2 i3 i4 q1 n3 n4 q2 n5 n6 I m) (yhU q0 n0 n1 i0 n2 i1 i2 i3 i4 q1 n3 n4 q2 n5 n6 (false, (d4 != 0), (IntKind.wrap .i64 (b4 + 1)))) d2)))
 (
 yaJ yn5 (ylP 394 [0, 0, 1, 0, 1, 1, 1, 1]) (yn6 [1, 1, 1, 1, 0, 1, 0] [] R) (ygV q2 n5 n6 (n5 : Int) n2 i1 i2 i3 i4 q1 n3 n4 q2 n5 n6 (b8, b6, 0)) w)) :
 yaJ ysR (ylP 395 [0, 0, 1, 0, 1, 1, 1]) (yn6 [1, 1, 1, 0, 1, 0] [] R) (yhU q0 n0 n1 i0 n2 i1 i2 i3 i4 q1 n3 n4 q2 n5 n6 (B0, B1, i5)) w0 :=
 lrule (yhU q0 n0 n1 i0 n2 i1 i2 i3 i4 q1 n3 n4 q2 n5 n6) (U3 I) h0 (by rintro m ⟨b8, b6, b4⟩ w h; exact ⟨by kernel_rfl, by kernel_rfl, fun js => Eq.mpr (by kernel_rfl) (hr m b8 b6 b4 w h)⟩)
abbrev yq3 (b0 : OA) (b2 b1 : Nat) (b3 : Int) (bm0 : Nat) (a6 a7 a8 a9 : Int) (a0 : OA) (a4 a2 : Nat) (a1 : OA) (a5 a3 : Nat) (I : Nat → Bool → Bool → Int → World → Prop) (m : Nat) : Kh := KG (ygV b0 b2 b1 b3 bm0 a6 a7 a8 a9 a0 a4 a2 a1 a5 a3) (U3 I) m
theorem yhW {I : Nat → Bool → Bool → Int → World → Prop} (m' : Nat) (h1 : m' < m) (h2 : I m' B0 B1 i5 w) : KS (yq3 q0 n0 n1 i0 n2 i1 i2 i3 i4 q1 n3 n4 q2 n5 n6 I m) (ygV q0 n0 n1 i0 n2 i1 i2 i3 i4 q1 n3 n4 q2 n5 n6 (B0, B1, i5)) w := ⟨m', h1, _, rfl, rfl, h2⟩
theorem yAA (I : Nat → Bool → Bool → Int → World → Prop) (m0 : Nat) (h0 : I m0 B0 B1 i5 w0)
 (hr : ∀ m b7 b6 b4 w, I m b7 b6 b4 w →
 brB (decide (b4 < i0)) (
 ixA q0 n0 b4 2 fun c5 =>
 yaT w c5 fun c6 => yaF .i64 w (Addr.add c5 1) fun d2 =>
 ∀ b5, w.heap.size ≤ b5 →
 brB b7 (
 ∀ c3, Adv [] [b5] w c3 →
 Calls pP 118 #[.int .i64 d2] c3 fun e b8 => ∃ c0, e = .returned (.bool c0) ∧ yaD [n2, b5] c3 b8 ∧
 brB b6 (
 KS (yq3 q0 n0 n1 i0 n2 i1 i2 i3 i4 q1 n3 n4 q2 n5 n6 I m) (ygV q0 n0 n1 i0 n2 i1 i2 i3 i4 q1 n3 n4 q2 n5 n6 (c0, true, (IntKind.wrap .i64 (b4 + 1)))) b8)
 (
 Calls pP 120 #[.string c6] b8 fun e c9 => ∃ c7, e = .returned (.bool c7) ∧ yaD [n2, b5] b8 c9 ∧
 KS (yq3 q0 n0 n1 i0 n2 i1 i2 i3 i4 q1 n3 n4 q2 n5 n6 I m) (ygV q0 n0 n1 i0 n2 i1 i2 i3 i4 q1 n3 n4 q2 n5 n6 (c0, (!c7), (IntKind.wrap .i64 (b4 + 1)))) c9))
 (
 brB b6 (
 ∀ d0, Adv [] [b5] w d0 →
 KS (yq3 q0 n0 n1 i0 n2 i1 i2 i3 i4 q1 n3 n4 q2 n5 n6 I m) (ygV q0 n0 n1 i0 n2 i1 i2 i3 i4 q1 n3 n4 q2 n5 n6 (false, true, (IntKind.wrap .i64 (b4 + 1)))) d0)
 (
 ∀ c4, Adv [] [b5] w c4 →
 Calls pP 120 #[.string c6] c4 fun e d1 => ∃ c8, e = .returned (.bool c8) ∧ yaD [n2, b5] c4 d1 ∧
 KS (yq3 q0 n0 n1 i0 n2 i1 i2 i3 i4 q1 n3 n4 q2 n5 n6 I m) (ygV q0 n0 n1 i0 n2 i1 i2 i3 i4 q1 n3 n4 q2 n5 n6 (false, (!c8), (IntKind.wrap .i64 (b4 + 1)))) d1)))
 (
 brB (!b7) (
 R (.int .i64 1) w)
 (
 brB (decide ((n3 : Int) > 64)) (
 R (.int .i64 2) w)
 (
 brB (decide ((n5 : Int) > 64)) (
 R (.int .i64 2) w)
 (
 brB b6 (
 R (.int .i64 40) w)
 (
 R (.int .i64 0) w)))))) :
 yaJ yn5 (ylP 394 [0, 0, 1, 0, 1, 1, 1, 1]) (yn6 [1, 1, 1, 1, 0, 1, 0] [] R) (ygV q0 n0 n1 i0 n2 i1 i2 i3 i4 q1 n3 n4 q2 n5 n6 (B0, B1, i5)) w0 :=
 lrule (ygV q0 n0 n1 i0 n2 i1 i2 i3 i4 q1 n3 n4 q2 n5 n6) (U3 I) h0 (by rintro m ⟨b7, b6, b4⟩ w h; exact ⟨by kernel_rfl, by kernel_rfl, fun js => Eq.mpr (by kernel_rfl) (hr m b7 b6 b4 w h)⟩)
theorem yI5 (h :
 ∀ b1, w.heap.size ≤ b1 →
 ∀ w2, Adv [] [b1] w w2 →
 Calls pP 118 #[.int .i64 i0] w2 fun e w3 => ∃ t4, e = .returned (.bool t4) ∧ yaD [b1] w2 w3 ∧
 brB t4 (
 Calls pP 118 #[.int .i64 i1] w3 fun e w5 => ∃ t6, e = .returned (.bool t6) ∧ yaD [b1] w3 w5 ∧
 brB t6 (
 Calls pP 118 #[.int .i64 i2] w5 fun e w7 => ∃ t8, e = .returned (.bool t8) ∧ yaD [b1] w5 w7 ∧
 brB t8 (
 Calls pP 118 #[.int .i64 i3] w7 fun e w9 => ∃ b0, e = .returned (.bool b0) ∧ yaD [b1] w7 w9 ∧
 yaR yiC ((ylP 398 [1, 1]) (yn6 [1] [] R)) (yl4 (b0, b1, i0, i1, i2, i3, q0, n0, n1, q1, n2, n3)) w9)
 (
 yaR yiC ((ylP 398 [1, 1]) (yn6 [1] [] R)) (yl4 (false, b1, i0, i1, i2, i3, q0, n0, n1, q1, n2, n3)) w7))
 (
 yaR yiC ((ylP 398 [1, 1]) (yn6 [1] [] R)) (yl4 (false, b1, i0, i1, i2, i3, q0, n0, n1, q1, n2, n3)) w5))
 (
 yaR yiC ((ylP 398 [1, 1]) (yn6 [1] [] R)) (yl4 (false, b1, i0, i1, i2, i3, q0, n0, n1, q1, n2, n3)) w3)) :
 CR pP 79 #[(.agg (Z3 i0 i1 i2 i3 q0 n0 n1 q1 n2 n3))] w R :=
 yaA Tryz.wide_mixed (an := yuZ) Tryz.func79 rfl rfl (by kernel_rfl) rfl (Eq.mpr (by kernel_rfl) h)
def yiD : LA := ⟨[1, 1], [1, 3], [(1, 0, 0)], 1, []⟩
def ysS : LA := ⟨[0, 0, 1, 0, 1, 1], [1, 3, 4], [(1, 0, 0)], 1, []⟩
def yn7 : LA := ⟨[0, 0, 1, 0, 1, 1, 1], [1, 3, 5], [(1, 0, 0)], 1, []⟩
def ysT : LA := ⟨[0, 0, 1, 0, 1, 1, 1, 1, 1, 1], [1, 6], [(1, 0, 0)], 1, []⟩
def yn8 : LA := ⟨[0, 0, 1, 0, 1, 1, 1, 1, 1, 1, 1], [1, 7], [(1, 0, 0)], 1, []⟩
def yu0 : List LA := [yiD, ysS, yn7, ysT, yn8]
abbrev yg3 := dnF pP yu0 (code Tryz.f94)
abbrev yI6 := yaO pP yu0 (code Tryz.f94)
abbrev yiE (p : List Nat) (K : List Kh) (R : VWP) := yaO pP yu0 (code Tryz.f94) p K (ya7 pP Tryz.f94 [] R)
def yl5 : Bool × Nat × Int × Int × Int × Int × (Option Addr) × Nat × Nat × (Option Addr) × Nat × Nat → List Value × List TB := fun (b0, bm0, a6, a7, a8, a9, a0, a4, a2, a1, a5, a3) => ([(.pointer (some ⟨bm0, 0, none⟩)), .bool b0], [⟨bm0, 35, [.int .i64 a6, .int .i64 a7, .int .i64 a8, .int .i64 a9, .slice a0 a4 a2, .slice a1 a5 a3], false⟩])
def ykO (bm0 : Nat) (a6 a7 a8 a9 : Int) (a0 : OA) (a4 a2 : Nat) (a1 : OA) (a5 a3 : Nat) : Bool × Int → List Value × List TB := fun (b0, b1) => ([(.pointer (some ⟨bm0, 0, none⟩)), .bool b0, .int .i64 b1], [⟨bm0, 35, [.int .i64 a6, .int .i64 a7, .int .i64 a8, .int .i64 a9, .slice a0 a4 a2, .slice a1 a5 a3], false⟩])
def yjE (bm0 : Nat) (a6 a7 a8 a9 : Int) (a0 : OA) (a4 a2 : Nat) (a1 : OA) (a5 a3 : Nat) : Bool × Int → List Value × List TB := fun (b0, b1) => ([(.pointer (some ⟨bm0, 0, none⟩)), .bool b0, .int .i64 b1], [⟨bm0, 35, [.int .i64 a6, .int .i64 a7, .int .i64 a8, .int .i64 a9, .slice a0 a4 a2, .slice a1 a5 a3], false⟩])
def yl6 (bm0 : Nat) (a6 a7 a8 a9 : Int) (a0 : OA) (a4 a2 : Nat) (a1 : OA) (a5 a3 : Nat) : Int → List Value × List TB := fun b0 => ([(.pointer (some ⟨bm0, 0, none⟩)), .int .i64 b0], [⟨bm0, 35, [.int .i64 a6, .int .i64 a7, .int .i64 a8, .int .i64 a9, .slice a0 a4 a2, .slice a1 a5 a3], false⟩])
def ykP (bm0 : Nat) (a6 a7 a8 a9 : Int) (a0 : OA) (a4 a2 : Nat) (a1 : OA) (a5 a3 : Nat) : Int → List Value × List TB := fun b0 => ([(.pointer (some ⟨bm0, 0, none⟩)), .int .i64 b0], [⟨bm0, 35, [.int .i64 a6, .int .i64 a7, .int .i64 a8, .int .i64 a9, .slice a0 a4 a2, .slice a1 a5 a3], false⟩])
def yAB (b0 : Bool) (bm0 : Nat) (a6 a7 a8 a9 : Int) (a0 : OA) (a4 a2 : Nat) (a1 : OA) (a5 a3 : Nat) (R : VWP) (w : World) : Prop :=
 yaJ ysS (yg3 396 [0, 0, 1, 0, 1, 1]) (yiE [1, 1, 0, 1, 0] [] R) (ykO bm0 a6 a7 a8 a9 a0 a4 a2 a1 a5 a3 (b0, 0)) w
theorem yjW (J : Bool → Nat → Int → Int → Int → Int → Option Addr → Nat → Nat → Option Addr → Nat → Nat → World → Prop) (h0 : J B0 n0 i0 i1 i2 i3 q0 n1 n2 q1 n3 n4 w0)
 (hr : ∀ c0 bm0 a6 a7 a8 a9 a0 a4 a2 a1 a5 a3 w, J c0 bm0 a6 a7 a8 a9 a0 a4 a2 a1 a5 a3 w → yAB c0 bm0 a6 a7 a8 a9 a0 a4 a2 a1 a5 a3 R w) :
 yaR yiD ((yg3 398 [1, 1]) (yiE [1] [] R)) (yl5 (B0, n0, i0, i1, i2, i3, q0, n1, n2, q1, n3, n4)) w0 :=
 crule (yl5) (V12 J) h0 (by rintro ⟨c0, bm0, a6, a7, a8, a9, a0, a4, a2, a1, a5, a3⟩ w h; exact ⟨by kernel_rfl, by kernel_rfl, fun js => Eq.mpr (by kernel_rfl) (hr c0 bm0 a6 a7 a8 a9 a0 a4 a2 a1 a5 a3 w h)⟩)
abbrev yAC (bm0 : Nat) (a6 a7 a8 a9 : Int) (a0 : OA) (a4 a2 : Nat) (a1 : OA) (a5 a3 : Nat) (I : Nat → Bool → Int → World → Prop) (m : Nat) : Kh := KG (ykO bm0 a6 a7 a8 a9 a0 a4 a2 a1 a5 a3) (U2 I) m
theorem yq4 {I : Nat → Bool → Int → World → Prop} (m' : Nat) (h1 : m' < m) (h2 : I m' B0 i4 w) : KS (yAC n0 i0 i1 i2 i3 q0 n1 n2 q1 n3 n4 I m) (ykO n0 i0 i1 i2 i3 q0 n1 n2 q1 n3 n4 (B0, i4)) w := ⟨m', h1, _, rfl, rfl, h2⟩
theorem yAD (I : Nat → Bool → Int → World → Prop) (m0 : Nat) (h0 : I m0 B0 i4 w0)
 (hr : ∀ m b1 b0 w, I m b1 b0 w →
 brB (decide (b0 < (n1 : Int))) (
 brB b1 (
 ixA q0 n1 b0 5 fun b6 =>
 yaF .i64 w b6 fun b7 =>
 Calls pP 91 #[.int .i64 b7] w fun e b5 => ∃ b4, e = .returned (.bool b4) ∧ yaD [n0] w b5 ∧
 KS (yAC n0 i0 i1 i2 i3 q0 n1 n2 q1 n3 n4 I m) (ykO n0 i0 i1 i2 i3 q0 n1 n2 q1 n3 n4 (b4, (IntKind.wrap .i64 (b0 + 1)))) b5)
 (
 KS (yAC n0 i0 i1 i2 i3 q0 n1 n2 q1 n3 n4 I m) (ykO n0 i0 i1 i2 i3 q0 n1 n2 q1 n3 n4 (false, (IntKind.wrap .i64 (b0 + 1)))) w))
 (
 yaJ yn7 (yg3 395 [0, 0, 1, 0, 1, 1, 1]) (yiE [1, 1, 1, 0, 1, 0] [] R) (yjE n0 i0 i1 i2 i3 q0 n1 n2 q1 n3 n4 (b1, 0)) w)) :
 yaJ ysS (yg3 396 [0, 0, 1, 0, 1, 1]) (yiE [1, 1, 0, 1, 0] [] R) (ykO n0 i0 i1 i2 i3 q0 n1 n2 q1 n3 n4 (B0, i4)) w0 :=
 lrule (ykO n0 i0 i1 i2 i3 q0 n1 n2 q1 n3 n4) (U2 I) h0 (by rintro m ⟨b1, b0⟩ w h; exact ⟨by kernel_rfl, by kernel_rfl, fun js => Eq.mpr (by kernel_rfl) (hr m b1 b0 w h)⟩)
abbrev yAE (bm0 : Nat) (a6 a7 a8 a9 : Int) (a0 : OA) (a4 a2 : Nat) (a1 : OA) (a5 a3 : Nat) (I : Nat → Bool → Int → World → Prop) (m : Nat) : Kh := KG (yjE bm0 a6 a7 a8 a9 a0 a4 a2 a1 a5 a3) (U2 I) m
theorem yq5 {I : Nat → Bool → Int → World → Prop} (m' : Nat) (h1 : m' < m) (h2 : I m' B0 i4 w) : KS (yAE n0 i0 i1 i2 i3 q0 n1 n2 q1 n3 n4 I m) (yjE n0 i0 i1 i2 i3 q0 n1 n2 q1 n3 n4 (B0, i4)) w := ⟨m', h1, _, rfl, rfl, h2⟩
theorem yAF (I : Nat → Bool → Int → World → Prop) (m0 : Nat) (h0 : I m0 B0 i4 w0)
 (hr : ∀ m b1 b0 w, I m b1 b0 w →
 brB (decide (b0 < (n3 : Int))) (
 brB b1 (
 ixA q1 n3 b0 2 fun b6 =>
 yaF .i64 w (Addr.add b6 1) fun b7 =>
 Calls pP 91 #[.int .i64 b7] w fun e b5 => ∃ b4, e = .returned (.bool b4) ∧ yaD [n0] w b5 ∧
 KS (yAE n0 i0 i1 i2 i3 q0 n1 n2 q1 n3 n4 I m) (yjE n0 i0 i1 i2 i3 q0 n1 n2 q1 n3 n4 (b4, (IntKind.wrap .i64 (b0 + 1)))) b5)
 (
 KS (yAE n0 i0 i1 i2 i3 q0 n1 n2 q1 n3 n4 I m) (yjE n0 i0 i1 i2 i3 q0 n1 n2 q1 n3 n4 (false, (IntKind.wrap .i64 (b0 + 1)))) w))
 (
 brB (!b1) (
 R (.int .i64 1) w)
 (
 brB (decide ((n1 : Int) > 64)) (
 R (.int .i64 2) w)
 (
 brB (decide ((n3 : Int) > 64)) (
 R (.int .i64 2) w)
 (
 yaJ ysT (yg3 392 [0, 0, 1, 0, 1, 1, 1, 1, 1, 1]) (yiE [1, 1, 1, 1, 1, 1, 0, 1, 0] [] R) (yl6 n0 i0 i1 i2 i3 q0 n1 n2 q1 n3 n4 0) w))))) :
 yaJ yn7 (yg3 395 [0, 0, 1, 0, 1, 1, 1]) (yiE [1, 1, 1, 0, 1, 0] [] R) (yjE n0 i0 i1 i2 i3 q0 n1 n2 q1 n3 n4 (B0, i4)) w0 :=
 lrule (yjE n0 i0 i1 i2 i3 q0 n1 n2 q1 n3 n4) (U2 I) h0 (by rintro m ⟨b1, b0⟩ w h; exact ⟨by kernel_rfl, by kernel_rfl, fun js => Eq.mpr (by kernel_rfl) (hr m b1 b0 w h)⟩)
abbrev yFb (bm0 : Nat) (a6 a7 a8 a9 : Int) (a0 : OA) (a4 a2 : Nat) (a1 : OA) (a5 a3 : Nat) (I : Nat → Int → World → Prop) (m : Nat) : Kh := KG (yl6 bm0 a6 a7 a8 a9 a0 a4 a2 a1 a5 a3) (U1 I) m
theorem yAG {I : Nat → Int → World → Prop} (m' : Nat) (h1 : m' < m) (h2 : I m' i4 w) : KS (yFb n0 i0 i1 i2 i3 q0 n1 n2 q1 n3 n4 I m) (yl6 n0 i0 i1 i2 i3 q0 n1 n2 q1 n3 n4 i4) w := ⟨m', h1, _, rfl, rfl, h2⟩
theorem yAH (I : Nat → Int → World → Prop) (m0 : Nat) (h0 : I m0 i4 w0)
 (hr : ∀ m b0 w, I m b0 w →
 brB (decide (b0 < (n1 : Int))) (
 ixA q0 n1 b0 5 fun b1 =>
 ya1 w (Addr.add b1 1) fun b7 => yaT w (Addr.add (Addr.add b1 1) 1) fun b5 => ya1 w (Addr.add (Addr.add b1 1) 2) fun b8 => yaT w (Addr.add (Addr.add b1 1) 3) fun b6 =>
 Calls pP 133 #[(.agg (Z5 b7 b5 b8 b6))] w fun e b2 => ∃ b4, e = .returned (.int .i64 b4) ∧ yaD [n0] w b2 ∧
 brB (b4 != 0) (
 R (.int .i64 40) b2)
 (
 KS (yFb n0 i0 i1 i2 i3 q0 n1 n2 q1 n3 n4 I m) (yl6 n0 i0 i1 i2 i3 q0 n1 n2 q1 n3 n4 (IntKind.wrap .i64 (b0 + 1))) b2))
 (
 yaJ yn8 (yg3 391 [0, 0, 1, 0, 1, 1, 1, 1, 1, 1, 1]) (yiE [1, 1, 1, 1, 1, 1, 1, 0, 1, 0] [] R) (ykP n0 i0 i1 i2 i3 q0 n1 n2 q1 n3 n4 0) w)) :
 yaJ ysT (yg3 392 [0, 0, 1, 0, 1, 1, 1, 1, 1, 1]) (yiE [1, 1, 1, 1, 1, 1, 0, 1, 0] [] R) (yl6 n0 i0 i1 i2 i3 q0 n1 n2 q1 n3 n4 i4) w0 :=
 lrule (yl6 n0 i0 i1 i2 i3 q0 n1 n2 q1 n3 n4) (U1 I) h0 (by rintro m b0 w h; exact ⟨by kernel_rfl, by kernel_rfl, fun js => Eq.mpr (by kernel_rfl) (hr m b0 w h)⟩)
abbrev yFc (bm0 : Nat) (a6 a7 a8 a9 : Int) (a0 : OA) (a4 a2 : Nat) (a1 : OA) (a5 a3 : Nat) (I : Nat → Int → World → Prop) (m : Nat) : Kh := KG (ykP bm0 a6 a7 a8 a9 a0 a4 a2 a1 a5 a3) (U1 I) m
theorem yAI {I : Nat → Int → World → Prop} (m' : Nat) (h1 : m' < m) (h2 : I m' i4 w) : KS (yFc n0 i0 i1 i2 i3 q0 n1 n2 q1 n3 n4 I m) (ykP n0 i0 i1 i2 i3 q0 n1 n2 q1 n3 n4 i4) w := ⟨m', h1, _, rfl, rfl, h2⟩
theorem yAJ (I : Nat → Int → World → Prop) (m0 : Nat) (h0 : I m0 i4 w0)
 (hr : ∀ m b0 w, I m b0 w →
 brB (decide (b0 < (n3 : Int))) (
 ixA q1 n3 b0 2 fun b4 =>
 yaT w b4 fun b5 =>
 Calls pP 134 #[.string b5] w fun e b1 => ∃ b3, e = .returned (.bool b3) ∧ yaD [n0] w b1 ∧
 brB (!b3) (
 R (.int .i64 40) b1)
 (
 KS (yFc n0 i0 i1 i2 i3 q0 n1 n2 q1 n3 n4 I m) (ykP n0 i0 i1 i2 i3 q0 n1 n2 q1 n3 n4 (IntKind.wrap .i64 (b0 + 1))) b1))
 (
 R (.int .i64 0) w)) :
 yaJ yn8 (yg3 391 [0, 0, 1, 0, 1, 1, 1, 1, 1, 1, 1]) (yiE [1, 1, 1, 1, 1, 1, 1, 0, 1, 0] [] R) (ykP n0 i0 i1 i2 i3 q0 n1 n2 q1 n3 n4 i4) w0 :=
 lrule (ykP n0 i0 i1 i2 i3 q0 n1 n2 q1 n3 n4) (U1 I) h0 (by rintro m b0 w h; exact ⟨by kernel_rfl, by kernel_rfl, fun js => Eq.mpr (by kernel_rfl) (hr m b0 w h)⟩)
theorem yI7 (h :
 ∀ b1, w.heap.size ≤ b1 →
 ∀ w2, Adv [] [b1] w w2 →
 Calls pP 91 #[.int .i64 i0] w2 fun e w3 => ∃ t4, e = .returned (.bool t4) ∧ yaD [b1] w2 w3 ∧
 brB t4 (
 Calls pP 91 #[.int .i64 i1] w3 fun e w5 => ∃ t6, e = .returned (.bool t6) ∧ yaD [b1] w3 w5 ∧
 brB t6 (
 Calls pP 91 #[.int .i64 i2] w5 fun e w7 => ∃ t8, e = .returned (.bool t8) ∧ yaD [b1] w5 w7 ∧
 brB t8 (
 Calls pP 91 #[.int .i64 i3] w7 fun e w9 => ∃ b0, e = .returned (.bool b0) ∧ yaD [b1] w7 w9 ∧
 yaR yiD ((yg3 398 [1, 1]) (yiE [1] [] R)) (yl5 (b0, b1, i0, i1, i2, i3, q0, n0, n1, q1, n2, n3)) w9)
 (
 yaR yiD ((yg3 398 [1, 1]) (yiE [1] [] R)) (yl5 (false, b1, i0, i1, i2, i3, q0, n0, n1, q1, n2, n3)) w7))
 (
 yaR yiD ((yg3 398 [1, 1]) (yiE [1] [] R)) (yl5 (false, b1, i0, i1, i2, i3, q0, n0, n1, q1, n2, n3)) w5))
 (
 yaR yiD ((yg3 398 [1, 1]) (yiE [1] [] R)) (yl5 (false, b1, i0, i1, i2, i3, q0, n0, n1, q1, n2, n3)) w3)) :
 CR pP 94 #[(.agg (Z3 i0 i1 i2 i3 q0 n0 n1 q1 n2 n3))] w R :=
 yaA Tryz.wide_mixed (an := yu0) Tryz.func94 rfl rfl (by kernel_rfl) rfl (Eq.mpr (by kernel_rfl) h)
end
def num (n : Int) : Bool := decide (0 ≤ n ∧ n ≤ 1099511627776)
def yMV (n : Int) : Bool := decide (1 ≤ n ∧ n ≤ 1099511627776)
theorem ydC (n : Int) (w : World) : Calls pP 118 #[.int .i64 n] w fun e w' => e = .returned (.bool (num n)) ∧ w' = w :=
 yaQ (yMm (yaE (fun h => ⟨by simp [num]; omega, rfl⟩) (fun h => ⟨by simp [num]; omega, rfl⟩)))
theorem yc0 (n : Int) (w : World) : Calls pP 91 #[.int .i64 n] w fun e w' => e = .returned (.bool (num n)) ∧ w' = w :=
 yaQ (yMp (yaE (fun h => ⟨by simp [num]; omega, rfl⟩) (fun h => ⟨by simp [num]; omega, rfl⟩)))
def yIC (hk tomb : Bool) (k v : Nat) : Int :=
 if (!hk && decide (k ≠ 0)) || (tomb && (!hk || decide (v ≠ 0))) then 30 else if k > 64 ∨ v > 512 then 2 else 0
def ygF (r : PRec) : Int := yIC r.hk r.tomb r.key.size r.val.size
theorem yfH (r : PRec) (w : World) : Calls pP 119 #[r.v] w fun e w' => e = .returned (.int .i64 (ygF r)) ∧ Mod [] w w' := by
 obtain ⟨hk, key, tomb, val⟩ := r
 refine yaQ (yMn ?_)
 intro b1 f1
 have e1 : (!(key.toList == (⟨#[]⟩ : ByteArray).toList)) = decide (key.size ≠ 0) := by rw [yhS]; simp [yn3]
 have e2 : (!(val.toList == (⟨#[]⟩ : ByteArray).toList)) = decide (val.size ≠ 0) := by rw [yhS]; simp [yn3]
 rw [e1, e2]
 clear e1 e2
 unfold ygF
 generalize key.size = k
 generalize val.size = v
 repeat' (first | refine yaC (fun _ => ?_) (fun _ => ?_) | (intro w' A))
 all_goals
  refine ⟨congrArg (Value.int .i64) ?_, Adv.mod (by assumption)⟩
  unfold yIC
  cases hk <;> cases tomb <;> simp at * <;> (repeat' split) <;> omega
theorem ykQ (r : PRec) (w : World) : Calls pP 133 #[r.v] w fun e w' => e = .returned (.int .i64 (ygF r)) ∧ Mod [] w w' := by
 obtain ⟨hk, key, tomb, val⟩ := r
 refine yaQ (yMq ?_)
 intro b1 f1
 unfold ygF
 generalize key.size = k
 generalize val.size = v
 repeat' (first | refine yaC (fun _ => ?_) (fun _ => ?_) | (intro w' A))
 all_goals
  refine ⟨congrArg (Value.int .i64) ?_, Adv.mod (by assumption)⟩
  unfold yIC
  cases hk <;> cases tomb <;> simp at * <;> (repeat' split) <;> omega
def okC (c : Int) : Bool := decide (97 ≤ c ∧ c ≤ 122) || decide (48 ≤ c ∧ c ≤ 57) || decide (c = 45)
def ybR (s : ByteArray) : Bool := decide (1 ≤ s.size ∧ s.size ≤ 16) && s.data.toList.all fun b => okC b.toNat
theorem ycS {s : ByteArray} {k : Nat} (h : k < s.size) : ∃ b : UInt8, s.data.toList[k]? = some b ∧ ylV s k = b.toNat := by
 have h' : k < s.data.toList.length := by simpa using h
 exact ⟨s.data.toList[k], List.getElem?_eq_getElem h', by rw [ylV, List.getD_eq_getElem?_getD, List.getElem?_eq_getElem h']; rfl⟩
theorem yhX (s : ByteArray) (w : World) : Calls pP 134 #[.string s] w fun e w' => e = .returned (.bool (ybR s)) ∧ w' = w := by
  refine yaQ (yMr ?_)
  refine yaE (fun h => ⟨by simp [ybR]; omega, rfl⟩) fun g1 => ?_
  refine yaE (fun h => ⟨by simp [ybR]; omega, rfl⟩) fun g2 => ?_
  refine yDQ (fun mm x w' => ∃ k : Nat, x = k ∧ k ≤ s.size ∧ ((s.data.toList.take k).all fun b => okC b.toNat) = true ∧ w' = w ∧ mm = s.size - k) s.size ⟨0, rfl, by omega, by simp, rfl, rfl⟩ ?_
  rintro mm x w' ⟨k, rfl, hk, ha, rfl, rfl⟩
  refine yaE (fun hlt => ?_) fun hge => ?_
  · have hk' : k < s.size := by omega
    obtain ⟨b, hb, hv⟩ := ycS hk'
    refine ⟨by omega, by omega, ?_⟩
    rw [Int.toNat_natCast, hv]
    have bad : okC b.toNat = false → ybR s = false := fun h => by
      have : (s.data.toList.all fun b => okC b.toNat) = false := by
        rw [List.all_eq_false]
        exact ⟨b, List.mem_of_getElem? hb, by simp [h]⟩
      simp only [ybR, this, Bool.and_false]
    have good : okC b.toNat = true → ((s.data.toList.take (k + 1)).all fun b => okC b.toNat) = true := fun h => by
      rw [List.take_add_one, hb]
      simp at ha ⊢
      exact ⟨ha, h⟩
    repeat' (first | refine yaC (fun _ => ?_) (fun _ => ?_) | (intro w' A))
    all_goals first
      | (refine yDP (s.size - (k + 1)) (by omega) ⟨k + 1, by rw [yaH (by omega) (by omega)]; omega, by omega, good ?_, rfl, rfl⟩
         simp [okC] at *
         omega)
      | (refine ⟨congrArg Value.bool (bad ?_).symm, rfl⟩
         simp [okC] at *
         omega)
  · have hk : k = s.size := by omega
    subst hk
    refine ⟨?_, rfl⟩
    rw [List.take_of_length_le (by simp)] at ha
    simp only [ybR, ha, Bool.and_true]
    rw [decide_eq_true (by omega)]
theorem ydK {α : Type} {l1 l2 : List α} {k : Nat} {x : α} (ht : l1.take k = l2.take k) (h1 : l1[k]? = some x) (h2 : l2[k]? = some x) : l1.take (k + 1) = l2.take (k + 1) := by
 rw [List.take_add_one, List.take_add_one, ht, h1, h2]
theorem yAK {w : World} {a1 a2 : Option Addr} {n1 c1 n2 c2 : Nat} {l1 l2 : List PFound} (h1 : ycD w 5 ylO a1 n1 l1) (h2 : ycD w 5 ylO a2 n2 l2) (hl : l1.length ≤ 1000000) :
  Calls pP 61 #[.slice a1 n1 c1, .slice a2 n2 c2] w fun e w' => e = .returned (.bool (decide (l1 = l2))) ∧ Mod [] w w' := by
 refine yaQ (yMs ?_)
 have e1 := h1.1
 have e2 := h2.1
 refine yaC (fun h => ⟨congrArg Value.bool (decide_eq_false fun e => ?_).symm, Mod.refl _⟩) fun h => ?_
 ·subst e
  rw [e1, e2] at h
  simp at h
 have hlen : l1.length = l2.length := by
  simp at h
  omega
 refine yDT (fun mm x w' => ∃ k : Nat, x = k ∧ k ≤ l1.length ∧ l1.take k = l2.take k ∧ Mod [] w w' ∧ mm = l1.length - k) l1.length ⟨0, rfl, by omega, by simp, Mod.refl _, rfl⟩ ?_
 rintro mm x w1 ⟨k, rfl, hk, ht, M, rfl⟩
 refine yaE (fun hlt => ?_) fun hge => ?_
 ·have g1 : k < l1.length := by omega
  have g2 : k < l2.length := by omega
  obtain ⟨x, hx⟩ : ∃ x, l1[k]? = some x := ⟨_, List.getElem?_eq_getElem g1⟩
  obtain ⟨y, hy⟩ : ∃ y, l2[k]? = some y := ⟨_, List.getElem?_eq_getElem g2⟩
  refine (h1.keep0 M).ix hx fun q hq => yaB (by simpa [add_zero] using hq 0 _ rfl) (yaP (hq 1 _ rfl) (yaI (hq 2 _ rfl) (yaP (hq 3 _ rfl) (yaI (hq 4 _ rfl) ?_))))
  refine (h2.keep0 M).ix hy fun q hq => yaB (by simpa [add_zero] using hq 0 _ rfl) (yaP (hq 1 _ rfl) (yaI (hq 2 _ rfl) (yaP (hq 3 _ rfl) (yaI (hq 4 _ rfl) ?_))))
  refine ⟨_, fun w' _ => neF x y _ _ w', ?_⟩
  refine yaE (fun hne => ?_) fun heq => ?_
  ·intro w2 A2
   refine ⟨congrArg Value.bool (decide_eq_false fun e => hne ?_).symm, M.go0 A2.mod (by simp)⟩
   subst e
   rw [hx] at hy
   exact Option.some.inj hy
  ·intro w2 A2
   have he : x = y := Decidable.not_not.1 heq
   subst he
   exact yDS (l1.length - (k + 1)) (by omega) ⟨k + 1, by rw [yaH (by omega) (by omega)]; omega, by omega, ydK ht hx hy, M.go0 A2.mod (by simp), rfl⟩
 ·have hk : k = l1.length := by omega
  subst hk
  rw [List.take_length, hlen, List.take_length] at ht
  exact ⟨congrArg Value.bool (decide_eq_true ht).symm, M⟩
theorem yAL {w : World} {a1 a2 : Option Addr} {n1 c1 n2 c2 : Nat} {l1 l2 : List PPart} (h1 : ycD w 2 yn4 a1 n1 l1) (h2 : ycD w 2 yn4 a2 n2 l2) (hl : l1.length ≤ 1000000) :
  Calls pP 62 #[.slice a1 n1 c1, .slice a2 n2 c2] w fun e w' => e = .returned (.bool (decide (l1 = l2))) ∧ Mod [] w w' := by
 refine yaQ (yMt ?_)
 have e1 := h1.1
 have e2 := h2.1
 refine yaC (fun h => ⟨congrArg Value.bool (decide_eq_false fun e => ?_).symm, Mod.refl _⟩) fun h => ?_
 ·subst e
  rw [e1, e2] at h
  simp at h
 have hlen : l1.length = l2.length := by
  simp at h
  omega
 refine yDW (fun mm x w' => ∃ k : Nat, x = k ∧ k ≤ l1.length ∧ l1.take k = l2.take k ∧ Mod [] w w' ∧ mm = l1.length - k) l1.length ⟨0, rfl, by omega, by simp, Mod.refl _, rfl⟩ ?_
 rintro mm x w1 ⟨k, rfl, hk, ht, M, rfl⟩
 refine yaE (fun hlt => ?_) fun hge => ?_
 ·have g1 : k < l1.length := by omega
  have g2 : k < l2.length := by omega
  obtain ⟨x, hx⟩ : ∃ x, l1[k]? = some x := ⟨_, List.getElem?_eq_getElem g1⟩
  obtain ⟨y, hy⟩ : ∃ y, l2[k]? = some y := ⟨_, List.getElem?_eq_getElem g2⟩
  refine (h1.keep0 M).ix hx fun q hq => yaI (by simpa [add_zero] using hq 0 _ rfl) (yaB (hq 1 _ rfl) ?_)
  refine (h2.keep0 M).ix hy fun q hq => yaI (by simpa [add_zero] using hq 0 _ rfl) (yaB (hq 1 _ rfl) ?_)
  refine ⟨_, fun w' _ => neP x y _ _ w', ?_⟩
  refine yaE (fun hne => ?_) fun heq => ?_
  ·intro w2 A2
   refine ⟨congrArg Value.bool (decide_eq_false fun e => hne ?_).symm, M.go0 A2.mod (by simp)⟩
   subst e
   rw [hx] at hy
   exact Option.some.inj hy
  ·intro w2 A2
   have he : x = y := Decidable.not_not.1 heq
   subst he
   exact yDV (l1.length - (k + 1)) (by omega) ⟨k + 1, by rw [yaH (by omega) (by omega)]; omega, by omega, ydK ht hx hy, M.go0 A2.mod (by simp), rfl⟩
 ·have hk : k = l1.length := by omega
  subst hk
  rw [List.take_length, hlen, List.take_length] at ht
  exact ⟨congrArg Value.bool (decide_eq_true ht).symm, M⟩
theorem yMx (r r' : PRep) : decide (r = r') = (decide (r.e = r'.e) && decide (r.off = r'.off) && decide (r.n = r'.n) && decide (r.gen = r'.gen) && decide (r.found = r'.found) && decide (r.parts = r'.parts)) := by
 obtain ⟨a, b, c, d, e, f⟩ := r
 obtain ⟨a', b', c', d', e', f'⟩ := r'
 rw [Bool.eq_iff_iff]
 simp [and_assoc]
theorem yAM {w : World} {r r' : PRep} {f p f' p' : Sl} (h : RepAt w r f p) (h' : RepAt w r' f' p') :
  Calls pP 39 #[r.v f p, r'.v f' p'] w fun e w' => e = .returned (.bool (decide (r = r'))) ∧ Mod [] w w' := by
 rw [yMx]
 refine yaQ (yMu ?_)
 intro b1 f1 b2 f2
 refine yaC (fun g1 => ?_) (fun g1 => ?_)
 rotate_left
 ·intro w1 A1; simp at g1; exact ⟨by simp [g1], A1.mod⟩
 refine yaC (fun g2 => ?_) (fun g2 => ?_)
 rotate_left
 ·intro w1 A1; simp at g2; exact ⟨by simp [g2], A1.mod⟩
 refine yaC (fun g3 => ?_) (fun g3 => ?_)
 rotate_left
 ·intro w1 A1; simp at g3; exact ⟨by simp [g3], A1.mod⟩
 refine yaC (fun g4 => ?_) (fun g4 => ?_)
 rotate_left
 ·intro w1 A1; simp at g4; exact ⟨by simp [g4], A1.mod⟩
 simp at g1 g2 g3 g4
 intro w1 A1
 refine (yAK (h.keep0 A1.mod).found (h'.keep0 A1.mod).found h.lf).mono ?_
 rintro e w2 ⟨rfl, M2⟩
 refine ⟨_, rfl, yaD.of0 M2, ?_⟩
 have M := A1.mod.go0 M2 (by simp)
 refine yaC (fun g5 => ?_) (fun g5 => ?_)
 ·refine (yAL (h.keep0 M).parts (h'.keep0 M).parts h.lp).mono ?_
  rintro e w3 ⟨rfl, M3⟩
  refine ⟨_, rfl, yaD.of0 M3, ?_, M.go0 M3 (by simp)⟩
  simp at g5
  simp [g1, g2, g3, g4, g5]
 ·refine ⟨?_, M⟩
  simp at g5
  simp [g5]
theorem yI8 : (Tryz.prog.info? 101).map (fun i => (i.zero, i.size, i.bytes)) = some (some (.agg #[.int .i64 0, .bool false, .string ByteArray.empty, .bool false, .string ByteArray.empty]), 5, 56) := by kernel_rfl
theorem yGM : (Tryz.prog.info? 42).map (fun i => (i.zero, i.size, i.bytes)) = some (some (.agg #[.string ByteArray.empty, .int .i64 0]), 2, 24) := by kernel_rfl
theorem yu1 (x : PFound) : ∀ u ∈ ylO x, u.oneCell' = true := by simp [ylO, Value.oneCell']
theorem yn9 (x : PPart) : ∀ u ∈ yn4 x, u.oneCell' = true := by simp [yn4, Value.oneCell']
def ok0 (r : PRep) : Bool := num r.e && num r.off && num r.n && num r.gen
def okF (x : PFound) : Bool := num x.off
def yAN (x : PFound) : Bool := ygF x.r != 0
def okP (x : PPart) : Bool := num x.n
def yGN (x : PPart) : Bool := !ybR x.t
def ygP (r : PRep) : Int :=
 if (ok0 r && r.found.all okF && r.parts.all okP) = false then 1 else if r.found.length > 64 then 2 else if r.parts.length > 64 then 2 else if (r.found.any yAN || r.parts.any yGN) = true then 40 else 0
theorem ycG {α : Type} {p : α → Bool} {l : List α} {k : Nat} {x : α} (hx : l[k]? = some x) : (l.take (k + 1)).all p = ((l.take k).all p && p x) := by
 rw [List.take_add_one, hx]; simp
theorem yeL {α : Type} {p : α → Bool} {l : List α} {k : Nat} {x : α} (hx : l[k]? = some x) : (l.take (k + 1)).any p = ((l.take k).any p || p x) := by
 rw [List.take_add_one, hx]; simp
theorem yjX {b : Bool} (h : (!b) = true) : b = false := by cases b <;> simp_all
theorem yjF {b : Bool} (h : (!b) = false) : b = true := by cases b <;> simp_all
def yu2 : Prop := ∀ (s : ByteArray) (w : World), Calls pP 120 #[.string s] w fun e w' => e = .returned (.bool (ybR s)) ∧ Mod [] w w'
theorem ysU (hN : yu2) {w0 w : World} {bm : Nat} {r : PRep} {f p : Sl} (h : RepAtW w0 r f p) (M : Mod [] w0 w) (hb : bm < w.heap.size) {t3 t4 : Bool} (h3 : t3 = (ok0 r && r.found.all okF)) (h4 : t4 = r.found.any yAN) :
  yaJ yn5 (ylP 394 [0, 0, 1, 0, 1, 1, 1, 1]) (yMw [1, 1, 1, 1, 0, 1, 0] [] (ya7 pP Tryz.f79 [] fun v w' => v = .int .i64 (ygP r) ∧ Mod [] w0 w'))
   (ygV p.a p.n p.c (p.n : Int) bm r.e r.off r.n r.gen f.a f.n f.c p.a p.n p.c (t3, t4, 0)) w := by
 have e5 := h.parts.1
 have e4 := h.found.1
 have hl := h.lp
 refine yAA (fun mm t3 t4 x w' => ∃ k : Nat, x = k ∧ k ≤ r.parts.length ∧ t3 = (ok0 r && r.found.all okF && (r.parts.take k).all okP) ∧ t4 = (r.found.any yAN || (r.parts.take k).any yGN) ∧ Mod [] w0 w' ∧ mm = r.parts.length - k) r.parts.length ⟨0, rfl, by omega, by simp [h3], by simp [h4], M, rfl⟩ ?_
 rintro mm t3 t4 x w1 ⟨k, rfl, hk, rfl, rfl, M1, rfl⟩
 refine yaE (fun hlt => ?_) fun hge => ?_
 ·have g1 : k < r.parts.length := by omega
  obtain ⟨x, hx⟩ : ∃ x, r.parts[k]? = some x := ⟨_, List.getElem?_eq_getElem g1⟩
  have ek : IntKind.wrap .i64 ((k : Int) + 1) = ((k + 1 : Nat) : Int) := by rw [yaH (by omega) (by omega)]; omega
  refine (h.keep0 M1).parts.ix hx fun q hq => yaI (by simpa [add_zero] using hq 0 _ rfl) (yaB (hq 1 _ rfl) ?_)
  intro b2 f2
  refine yaC (fun g3 => ?_) (fun g3 => ?_)
  ·intro w2 A2
   refine (ydC x.n w2).mono ?_
   rintro e w3 ⟨rfl, rfl⟩
   refine ⟨_, rfl, yaD.of0 (Mod.refl _), ?_⟩
   refine yaC (fun g4 => ?_) (fun g4 => ?_)
   ·exact yhW (r.parts.length - (k + 1)) (by omega) ⟨k + 1, ek, by omega, by rw [ycG hx, ← Bool.and_assoc, g3]; rfl, by rw [yeL hx, ← Bool.or_assoc, g4]; rfl, M1.go0 A2.mod (by simp), rfl⟩
   ·refine (hN x.t w3).mono ?_
    rintro e w4 ⟨rfl, M4⟩
    refine ⟨_, rfl, yaD.of0 M4, ?_⟩
    exact yhW (r.parts.length - (k + 1)) (by omega) ⟨k + 1, ek, by omega, by rw [ycG hx, ← Bool.and_assoc, g3]; rfl, by rw [yeL hx, ← Bool.or_assoc, g4]; rfl, (M1.go0 A2.mod (by simp)).go0 M4 (by simp), rfl⟩
  ·refine yaC (fun g4 => ?_) (fun g4 => ?_)
   ·intro w2 A2
    exact yhW (r.parts.length - (k + 1)) (by omega) ⟨k + 1, ek, by omega, by rw [ycG hx, ← Bool.and_assoc, g3]; rfl, by rw [yeL hx, ← Bool.or_assoc, g4]; rfl, M1.go0 A2.mod (by simp), rfl⟩
   ·intro w2 A2
    refine (hN x.t w2).mono ?_
    rintro e w4 ⟨rfl, M4⟩
    refine ⟨_, rfl, yaD.of0 M4, ?_⟩
    exact yhW (r.parts.length - (k + 1)) (by omega) ⟨k + 1, ek, by omega, by rw [ycG hx, ← Bool.and_assoc, g3]; rfl, by rw [yeL hx, ← Bool.or_assoc, g4]; rfl, (M1.go0 A2.mod (by simp)).go0 M4 (by simp), rfl⟩
 ·have hk : k = r.parts.length := by omega
  subst hk
  rw [List.take_length]
  unfold ygP
  refine yaC (fun g1 => ⟨by rw [if_pos (yjX g1)], M1⟩) fun g1 => ?_
  rw [if_neg (by rw [yjF g1]; decide)]
  refine yaE (fun g2 => ⟨by rw [if_pos (by omega)], M1⟩) fun g2 => ?_
  rw [if_neg (by omega)]
  refine yaE (fun g3 => ⟨by rw [if_pos (by omega)], M1⟩) fun g3 => ?_
  rw [if_neg (by omega)]
  refine yaC (fun g4 => ⟨by rw [if_pos g4], M1⟩) fun g4 => ?_
  exact ⟨by rw [if_neg (by rw [g4]; decide)], M1⟩
theorem ygG (hN : yu2) {w0 w : World} {bm : Nat} {r : PRep} {f p : Sl} (h : RepAtW w0 r f p) (M : Mod [] w0 w) (hb : bm < w.heap.size) {t : Bool} (ht : t = ok0 r) :
  yFa t bm r.e r.off r.n r.gen f.a f.n f.c p.a p.n p.c (fun v w' => v = .int .i64 (ygP r) ∧ Mod [] w0 w') w := by
 have e4 := h.found.1
 have hl := h.lf
 refine yAz (fun mm t3 t4 x w' => ∃ k : Nat, x = k ∧ k ≤ r.found.length ∧ t3 = (ok0 r && (r.found.take k).all okF) ∧ t4 = (r.found.take k).any yAN ∧ Mod [] w0 w' ∧ bm < w'.heap.size ∧ mm = r.found.length - k) r.found.length ⟨0, rfl, by omega, by simp [ht], by simp, M, hb, rfl⟩ ?_
 rintro mm t3 t4 x w1 ⟨k, rfl, hk, rfl, rfl, M1, hb1, rfl⟩
 refine yaE (fun hlt => ?_) fun hge => ?_
 ·have g1 : k < r.found.length := by omega
  obtain ⟨x, hx⟩ : ∃ x, r.found[k]? = some x := ⟨_, List.getElem?_eq_getElem g1⟩
  have ek : IntKind.wrap .i64 ((k : Int) + 1) = ((k + 1 : Nat) : Int) := by rw [yaH (by omega) (by omega)]; omega
  refine (h.keep0 M1).found.ix hx fun q hq => yaB (by simpa [add_zero] using hq 0 _ rfl) (yaP (hq 1 _ rfl) (yaI (hq 2 _ rfl) (yaP (hq 3 _ rfl) (yaI (hq 4 _ rfl) ?_))))
  intro b2 f2
  have fin : ∀ {w'}, Mod [] w0 w' → w1.heap.size ≤ w'.heap.size → ∃ k' : Nat, IntKind.wrap .i64 ((k : Int) + 1) = k' ∧ k' ≤ r.found.length ∧ (ok0 r && (r.found.take k).all okF && okF x) = (ok0 r && (r.found.take k').all okF) ∧ ((r.found.take k).any yAN || yAN x) = (r.found.take k').any yAN ∧ Mod [] w0 w' ∧ bm < w'.heap.size ∧ r.found.length - (k + 1) = r.found.length - k' :=
   fun {w'} hM hs => ⟨k + 1, ek, by omega, by rw [ycG hx, ← Bool.and_assoc], by rw [yeL hx], hM, by omega, rfl⟩
  refine yaC (fun g3 => ?_) (fun g3 => ?_)
  ·intro w2 A2
   have s2 := A2.mod.size
   refine (ydC x.off w2).mono ?_
   rintro e w3 ⟨rfl, rfl⟩
   refine ⟨_, rfl, yaD.of0 (Mod.refl _), ?_⟩
   refine yaC (fun g4 => ?_) (fun g4 => ?_)
   ·have := fin (M1.go0 A2.mod (by simp)) s2
    rw [g3, g4, Bool.true_and, Bool.true_or] at this
    exact yhV (r.found.length - (k + 1)) (by omega) this
   ·refine (yfH x.r w3).mono ?_
    rintro e w4 ⟨rfl, M4⟩
    have s4 := M4.size
    refine ⟨_, rfl, yaD.of0 M4, ?_⟩
    have := fin ((M1.go0 A2.mod (by simp)).go0 M4 (by simp)) (by omega)
    rw [g3, g4, Bool.true_and, Bool.false_or] at this
    exact yhV (r.found.length - (k + 1)) (by omega) this
  ·refine yaC (fun g4 => ?_) (fun g4 => ?_)
   ·intro w2 A2
    have := fin (M1.go0 A2.mod (by simp)) A2.mod.size
    rw [g3, g4, Bool.false_and, Bool.true_or] at this
    exact yhV (r.found.length - (k + 1)) (by omega) this
   ·intro w2 A2
    have s2 := A2.mod.size
    refine (yfH x.r w2).mono ?_
    rintro e w4 ⟨rfl, M4⟩
    have s4 := M4.size
    refine ⟨_, rfl, yaD.of0 M4, ?_⟩
    have := fin ((M1.go0 A2.mod (by simp)).go0 M4 (by simp)) (by omega)
    rw [g3, g4, Bool.false_and, Bool.false_or] at this
    exact yhV (r.found.length - (k + 1)) (by omega) this
 ·have hk : k = r.found.length := by omega
  subst hk
  rw [List.take_length]
  exact ysU hN h M1 hb1 rfl rfl
theorem yAO (hN : yu2) {w : World} {r : PRep} {f p : Sl} (h : RepAtW w r f p) :
  Calls pP 79 #[r.v f p] w fun e w' => e = .returned (.int .i64 (ygP r)) ∧ Mod [] w w' := by
 refine yaQ (yI5 ?_)
 intro b1 f1 w1 A1
 have l1 := A1.lt b1 (by simp)
 refine (ydC _ _).mono ?_
 rintro e w2 ⟨rfl, rfl⟩
 refine ⟨_, rfl, yaD.of0 (Mod.refl _), yaC (fun g1 => ?_) (fun g1 => ?_)⟩
 rotate_left
 ·refine yjV (fun t bm x0 x1 x2 x3 a4 n4 c4 a5 n5 c5 w' => t = ok0 r ∧ bm < w'.heap.size ∧ x0 = r.e ∧ x1 = r.off ∧ x2 = r.n ∧ x3 = r.gen ∧ a4 = f.a ∧ n4 = f.n ∧ c4 = f.c ∧ a5 = p.a ∧ n5 = p.n ∧ c5 = p.c ∧ Mod [] w w') ⟨by simp [ok0, g1], l1, rfl, rfl, rfl, rfl, rfl, rfl, rfl, rfl, rfl, rfl, A1.mod⟩ ?_
  rintro t bm x0 x1 x2 x3 a4 n4 c4 a5 n5 c5 w' ⟨ht, hb, rfl, rfl, rfl, rfl, rfl, rfl, rfl, rfl, rfl, rfl, M⟩
  exact ygG hN h M hb ht
 refine (ydC _ _).mono ?_
 rintro e w2 ⟨rfl, rfl⟩
 refine ⟨_, rfl, yaD.of0 (Mod.refl _), yaC (fun g2 => ?_) (fun g2 => ?_)⟩
 rotate_left
 ·refine yjV (fun t bm x0 x1 x2 x3 a4 n4 c4 a5 n5 c5 w' => t = ok0 r ∧ bm < w'.heap.size ∧ x0 = r.e ∧ x1 = r.off ∧ x2 = r.n ∧ x3 = r.gen ∧ a4 = f.a ∧ n4 = f.n ∧ c4 = f.c ∧ a5 = p.a ∧ n5 = p.n ∧ c5 = p.c ∧ Mod [] w w') ⟨by simp [ok0, g2], l1, rfl, rfl, rfl, rfl, rfl, rfl, rfl, rfl, rfl, rfl, A1.mod⟩ ?_
  rintro t bm x0 x1 x2 x3 a4 n4 c4 a5 n5 c5 w' ⟨ht, hb, rfl, rfl, rfl, rfl, rfl, rfl, rfl, rfl, rfl, rfl, M⟩
  exact ygG hN h M hb ht
 refine (ydC _ _).mono ?_
 rintro e w2 ⟨rfl, rfl⟩
 refine ⟨_, rfl, yaD.of0 (Mod.refl _), yaC (fun g3 => ?_) (fun g3 => ?_)⟩
 rotate_left
 ·refine yjV (fun t bm x0 x1 x2 x3 a4 n4 c4 a5 n5 c5 w' => t = ok0 r ∧ bm < w'.heap.size ∧ x0 = r.e ∧ x1 = r.off ∧ x2 = r.n ∧ x3 = r.gen ∧ a4 = f.a ∧ n4 = f.n ∧ c4 = f.c ∧ a5 = p.a ∧ n5 = p.n ∧ c5 = p.c ∧ Mod [] w w') ⟨by simp [ok0, g3], l1, rfl, rfl, rfl, rfl, rfl, rfl, rfl, rfl, rfl, rfl, A1.mod⟩ ?_
  rintro t bm x0 x1 x2 x3 a4 n4 c4 a5 n5 c5 w' ⟨ht, hb, rfl, rfl, rfl, rfl, rfl, rfl, rfl, rfl, rfl, rfl, M⟩
  exact ygG hN h M hb ht
 refine (ydC _ _).mono ?_
 rintro e w2 ⟨rfl, rfl⟩
 refine ⟨_, rfl, yaD.of0 (Mod.refl _), ?_⟩
 refine yjV (fun t bm x0 x1 x2 x3 a4 n4 c4 a5 n5 c5 w' => t = ok0 r ∧ bm < w'.heap.size ∧ x0 = r.e ∧ x1 = r.off ∧ x2 = r.n ∧ x3 = r.gen ∧ a4 = f.a ∧ n4 = f.n ∧ c4 = f.c ∧ a5 = p.a ∧ n5 = p.n ∧ c5 = p.c ∧ Mod [] w w') ⟨by simp [ok0, g1, g2, g3], l1, rfl, rfl, rfl, rfl, rfl, rfl, rfl, rfl, rfl, rfl, A1.mod⟩ ?_
 rintro t bm x0 x1 x2 x3 a4 n4 c4 a5 n5 c5 w' ⟨ht, hb, rfl, rfl, rfl, rfl, rfl, rfl, rfl, rfl, rfl, rfl, M⟩
 exact ygG hN h M hb ht
end Go.Proofs.YtjellhflalbbmaaGreat
namespace Go.Proofs
open Go.Shelf
shelf_lay LaysGw.n17 Ggw 17 at Tryz as Tryz.layCF
end Go.Proofs
namespace Go.Proofs.YtjellhflalbbmaaGreat
open Go Go.RowKit
set_option linter.unusedVariables false
set_option linter.unusedSimpArgs false
theorem yI9 (c : Int) (w : World) : Calls pP 145 #[.int .i32 c] w fun e w' => e = .returned (.bool (!okC c)) ∧ w' = w := by
 refine yaQ (yI4 ?_)
 repeat' (first | refine yaC (fun _ => ?_) (fun _ => ?_) | (intro w' A))
 all_goals
  refine ⟨congrArg Value.bool ?_, rfl⟩
  rw [Bool.eq_iff_iff]
  simp [okC] at *
  try omega
theorem yu3 (s : ByteArray) : ∀ (f pos : Nat), s.size ≤ pos + f → (0 ≤ Lib.idxFuncFrom (fun x => !okC x) true s f pos ↔ ∃ i b, pos ≤ i ∧ s.data.toList[i]? = some b ∧ okC (b.toNat : Int) = false)
 | 0, pos, h => by
  constructor
  ·intro h; simp [Lib.idxFuncFrom] at h
  ·rintro ⟨i, b, h1, h2, _⟩
   have := (List.getElem?_eq_some_iff.1 h2).1
   simp at this; omega
 | f + 1, pos, h => by
  unfold Lib.idxFuncFrom
  split
  ·rename_i hp
   have hd : s.data.toList[pos]? = some s[pos] := by
    rw [List.getElem?_eq_getElem (by simpa using hp)]; rfl
   by_cases ha : (s[pos]).toNat < 128
   ·rw [decode_ascii s pos hp ha]
    have ih := yu3 s f (pos + 1) (by omega)
    by_cases ho : okC ((s[pos]).toNat : Int) = true
    ·simp only [ho, Bool.not_true]
     rw [if_neg (by decide), ih]
     constructor
     ·rintro ⟨i, b, h1, h2, h3⟩; exact ⟨i, b, by omega, h2, h3⟩
     ·rintro ⟨i, b, h1, h2, h3⟩
      refine ⟨i, b, ?_, h2, h3⟩
      rcases Nat.lt_or_ge pos i with h4 | h4
      ·exact h4
      ·have : i = pos := by omega
       subst this
       rw [hd] at h2; cases h2
       rw [ho] at h3; cases h3
    ·have ho' : okC ((s[pos]).toNat : Int) = false := by simpa using ho
     simp only [ho', Bool.not_false]
     rw [if_pos trivial]
     exact ⟨fun _ => ⟨pos, _, Nat.le_refl _, hd, ho'⟩, fun _ => by omega⟩
   ·have h1 := decode_high s pos hp (by omega)
    have ho : okC ((Utf8.decode s pos).1 : Int) = false := by simp [okC]; omega
    have ho' : okC ((s[pos]).toNat : Int) = false := by simp [okC]; omega
    simp only [ho, Bool.not_false]
    rw [if_pos trivial]
    exact ⟨fun _ => ⟨pos, _, Nat.le_refl _, hd, ho'⟩, fun _ => by omega⟩
  ·rename_i hp
   constructor
   ·intro h; simp at h
   ·rintro ⟨i, b, h1, h2, _⟩
    have := (List.getElem?_eq_some_iff.1 h2).1
    simp at this; omega
theorem ysV : yu2 := by
 intro s w
 refine yaQ (yMv ?_)
 rw [yhS]
 refine yaC (fun g1 => ?_) (fun g1 => ⟨?_, Mod.refl _⟩)
 rotate_left
 ·have g1 := yjF g1
  have h0 := (yn3 s).1 (of_decide_eq_true g1)
  simp [ybR, h0]
 have h1 : s.size ≠ 0 := fun e => by rw [decide_eq_true ((yn3 s).2 e)] at g1; cases g1
 refine yaE (fun g2 => ?_) (fun g2 => ⟨by simp [ybR]; omega, Mod.refl _⟩)
 have hC := Any.strings_ContainsFunc_grows Tryz.layCF 145 #[] (enters_of Tryz.func145 (by kernel_rfl) rfl) (fun x => !okC x) s w
  (fun W x _ _ => (yI9 (x : Int) W).mono fun e w' ⟨h, h'⟩ => ⟨h, by rw [h']; exact Below.refl _ _⟩)
 refine hC.mono ?_
 rintro e w1 ⟨rfl, hb⟩
 refine ⟨_, rfl, ?_, Mod.of_below hb⟩
 refine congrArg Value.bool ?_
 have ho := yu3 s s.size 0 (by omega)
 rw [Bool.eq_iff_iff]
 simp only [ybR, Bool.not_eq_true', decide_eq_false_iff_not, Bool.and_eq_true, decide_eq_true_eq, List.all_eq_true]
 unfold Lib.idxFunc
 rw [ho]
 constructor
 ·intro h
  refine ⟨by omega, fun b hb => ?_⟩
  obtain ⟨i, hi⟩ := List.getElem?_of_mem hb
  by_cases hk : okC (b.toNat : Int) = true
  ·exact hk
  ·exact absurd ⟨i, b, Nat.zero_le _, hi, by simpa using hk⟩ h
 ·rintro ⟨_, h⟩ ⟨i, b, _, hi, hk⟩
  rw [h b (List.mem_of_getElem? hi)] at hk; cases hk
end Go.Proofs.YtjellhflalbbmaaGreat
namespace Go.Proofs.YtjellhflalbbmaaGreat
open Go Go.RowKit
set_option linter.all false
section
set_option maxRecDepth 100000
variable {R : VWP} {w w0 : World} {m : Nat} {i0 i1 i2 i3 i4 i5 i6 i7 i8 i9 j0 j1 j2 j3 j4 j5 j6 j7 j8 j9 k0 k1 k2 k3 k4 k5 k6 k7 k8 k9 l0 l1 l2 l3 l4 l5 l6 l7 l8 l9 : Int} {s0 s1 s2 s3 s4 s5 s6 s7 s8 s9 t0 t1 t2 t3 t4 t5 t6 t7 t8 t9 : BA} {n0 n1 n2 n3 n4 n5 n6 n7 n8 n9 o0 o1 o2 o3 o4 o5 o6 o7 o8 o9 p0 p1 p2 p3 p4 p5 p6 p7 p8 p9 : Nat} {q0 q1 q2 q3 q4 q5 q6 q7 q8 q9 r0 r1 r2 r3 r4 r5 r6 r7 r8 r9 : OA} {B0 B1 B2 B3 B4 B5 B6 B7 B8 B9 : Bool} {M0 M1 M2 M3 : Option Nat} {V0 V1 V2 V3 V4 V5 : Value} {A0 A1 A2 : Addr}
theorem yJa {a0 : BA} (h :
 Calls pP 52 #[(.int .u64 (IntKind.wrap .u64 (a0.size : Int)))] w fun e w1 => ∃ s2, e = .returned (.string s2) ∧
 yfP s2 a0 fun s3 =>
 R (.string s3) w1) :
 CR pP 56 #[.string a0] w R :=
 yaA Tryz.wide_mixed (an := []) Tryz.func56 rfl rfl (by kernel_rfl) rfl (Eq.mpr (by kernel_rfl) h)
theorem yJb {a3 : BA} {a1 : BA} (h :
 ∀ b1, w.heap.size ≤ b1 →
 ∀ w2, Adv [] [b1] w w2 →
 Calls pP 147 #[(.agg (Z5 B0 a3 B1 a1))] w2 fun e w3 => ∃ x4, e = .returned (.int .u8 x4) ∧ yaD [b1] w2 w3 ∧
 al w3 (.cells #[.int .u8 x4] 5) fun b5 w6 =>
 ∃ s7 w8, Sem.run pP (Go.convert 104 9 (.slice (some ⟨b5, 0, none⟩) 1 1)) w6 = .ok (.string s7) w8 ∧ yaD [b1] w6 w8 ∧
 brB B0 (
 Calls pP 56 #[.string a3] w8 fun e w9 => ∃ a4, e = .returned (.string a4) ∧ yaD [b1] w8 w9 ∧
 yfP s7 a4 fun a5 =>
 brB (!B1) (
 Calls pP 56 #[.string a1] w9 fun e a8 => ∃ a6, e = .returned (.string a6) ∧ yaD [b1] w9 a8 ∧
 yfP a5 a6 fun b0 =>
 R (.string b0) a8)
 (
 R (.string a5) w9))
 (
 brB (!B1) (
 Calls pP 56 #[.string a1] w8 fun e a9 => ∃ a7, e = .returned (.string a7) ∧ yaD [b1] w8 a9 ∧
 yfP s7 a7 fun b2 =>
 R (.string b2) a9)
 (
 R (.string s7) w8))) :
 CR pP 121 #[(.agg (Z5 B0 a3 B1 a1))] w R :=
 yaA Tryz.wide_mixed (an := []) Tryz.func121 rfl rfl (by kernel_rfl) rfl (Eq.mpr (by kernel_rfl) h)
theorem yJc {a1 : BA} {a3 : BA} (h :
 ∀ b1, w.heap.size ≤ b1 →
 ∀ w2, Adv [] [b1] w w2 →
 Calls pP 119 #[(.agg (Z5 B0 a1 B1 a3))] w2 fun e w3 => ∃ x4, e = .returned (.int .i64 x4) ∧ yaD [b1] w2 w3 ∧
 brB (x4 != 0) (
 R (.tuple #[(.string (⟨#[]⟩ : BA)), .int .i64 x4]) w3)
 (
 Calls pP 121 #[(.agg (Z5 B0 a1 B1 a3))] w3 fun e w5 => ∃ s6, e = .returned (.string s6) ∧ yaD [b1] w3 w5 ∧
 R (.tuple #[.string s6, .int .i64 0]) w5)) :
 CR pP 81 #[(.agg (Z5 B0 a1 B1 a3))] w R :=
 yaA Tryz.wide_mixed (an := []) Tryz.func81 rfl rfl (by kernel_rfl) rfl (Eq.mpr (by kernel_rfl) h)
theorem yJd (h :
 ∀ w1, Adv [] [] w w1 →
 yaF .i64 w1 A1 fun x2 =>
 Calls pP 52 #[(.int .u64 (IntKind.wrap .u64 x2))] w1 fun e w3 => ∃ s4, e = .returned (.string s4) ∧
 Calls pP 51 #[(.pointer (some A0)), .string s4] w3 fun e w5 => ∃ x6 v7, e = .returned (.tuple #[.int .i64 x6, v7]) ∧
 R (.tuple #[]) w5) :
 CR pP 80 #[(.pointer (some A0)), (.pointer (some A1))] w R :=
 yaA Tryz.wide_mixed (an := []) Tryz.func80 rfl rfl (by kernel_rfl) rfl (Eq.mpr (by kernel_rfl) h)
theorem yJe (h :
 ∀ w1, Adv [] [] w w1 →
 yaT w1 A1 fun s2 =>
 Calls pP 56 #[.string s2] w1 fun e w3 => ∃ s4, e = .returned (.string s4) ∧
 Calls pP 51 #[(.pointer (some A0)), .string s4] w3 fun e w5 => ∃ x6 v7, e = .returned (.tuple #[.int .i64 x6, v7]) ∧
 R (.tuple #[]) w5) :
 CR pP 186 #[(.pointer (some A0)), (.pointer (some A1))] w R :=
 yaA Tryz.wide_mixed (an := []) Tryz.func186 rfl rfl (by kernel_rfl) rfl (Eq.mpr (by kernel_rfl) h)
theorem yJf (h :
 ∀ w1, Adv [] [] w w1 →
 Calls pP 186 #[(.pointer (some A1)), (.pointer (some A0))] w1 fun e w2 => e = .returned (.tuple #[]) ∧
 ∀ w3, Adv [] [] w2 w3 →
 Calls pP 80 #[(.pointer (some A1)), (.pointer (some (Addr.add A0 1)))] w3 fun e w4 => e = .returned (.tuple #[]) ∧
 R (.tuple #[]) w4) :
 CR pP 82 #[(.iface 139 (.pointer (some A1))), (.pointer (some A0))] w R :=
 yaA Tryz.wide_mixed (an := []) Tryz.func82 rfl rfl (by kernel_rfl) rfl (Eq.mpr (by kernel_rfl) h)
def ysW : LA := ⟨[0, 0, 1, 0, 1, 1, 1], [1, 5, 33, 34, 35], [(1, 0, 0), (5, 1, 0)], 2, [1]⟩
def ysX : LA := ⟨[0, 0, 1, 0, 1, 1, 1, 1], [1, 5, 43, 44, 45], [(1, 0, 0), (5, 1, 0)], 2, [1]⟩
def ysY : LA := ⟨[0, 0, 1, 0, 1, 1, 1, 1, 1, 1, 1], [5, 70, 71, 72], [(5, 1, 0)], 3, [1, 2]⟩
def yu4 : List LA := [ysW, ysX, ysY]
abbrev yxT := dnF pP yu4 (code Tryz.f54)
abbrev yNl := yaO pP yu4 (code Tryz.f54)
abbrev yxU (p : List Nat) (K : List Kh) (R : VWP) := yaO pP yu4 (code Tryz.f54) p K (ya7 pP Tryz.f54 [] R)
def yl7 (b4 : OA) (b6 b5 bm0 : Nat) (b0 b1 b2 b3 : Int) (a0 : OA) (a6 a3 : Nat) (a1 : OA) (a7 a4 bm1 : Nat) : Int × (Option Addr) × (Option Addr) × Nat × Nat → List Value × List TB := fun (b7, a9, a2, a8, a5) => ([(.pointer (some ⟨bm0, 0, none⟩)), (.pointer (some ⟨bm1, 0, none⟩)), .slice b4 b6 b5, (.int .i64 (5 : Int)), .int .i64 b7], [⟨bm0, 35, [.int .i64 b0, .int .i64 b1, .int .i64 b2, .int .i64 b3, .slice a0 a6 a3, .slice a1 a7 a4], false⟩, ⟨bm1, 141, [.pointer a9, .slice a2 a8 a5], true⟩])
def yl8 (b4 : OA) (b6 b5 : Nat) (b7 : Int) (bm0 : Nat) (b0 b1 b2 b3 : Int) (a0 : OA) (a6 a3 : Nat) (a1 : OA) (a7 a4 bm1 : Nat) : Int × (Option Addr) × (Option Addr) × Nat × Nat → List Value × List TB := fun (b8, a9, a2, a8, a5) => ([(.pointer (some ⟨bm0, 0, none⟩)), (.pointer (some ⟨bm1, 0, none⟩)), .slice b4 b6 b5, .int .i64 b7, .int .i64 b8], [⟨bm0, 35, [.int .i64 b0, .int .i64 b1, .int .i64 b2, .int .i64 b3, .slice a0 a6 a3, .slice a1 a7 a4], false⟩, ⟨bm1, 141, [.pointer a9, .slice a2 a8 a5], true⟩])
def yl9 (b5 : OA) (b7 b6 : Nat) (b8 : Int) (bm0 : Nat) (b0 b1 b2 b3 : Int) (a0 : OA) (a6 a3 : Nat) (a1 : OA) (a7 a4 bm1 bm2 : Nat) : Int × (Option Addr) × (Option Addr) × Nat × Nat × Int → List Value × List TB := fun (b9, a9, a2, a8, a5, b4) => ([(.pointer (some ⟨bm1, 0, none⟩)), .slice b5 b7 b6, .int .i64 b8, .int .i64 b9], [⟨bm0, 35, [.int .i64 b0, .int .i64 b1, .int .i64 b2, .int .i64 b3, .slice a0 a6 a3, .slice a1 a7 a4], false⟩, ⟨bm1, 141, [.pointer a9, .slice a2 a8 a5], true⟩, ⟨bm2, 3, [.int .i64 b4], true⟩])
abbrev yFd (b0 : OA) (b2 b1 bm0 : Nat) (a6 a7 a8 a9 : Int) (a0 : OA) (a4 a2 : Nat) (a1 : OA) (a5 a3 bm1 : Nat) (I : Nat → Int → Option Addr → Option Addr → Nat → Nat → World → Prop) (m : Nat) : Kh := KG (yl7 b0 b2 b1 bm0 a6 a7 a8 a9 a0 a4 a2 a1 a5 a3 bm1) (U5 I) m
theorem yAP {I : Nat → Int → Option Addr → Option Addr → Nat → Nat → World → Prop} (m' : Nat) (h1 : m' < m) (h2 : I m' i4 q3 q4 n8 n9 w) : KS (yFd q0 n0 n1 n2 i0 i1 i2 i3 q1 n3 n4 q2 n5 n6 n7 I m) (yl7 q0 n0 n1 n2 i0 i1 i2 i3 q1 n3 n4 q2 n5 n6 n7 (i4, q3, q4, n8, n9)) w := ⟨m', h1, _, rfl, rfl, h2⟩
theorem yAQ {b5 : OA} {a1 : OA} {a7 : OA} {c1 b7 : OA} (I : Nat → Int → Option Addr → Option Addr → Nat → Nat → World → Prop) (m0 : Nat) (h0 : I m0 i4 c1 b7 n8 n9 w0)
 (hr : ∀ m b4 a6 a2 a5 a4 w, I m b4 a6 a2 a5 a4 w →
 w.heap[n7]? = some (.cells #[.pointer a6, .slice a2 a5 a4] 141) →
 brB (decide (b4 < (5 : Int))) (
 ixA b5 n0 b4 1 fun q9 =>
 yaF .i64 w q9 fun d0 =>
 ∀ b8, w.heap.size ≤ b8 →
 ∀ c3, Adv [] [b8] w c3 → c3.heap[n7]? = some (.cells #[.pointer a6, .slice a2 a5 a4] 141) →
 c3.heap[b8]? = some (.cells #[.int .i64 d0] 3) →
 Calls pP 80 #[(.pointer (some ⟨n7, 0, none⟩)), (.pointer (some ⟨b8, 0, none⟩))] c3 fun e c4 => e = .returned (.tuple #[]) ∧ ya4 [n7, b8] [(n2, 35)] [n2] c3 c4 ∧ ∃ c9 c6 c8 c7, c4.heap[n7]? = some (.cells #[.pointer c9, .slice c6 c8 c7] 141) ∧ ∃ d1, c4.heap[b8]? = some (.cells #[.int .i64 d1] 3) ∧
 KS (yFd b5 n0 n1 n2 i0 i1 i2 i3 a1 n3 n4 a7 n5 n6 n7 I m) (yl7 b5 n0 n1 n2 i0 i1 i2 i3 a1 n3 n4 a7 n5 n6 n7 ((IntKind.wrap .i64 (b4 + 1)), c9, c6, c8, c7)) c4)
 (
 yaJ ysX (yxT 394 [0, 0, 1, 0, 1, 1, 1, 1]) (yxU [1, 1, 1, 1, 0, 1, 0] [] R) (yl8 a1 n3 n4 (n3 : Int) n2 i0 i1 i2 i3 a1 n3 n4 a7 n5 n6 n7 (0, a6, a2, a5, a4)) w)) :
 yaJ ysW (yxT 395 [0, 0, 1, 0, 1, 1, 1]) (yxU [1, 1, 1, 0, 1, 0] [] R) (yl7 b5 n0 n1 n2 i0 i1 i2 i3 a1 n3 n4 a7 n5 n6 n7 (i4, c1, b7, n8, n9)) w0 :=
 lrule (yl7 b5 n0 n1 n2 i0 i1 i2 i3 a1 n3 n4 a7 n5 n6 n7) (U5 I) h0 (by rintro m ⟨b4, a6, a2, a5, a4⟩ w h; exact ⟨by kernel_rfl, by kernel_rfl, fun js => Eq.mpr (by kernel_rfl) (hr m b4 a6 a2 a5 a4 w h)⟩)
abbrev yFe (b0 : OA) (b2 b1 : Nat) (b3 : Int) (bm0 : Nat) (a6 a7 a8 a9 : Int) (a0 : OA) (a4 a2 : Nat) (a1 : OA) (a5 a3 bm1 : Nat) (I : Nat → Int → Option Addr → Option Addr → Nat → Nat → World → Prop) (m : Nat) : Kh := KG (yl8 b0 b2 b1 b3 bm0 a6 a7 a8 a9 a0 a4 a2 a1 a5 a3 bm1) (U5 I) m
theorem yAR {I : Nat → Int → Option Addr → Option Addr → Nat → Nat → World → Prop} (m' : Nat) (h1 : m' < m) (h2 : I m' i5 q3 q4 n8 n9 w) : KS (yFe q0 n0 n1 i0 n2 i1 i2 i3 i4 q1 n3 n4 q2 n5 n6 n7 I m) (yl8 q0 n0 n1 i0 n2 i1 i2 i3 i4 q1 n3 n4 q2 n5 n6 n7 (i5, q3, q4, n8, n9)) w := ⟨m', h1, _, rfl, rfl, h2⟩
theorem yAS (I : Nat → Int → Option Addr → Option Addr → Nat → Nat → World → Prop) (m0 : Nat) (h0 : I m0 i5 q3 q4 n8 n9 w0)
 (hr : ∀ m b5 a6 a2 a5 a4 w, I m b5 a6 a2 a5 a4 w →
 w.heap[n7]? = some (.cells #[.pointer a6, .slice a2 a5 a4] 141) →
 brB (decide (b5 < i0)) (
 ixA q0 n0 b5 5 fun c5 =>
 yaF .i64 w c5 fun g8 => ya1 w (Addr.add c5 1) fun g1 => yaT w (Addr.add c5 2) fun f5 => ya1 w (Addr.add c5 3) fun g2 => yaT w (Addr.add c5 4) fun f6 =>
 ∀ b4, w.heap.size ≤ b4 →
 ∀ c6, Adv [] [b4] w c6 → c6.heap[n7]? = some (.cells #[.pointer a6, .slice a2 a5 a4] 141) →
 c6.heap[b4]? = some (.cells (Z6 g8 g1 f5 g2 f6) 101) →
 Calls pP 80 #[(.pointer (some ⟨n7, 0, none⟩)), (.pointer (some ⟨b4, 0, none⟩))] c6 fun e c7 => e = .returned (.tuple #[]) ∧ ya4 [n7, b4] [(n2, 35)] [n2] c6 c7 ∧ ∃ f3 e7 f1 e9, c7.heap[n7]? = some (.cells #[.pointer f3, .slice e7 f1 e9] 141) ∧ ∃ g9 e4 e1 e5 e2, c7.heap[b4]? = some (.cells (Z6 g9 e4 e1 e5 e2) 101) ∧
 Calls pP 81 #[(.agg (Z5 e4 e1 e5 e2))] c7 fun e c8 => ∃ e3 h1, e = .returned (.tuple #[.string e3, .int .i64 h1]) ∧ ya4 [n7, b4] [(n2, 35)] [n2] c7 c8 ∧ ∃ f4 e8 f2 f0, c8.heap[n7]? = some (.cells #[.pointer f4, .slice e8 f2 f0] 141) ∧ ∃ h2 g3 f7 g4 f8, c8.heap[b4]? = some (.cells (Z6 h2 g3 f7 g4 f8) 101) ∧
 Calls pP 51 #[(.pointer (some ⟨n7, 0, none⟩)), .string e3] c8 fun e d0 => ∃ h3 g7, e = .returned (.tuple #[.int .i64 h3, g7]) ∧ ya4 [n7, b4] [(n2, 35)] [n2] c8 d0 ∧ ∃ d9 d3 d7 d5, d0.heap[n7]? = some (.cells #[.pointer d9, .slice d3 d7 d5] 141) ∧ ∃ h4 g5 f9 g6 g0, d0.heap[b4]? = some (.cells (Z6 h4 g5 f9 g6 g0) 101) ∧
 KS (yFe q0 n0 n1 i0 n2 i1 i2 i3 i4 q1 n3 n4 q2 n5 n6 n7 I m) (yl8 q0 n0 n1 i0 n2 i1 i2 i3 i4 q1 n3 n4 q2 n5 n6 n7 ((IntKind.wrap .i64 (b5 + 1)), d9, d3, d7, d5)) d0)
 (
 ∀ b7, w.heap.size ≤ b7 →
 ∀ c9, Adv [] [b7] w c9 → c9.heap[n7]? = some (.cells #[.pointer a6, .slice a2 a5 a4] 141) →
 c9.heap[b7]? = some (.cells #[(.int .i64 (n5 : Int))] 3) →
 Calls pP 80 #[(.pointer (some ⟨n7, 0, none⟩)), (.pointer (some ⟨b7, 0, none⟩))] c9 fun e d1 => e = .returned (.tuple #[]) ∧ ya4 [n7, b7] [(n2, 35)] [n2] c9 d1 ∧ ∃ e0 d4 d8 d6, d1.heap[n7]? = some (.cells #[.pointer e0, .slice d4 d8 d6] 141) ∧ ∃ e6, d1.heap[b7]? = some (.cells #[.int .i64 e6] 3) ∧
 yaJ ysY (yxT 391 [0, 0, 1, 0, 1, 1, 1, 1, 1, 1, 1]) (yxU [1, 1, 1, 1, 1, 1, 1, 0, 1, 0] [] R) (yl9 q2 n5 n6 (n5 : Int) n2 i1 i2 i3 i4 q1 n3 n4 q2 n5 n6 n7 b7 (0, e0, d4, d8, d6, e6)) d1)) :
 yaJ ysX (yxT 394 [0, 0, 1, 0, 1, 1, 1, 1]) (yxU [1, 1, 1, 1, 0, 1, 0] [] R) (yl8 q0 n0 n1 i0 n2 i1 i2 i3 i4 q1 n3 n4 q2 n5 n6 n7 (i5, q3, q4, n8, n9)) w0 :=
 lrule (yl8 q0 n0 n1 i0 n2 i1 i2 i3 i4 q1 n3 n4 q2 n5 n6 n7) (U5 I) h0 (by rintro m ⟨b5, a6, a2, a5, a4⟩ w h; exact ⟨by kernel_rfl, by kernel_rfl, fun js => Eq.mpr (by kernel_rfl) (hr m b5 a6 a2 a5 a4 w h)⟩)
abbrev yFf (b0 : OA) (b2 b1 : Nat) (b3 : Int) (bm0 : Nat) (a6 a7 a8 a9 : Int) (a0 : OA) (a4 a2 : Nat) (a1 : OA) (a5 a3 bm1 bm2 : Nat) (I : Nat → Int → Option Addr → Option Addr → Nat → Nat → Int → World → Prop) (m : Nat) : Kh := KG (yl9 b0 b2 b1 b3 bm0 a6 a7 a8 a9 a0 a4 a2 a1 a5 a3 bm1 bm2) (U6 I) m
theorem yAT {I : Nat → Int → Option Addr → Option Addr → Nat → Nat → Int → World → Prop} (m' : Nat) (h1 : m' < m) (h2 : I m' i5 q3 q4 n9 o0 i6 w) : KS (yFf q0 n0 n1 i0 n2 i1 i2 i3 i4 q1 n3 n4 q2 n5 n6 n7 n8 I m) (yl9 q0 n0 n1 i0 n2 i1 i2 i3 i4 q1 n3 n4 q2 n5 n6 n7 n8 (i5, q3, q4, n9, o0, i6)) w := ⟨m', h1, _, rfl, rfl, h2⟩
theorem yAU (I : Nat → Int → Option Addr → Option Addr → Nat → Nat → Int → World → Prop) (m0 : Nat) (h0 : I m0 i5 q3 q4 n9 o0 i6 w0)
 (hr : ∀ m b5 a3 a0 a2 a1 a4 w, I m b5 a3 a0 a2 a1 a4 w →
 w.heap[n7]? = some (.cells #[.pointer a3, .slice a0 a2 a1] 141) →
 w.heap[n8]? = some (.cells #[.int .i64 a4] 3) →
 brB (decide (b5 < i0)) (
 ixA q0 n0 b5 2 fun d4 =>
 yaT w d4 fun e1 => yaF .i64 w (Addr.add d4 1) fun e3 =>
 ∀ c0, w.heap.size ≤ c0 →
 ∀ c4, Adv [] [c0] w c4 → c4.heap[n7]? = some (.cells #[.pointer a3, .slice a0 a2 a1] 141) →
 c4.heap[n8]? = some (.cells #[.int .i64 a4] 3) →
 c4.heap[c0]? = some (.cells #[.string e1, .int .i64 e3] 42) →
 Calls pP 82 #[(.iface 139 (.pointer (some ⟨n7, 0, none⟩))), (.pointer (some ⟨c0, 0, none⟩))] c4 fun e c7 => e = .returned (.tuple #[]) ∧ ya4 [n7, n8, c0] [(n2, 35)] [n2] c4 c7 ∧ ∃ d3 d0 d2 d1, c7.heap[n7]? = some (.cells #[.pointer d3, .slice d0 d2 d1] 141) ∧ ∃ d6, c7.heap[n8]? = some (.cells #[.int .i64 d6] 3) ∧ ∃ e2 e4, c7.heap[c0]? = some (.cells #[.string e2, .int .i64 e4] 42) ∧
 KS (yFf q0 n0 n1 i0 n2 i1 i2 i3 i4 q1 n3 n4 q2 n5 n6 n7 n8 I m) (yl9 q0 n0 n1 i0 n2 i1 i2 i3 i4 q1 n3 n4 q2 n5 n6 n7 n8 ((IntKind.wrap .i64 (b5 + 1)), d3, d0, d2, d1, d6)) c7)
 (
 Calls pP 55 #[(.pointer (some ⟨n7, 0, none⟩))] w fun e c8 => ∃ d5, e = .returned (.string d5) ∧ ya4 [n7, n8] [(n2, 35)] [n2] w c8 ∧ ∃ e0 d7 d9 d8, c8.heap[n7]? = some (.cells #[.pointer e0, .slice d7 d9 d8] 141) ∧ ∃ e5, c8.heap[n8]? = some (.cells #[.int .i64 e5] 3) ∧
 R (.tuple #[.string d5, .int .i64 0]) c8)) :
 yaJ ysY (yxT 391 [0, 0, 1, 0, 1, 1, 1, 1, 1, 1, 1]) (yxU [1, 1, 1, 1, 1, 1, 1, 0, 1, 0] [] R) (yl9 q0 n0 n1 i0 n2 i1 i2 i3 i4 q1 n3 n4 q2 n5 n6 n7 n8 (i5, q3, q4, n9, o0, i6)) w0 :=
 lrule (yl9 q0 n0 n1 i0 n2 i1 i2 i3 i4 q1 n3 n4 q2 n5 n6 n7 n8) (U6 I) h0 (by rintro m ⟨b5, a3, a0, a2, a1, a4⟩ w h; exact ⟨by kernel_rfl, by kernel_rfl, fun js => Eq.mpr (by kernel_rfl) (hr m b5 a3 a0 a2 a1 a4 w h)⟩)
theorem yJg (h :
 ∀ b1, w.heap.size ≤ b1 →
 ∀ w2, Adv [] [b1] w w2 →
 Calls pP 79 #[(.agg (Z3 i0 i1 i2 i3 q0 n0 n1 q1 n2 n3))] w2 fun e w3 => ∃ x4, e = .returned (.int .i64 x4) ∧ yaD [b1] w2 w3 ∧
 brB (x4 != 0) (
 R (.tuple #[(.string (⟨#[]⟩ : BA)), .int .i64 x4]) w3)
 (
 ∀ b5, w3.heap.size ≤ b5 →
 ∀ w6, Adv [] [b5] w3 w6 →
 al w6 (.cells #[.int .i64 i0, .int .i64 i1, .int .i64 i2, .int .i64 i3, (.int .i64 (n0 : Int))] 3) fun b7 w8 =>
 ∀ b0, Adv [] [] w8 b0 → b0.heap[b5]? = some (.cells #[.pointer none, .slice none 0 0] 141) →
 yaJ ysW (yxT 395 [0, 0, 1, 0, 1, 1, 1]) (yxU [1, 1, 1, 0, 1, 0] [] R) (yl7 (some ⟨b7, 0, none⟩) 5 5 b1 i0 i1 i2 i3 q0 n0 n1 q1 n2 n3 b5 (0, none, none, 0, 0)) b0)) :
 CR pP 54 #[(.agg (Z3 i0 i1 i2 i3 q0 n0 n1 q1 n2 n3))] w R :=
 yaA Tryz.wide_mixed (an := yu4) Tryz.func54 rfl rfl (by kernel_rfl) rfl (Eq.mpr (by kernel_rfl) h)
end
def bs (l : List UInt8) : ByteArray := ⟨l.toArray⟩
theorem yaG (l : List UInt8) : (bs l).size = l.length := by simp [bs, ByteArray.size]
theorem ykR (a : List UInt8) (s : ByteArray) : bs a ++ s = bs (a ++ s.data.toList) := by
 apply ByteArray.ext
 simp [bs, ByteArray.data_append]
theorem ybF (a b : List UInt8) : bs a ++ bs b = bs (a ++ b) := by rw [ykR]; simp [bs]
theorem yaM (n : Nat) (hn : n < 18446744073709551616) : 1 ≤ (yaL n).length ∧ (yaL n).length ≤ 10 := by
 have := ygE 9 n (by omega)
 simp [yaL]; omega
def yb3 (s : ByteArray) : List UInt8 := yaL s.size ++ s.data.toList
theorem yaV (s : ByteArray) (hs : s.size ≤ 4611686018427387904) : 1 ≤ (yb3 s).length ∧ (yb3 s).length ≤ s.size + 10 := by
 have h := yaM s.size (by omega)
 have e : (yb3 s).length = (yaL s.size).length + s.size := by rw [yb3, List.length_append, Array.length_toList]; rfl
 omega
theorem yeR {n : Nat} (hn : n < 18446744073709551616) : IntKind.wrap .u64 (n : Int) = (n : Int) := by rw [IntKind.wrap_u64]; omega
theorem ycT (s : ByteArray) (hs : s.size ≤ 4611686018427387904) (w : World) : Calls pP 56 #[.string s] w fun e w' => e = .returned (.string (bs (yb3 s))) ∧ Mod [] w w' := by
 refine yaQ (yJa ?_)
 rw [yeR (by omega)]
 refine (ykN s.size (by omega) w).mono ?_
 rintro e w1 ⟨rfl, M1⟩
 have h2 := yAv s.size (by omega)
 exact ⟨_, rfl, by omega, congrArg Value.string (ykR _ _), M1⟩
def yg4 (r : PRec) : UInt8 := if r.tomb then 3 else if r.hk then 1 else 0
theorem yGO (r : PRec) (w : World) : Calls pP 147 #[r.v] w fun e w' => e = .returned (.int .u8 ((yg4 r).toNat : Int)) ∧ Mod [] w w' := by
 obtain ⟨hk, key, tomb, val⟩ := r
 refine yaQ (yMo ?_)
 intro b1 f1
 refine yaC (fun h => ?_) fun h => ?_
 ·intro w1 A1; subst h; exact ⟨rfl, A1.mod⟩
 ·subst h
  refine yaC (fun h => ?_) fun h => ?_
  ·intro w1 A1; subst h; exact ⟨rfl, A1.mod⟩
  ·intro w1 A1; subst h; exact ⟨rfl, A1.mod⟩
def ygW (r : PRec) : List UInt8 := [yg4 r] ++ (if r.hk then yb3 r.key else []) ++ (if r.tomb then [] else yb3 r.val)
theorem ygH {r : PRec} (h : ygF r = 0) : r.key.size ≤ 64 ∧ r.val.size ≤ 512 := by
 unfold ygF yIC at h
 split at h
 ·omega
 ·split at h <;> omega
theorem yAV (r : PRec) (hr : ygF r = 0) (w : World) : Calls pP 121 #[r.v] w fun e w' => e = .returned (.string (bs (ygW r))) ∧ Mod [] w w' := by
 obtain ⟨hk, vs⟩ := ygH hr
 refine yaQ (yJb ?_)
 intro b1 f1 w1 A1
 refine (yGO r w1).mono ?_
 rintro e w2 ⟨rfl, M2⟩
 refine ⟨_, rfl, yaD.of0 M2, ?_⟩
 have N2 := A1.mod.go0 M2 (by simp)
 refine ycR fun b3 w3 c3 M3 f3 => ?_
 have N3 := N2.go0 M3 (by simp)
 have hcv := run_convert_bytes_back (P := pP) w3 104 9 5 ⟨b3, 0, none⟩ 1 [yg4 r] Tryz.underlying104 Tryz.underlying5 Tryz.underlying9 fun j hj => by
  simp at hj; subst hj
  rw [ya6, yaY c3]; rfl
 refine ⟨_, _, hcv, yaD.of0 (Mod.refl _), ?_⟩
 obtain ⟨h1, key, h3, val⟩ := r
 have e0 : (⟨[yg4 ⟨h1, key, h3, val⟩].toArray⟩ : ByteArray) = bs [yg4 ⟨h1, key, h3, val⟩] := rfl
 rw [e0]
 simp only at hk vs
 have l1 : (yb3 key).length ≤ 74 := by have := yaV key (by omega); omega
 have l2 : (yb3 val).length ≤ 522 := by have := yaV val (by omega); omega
 refine yaC (fun g1 => ?_) fun g1 => ?_
 ·subst g1
  refine (ycT key (by omega) w3).mono ?_
  rintro e w4 ⟨rfl, M4⟩
  refine ⟨_, rfl, yaD.of0 M4, by simp only [yaG]; simp; omega, ?_⟩
  rw [ybF]
  refine yaC (fun g2 => ?_) fun g2 => ?_
  ·have g2 : h3 = false := yjX g2
   subst g2
   refine (ycT val (by omega) w4).mono ?_
   rintro e w5 ⟨rfl, M5⟩
   refine ⟨_, rfl, yaD.of0 M5, by simp only [yaG]; simp; omega, ?_⟩
   exact ⟨by rw [ybF]; simp [ygW], (N3.go0 M4 (by simp)).go0 M5 (by simp)⟩
  ·have g2 : h3 = true := yjF g2
   subst g2
   exact ⟨by simp [ygW], N3.go0 M4 (by simp)⟩
 ·subst g1
  refine yaC (fun g2 => ?_) fun g2 => ?_
  ·have g2 : h3 = false := yjX g2
   subst g2
   refine (ycT val (by omega) w3).mono ?_
   rintro e w5 ⟨rfl, M5⟩
   refine ⟨_, rfl, yaD.of0 M5, by simp only [yaG]; simp; omega, ?_⟩
   exact ⟨by rw [ybF]; simp [ygW], N3.go0 M5 (by simp)⟩
  ·have g2 : h3 = true := yjF g2
   subst g2
   exact ⟨by simp [ygW], N3⟩
theorem yhY {r : PRec} (hr : ygF r = 0) : (ygW r).length ≤ 600 := by
 obtain ⟨hk, vs⟩ := ygH hr
 have l1 : (yb3 r.key).length ≤ 74 := by have := yaV r.key (by omega); omega
 have l2 : (yb3 r.val).length ≤ 522 := by have := yaV r.val (by omega); omega
 unfold ygW
 split <;> split <;> simp <;> omega
theorem yAW (r : PRec) (w : World) : Calls pP 81 #[r.v] w fun e w' => e = .returned (.tuple #[.string (if ygF r = 0 then bs (ygW r) else bs []), .int .i64 (ygF r)]) ∧ Mod [] w w' := by
 refine yaQ (yJc ?_)
 intro b1 f1 w1 A1
 refine (yfH r w1).mono ?_
 rintro e w2 ⟨rfl, M2⟩
 refine ⟨_, rfl, yaD.of0 M2, ?_⟩
 have N2 := A1.mod.go0 M2 (by simp)
 refine yaC (fun g1 => ?_) fun g1 => ?_
 ·have g : ¬ ygF r = 0 := by simpa using g1
  rw [if_neg g]; exact ⟨rfl, N2⟩
 ·have g : ygF r = 0 := by simpa using g1
  refine (yAV r g w2).mono ?_
  rintro e w3 ⟨rfl, M3⟩
  refine ⟨_, rfl, yaD.of0 M3, ?_, N2.go0 M3 (by simp)⟩
  rw [if_pos g, g]
theorem BTw : BT 141 := ⟨by kernel_rfl, by decide⟩
abbrev Bd (B b : Nat) (l : List UInt8) (w : World) : Prop := Lib.IsBuilderF 141 5 B b (Lib.byteCells l) w
structure Wr (B b : Nat) (w w' : World) : Prop where
 bel : Below B w w'
 oth : Lib.OthersKept 5 (some b) w w'
theorem Wr.of0 {B b : Nat} {w w' : World} (M : Mod [] w w') (hB : B ≤ w.heap.size) : Wr B b w w' :=
 ⟨⟨M.os, M.tape, M.output, M.size, fun k hk => M.block k (by omega) (by simp)⟩, fun k o hk _ _ => M.keep0 hk⟩
theorem Wr.trans {B b : Nat} {x y z : World} (h : Wr B b x y) (k : Wr B b y z) : Wr B b x z := ⟨h.bel.trans k.bel, h.oth.trans k.oth⟩
theorem Bd.keep0 {B b : Nat} {l : List UInt8} {w w' : World} (h : Bd B b l w) (M : Mod [] w w') : Bd B b l w' := by
 have one : ∀ {p bs}, Lib.BuilderAtF 141 5 B b p bs w → Lib.BuilderAtF 141 5 B b p bs w' := by
  rintro p bs ⟨hB, v, hb, ⟨hl, ho⟩, hne⟩
  refine ⟨hB, v, M.keep0 hb, ⟨hl, ?_⟩, hne⟩
  rcases ho with ho | ⟨g, cap, cur, fz, hv, hg, hh, r⟩
  ·exact .inl ho
  ·exact .inr ⟨g, cap, cur, fz, hv, hg, M.keep0 hh, r⟩
 exact h.elim (fun x => .inl (one x)) (fun x => .inr (one x))
theorem Bd.lt {B b : Nat} {l : List UInt8} {w : World} (h : Bd B b l w) : B ≤ b ∧ b < w.heap.size := h.elim (fun x => ⟨x.1, x.lt⟩) (fun x => ⟨x.1, x.lt⟩)
theorem Bd.cells {B b : Nat} {l : List UInt8} {w : World} (h : Bd B b l w) : ∃ (p a : Option Addr) (n c : Nat), w.heap[b]? = some (.cells #[.pointer p, .slice a n c] 141) := by
 have one : ∀ {p bs}, Lib.BuilderAtF 141 5 B b (.pointer p) bs w → ∃ (p a : Option Addr) (n c : Nat), w.heap[b]? = some (.cells #[.pointer p, .slice a n c] 141) := by
  rintro p bs ⟨hB, v, hb, ⟨hl, ho⟩, hne⟩
  rcases ho with ⟨rfl, _⟩ | ⟨g, cap, cur, fz, rfl, hg, hh, r⟩
  ·exact ⟨_, _, _, _, hb⟩
  ·exact ⟨_, _, _, _, hb⟩
 exact h.elim one one
theorem yDX {B b : Nat} {l l2 : List UInt8} {w : World} (h : Bd B b l w) (hlen : l.length + l2.length ≤ 100000000000) (hB : B ≤ w.heap.size) :
  Calls pP 51 #[.pointer (some ⟨b, 0, none⟩), .string (bs l2)] w fun e w' => e = .returned (.tuple #[.int .i64 ((bs l2).size : Nat), .nilIface]) ∧ (Bd B b (l ++ l2) w' ∧ Wr B b w w') := by
 refine (ygU BTw B b (Lib.byteCells l) (bs l2) w h (by rw [Lib.byteCells_length, yaG]; omega) hB).mono ?_
 rintro e w' ⟨rfl, h1, h2, h3⟩
 refine ⟨rfl, .inr ?_, ⟨h2, h3⟩⟩
 have e : Lib.byteCells (l ++ l2) = Lib.byteCells l ++ Lib.strCells (bs l2) := by simp [Lib.byteCells, Lib.strCells, bs]
 rw [e]; exact h1
theorem yg5 {B b : Nat} {l : List UInt8} {w : World} {a : Addr} {x : Nat} (h : Bd B b l w) (hlen : l.length ≤ 10000000000) (hB : B ≤ w.heap.size) (ha : w.cell? a = some (.int .i64 (x : Nat))) (hx : x < 9223372036854775808) :
  Calls pP 80 #[.pointer (some ⟨b, 0, none⟩), .pointer (some a)] w fun e w' => e = .returned (.tuple #[]) ∧ (Bd B b (l ++ yaL x) w' ∧ Wr B b w w') := by
 refine yaQ (yJd ?_)
 intro w1 A1
 refine yaB (A1.mod.cell0 ha) ?_
 rw [yeR (by omega)]
 refine (ykN x (by omega) w1).mono ?_
 rintro e w2 ⟨rfl, M2⟩
 have N2 := A1.mod.go0 M2 (by simp)
 have s2 := N2.size
 have := yaM x (by omega)
 refine ⟨_, rfl, (yDX (h.keep0 N2) (l2 := yaL x) (by omega) (by omega)).mono ?_⟩
 rintro e w3 ⟨rfl, h3, W3⟩
 exact ⟨_, _, rfl, rfl, h3, (Wr.of0 N2 hB).trans W3⟩
theorem yoA {B b : Nat} {l : List UInt8} {w : World} {a : Addr} {s : ByteArray} (h : Bd B b l w) (hlen : l.length ≤ 10000000000) (hB : B ≤ w.heap.size) (ha : w.cell? a = some (.string s)) (hs : s.size ≤ 1000000000) :
  Calls pP 186 #[.pointer (some ⟨b, 0, none⟩), .pointer (some a)] w fun e w' => e = .returned (.tuple #[]) ∧ (Bd B b (l ++ yb3 s) w' ∧ Wr B b w w') := by
 refine yaQ (yJe ?_)
 intro w1 A1
 refine yaI (A1.mod.cell0 ha) ?_
 refine (ycT s (by omega) w1).mono ?_
 rintro e w2 ⟨rfl, M2⟩
 have N2 := A1.mod.go0 M2 (by simp)
 have s2 := N2.size
 have l2 : (yb3 s).length ≤ 1000000010 := by have := yaV s (by omega); omega
 refine ⟨_, rfl, (yDX (h.keep0 N2) (l2 := yb3 s) (by omega) (by omega)).mono ?_⟩
 rintro e w3 ⟨rfl, h3, W3⟩
 exact ⟨_, _, rfl, rfl, h3, (Wr.of0 N2 hB).trans W3⟩
section
set_option maxRecDepth 100000
variable {R : VWP} {w w0 : World} {m : Nat} {i0 i1 i2 i3 i4 i5 i6 i7 i8 i9 j0 j1 j2 j3 j4 j5 j6 j7 j8 j9 k0 k1 k2 k3 k4 k5 k6 k7 k8 k9 l0 l1 l2 l3 l4 l5 l6 l7 l8 l9 : Int} {s0 s1 s2 s3 s4 s5 s6 s7 s8 s9 t0 t1 t2 t3 t4 t5 t6 t7 t8 t9 : BA} {n0 n1 n2 n3 n4 n5 n6 n7 n8 n9 o0 o1 o2 o3 o4 o5 o6 o7 o8 o9 p0 p1 p2 p3 p4 p5 p6 p7 p8 p9 : Nat} {q0 q1 q2 q3 q4 q5 q6 q7 q8 q9 r0 r1 r2 r3 r4 r5 r6 r7 r8 r9 : OA} {B0 B1 B2 B3 B4 B5 B6 B7 B8 B9 : Bool} {M0 M1 M2 M3 : Option Nat} {V0 V1 V2 V3 V4 V5 : Value} {A0 A1 A2 : Addr}
theorem yJh (h :
 brB (i1 == 9) (
 brB (decide (i0 > 1)) (
 R (.bool true) w)
 (
 brB (decide (i1 > 0)) (
 R (.bool (i0 == 0)) w)
 (
 R (.bool false) w)))
 (
 brB (decide (i1 > 0)) (
 R (.bool (i0 == 0)) w)
 (
 R (.bool false) w))) :
 CR pP 123 #[.int .u8 i0, .int .i64 i1] w R :=
 yaA Tryz.wide_mixed (an := []) Tryz.func123 rfl rfl (by kernel_rfl) rfl (Eq.mpr (by kernel_rfl) h)
def ysZ : LA := ⟨[0, 0, 1, 1, 1, 1], [0, 1, 7, 8], [], 0, []⟩
def yu5 : List LA := [ysZ]
abbrev yJi := dnF pP yu5 (code Tryz.f86)
abbrev yNm := yaO pP yu5 (code Tryz.f86)
abbrev yJj (p : List Nat) (K : List Kh) (R : VWP) := yaO pP yu5 (code Tryz.f86) p K (ya7 pP Tryz.f86 [] R)
def ymA (a0 : BA) (a1 : Int) : Int × Int → List Value × List TB := fun (a2, a3) => ([.string a0, .int .i64 a1, .int .u64 a2, .int .i64 a3], [])
abbrev yFg (a0 : BA) (a1 : Int) (I : Nat → Int → Int → World → Prop) (m : Nat) : Kh := KG (ymA a0 a1) (U2 I) m
theorem yAX {I : Nat → Int → Int → World → Prop} (m' : Nat) (h1 : m' < m) (h2 : I m' i1 i2 w) : KS (yFg s0 i0 I m) (ymA s0 i0 (i1, i2)) w := ⟨m', h1, _, rfl, rfl, h2⟩
theorem yAY {a2 : BA} (I : Nat → Int → Int → World → Prop) (m0 : Nat) (h0 : I m0 i1 i2 w0)
 (hr : ∀ m a3 a0 w, I m a3 a0 w →
 brB (decide ((IntKind.wrap .i64 (i0 + a0)) ≥ (a2.size : Int))) (
 R (.tuple #[.int .u64 0, .int .i64 0, .int .i64 10]) w)
 (
 ixS a2 (IntKind.wrap .i64 (i0 + a0)) fun x1 =>
 Calls pP 123 #[.int .u8 x1, .int .i64 a0] w fun e w2 => ∃ t3, e = .returned (.bool t3) ∧
 brB t3 (
 R (.tuple #[.int .u64 0, .int .i64 0, .int .i64 11]) w2)
 (nn (IntKind.wrap .i64 (7 * a0)) (
 brB (decide (x1 < 128)) (
 R (.tuple #[(.int .u64 (bOr .u64 a3 (IntKind.wrap .u64 ((IntKind.wrap .u64 (yh9 .u8 x1 127)) * 2 ^ (min (Int.toNat (IntKind.wrap .i64 (7 * a0))) 64))))), (.int .i64 (IntKind.wrap .i64 ((IntKind.wrap .i64 (i0 + a0)) + 1))), .int .i64 0]) w2)
 (
 KS (yFg a2 i0 I m) (ymA a2 i0 ((bOr .u64 a3 (IntKind.wrap .u64 ((IntKind.wrap .u64 (yh9 .u8 x1 127)) * 2 ^ (min (Int.toNat (IntKind.wrap .i64 (7 * a0))) 64)))), (IntKind.wrap .i64 (a0 + 1)))) w2))))) :
 yaJ ysZ (yJi 395 [0, 0, 1, 1, 1, 1]) (yJj [1, 1, 1, 1, 0] [] R) (ymA a2 i0 (i1, i2)) w0 :=
 lrule (ymA a2 i0) (U2 I) h0 (by rintro m ⟨a3, a0⟩ w h; exact ⟨by kernel_rfl, by kernel_rfl, fun js => Eq.mpr (by kernel_rfl) (hr m a3 a0 w h)⟩)
theorem yJk (h :
 brB (decide (i0 < 0)) (
 R (.tuple #[.int .u64 0, .int .i64 0, .int .i64 1]) w)
 (
 brB (decide (i0 > (s0.size : Int))) (
 R (.tuple #[.int .u64 0, .int .i64 0, .int .i64 1]) w)
 (
 yaJ ysZ (yJi 395 [0, 0, 1, 1, 1, 1]) (yJj [1, 1, 1, 1, 0] [] R) (ymA s0 i0 (0, 0)) w))) :
 CR pP 86 #[.string s0, .int .i64 i0] w R :=
 yaA Tryz.wide_mixed (an := yu5) Tryz.func86 rfl rfl (by kernel_rfl) rfl (Eq.mpr (by kernel_rfl) h)
theorem yJl {a1 : BA} (h :
 Calls pP 86 #[.string a1, .int .i64 i0] w fun e w1 => ∃ x2 x3 x4, e = .returned (.tuple #[.int .u64 x2, .int .i64 x3, .int .i64 x4]) ∧
 brB (x4 != 0) (
 R (.tuple (Z2 (⟨#[]⟩ : BA) 0 x4)) w1)
 (
 brB (decide (i1 < 0)) (
 R (.tuple (Z2 (⟨#[]⟩ : BA) 0 2)) w1)
 (
 brB (decide (x2 > (IntKind.wrap .u64 i1))) (
 R (.tuple (Z2 (⟨#[]⟩ : BA) 0 2)) w1)
 (
 brB (decide (x2 > (IntKind.wrap .u64 (IntKind.wrap .i64 ((a1.size : Int) - x3))))) (
 R (.tuple (Z2 (⟨#[]⟩ : BA) 0 10)) w1)
 (
 slS a1 x3 (IntKind.wrap .i64 (x3 + (IntKind.wrap .i64 x2))) fun s5 =>
 R (.tuple (Z2 s5 (IntKind.wrap .i64 (x3 + (IntKind.wrap .i64 x2))) 0)) w1))))) :
 CR pP 85 (Z2 a1 i0 i1) w R :=
 yaA Tryz.wide_mixed (an := []) Tryz.func85 rfl rfl (by kernel_rfl) rfl (Eq.mpr (by kernel_rfl) h)
def ys0 : LA := ⟨[0, 0, 1, 0, 1], [0, 3], [], 0, []⟩
def yu6 : List LA := [ys0]
abbrev yJm := dnF pP yu6 (code Tryz.f161)
abbrev yNn := yaO pP yu6 (code Tryz.f161)
abbrev yJn (p : List Nat) (K : List Kh) (R : VWP) := yaO pP yu6 (code Tryz.f161) p K (ya7 pP Tryz.f161 [] R)
def ymB : Int × Int → List Value × List TB := fun (a0, a1) => ([.int .u32 a0, .int .i64 a1], [])
abbrev yFh (I : Nat → Int → Int → World → Prop) (m : Nat) : Kh := KG (ymB) (U2 I) m
theorem yAZ {I : Nat → Int → Int → World → Prop} (m' : Nat) (h1 : m' < m) (h2 : I m' i0 i1 w) : KS (yFh I m) (ymB (i0, i1)) w := ⟨m', h1, _, rfl, rfl, h2⟩
theorem yA0 (I : Nat → Int → Int → World → Prop) (m0 : Nat) (h0 : I m0 i0 i1 w0)
 (hr : ∀ m a0 a1 w, I m a0 a1 w →
 brB (decide (a1 < 4)) (nn 1 (
 KS (yFh I m) (ymB ((yfB .u32 (Int.fdiv a0 (2 ^ (min (Int.toNat 1) 32))) (yh9 .u32 3988292384 (IntKind.wrap .u32 (0 - (yh9 .u32 a0 1))))), (IntKind.wrap .i64 (a1 + 1)))) w))
 (
 R (.int .u32 a0) w)) :
 yaJ ys0 (yJm 397 [0, 0, 1, 0, 1]) (yJn [1, 0, 1, 0] [] R) (ymB (i0, i1)) w0 :=
 lrule (ymB) (U2 I) h0 (by rintro m ⟨a0, a1⟩ w h; exact ⟨by kernel_rfl, by kernel_rfl, fun js => Eq.mpr (by kernel_rfl) (hr m a0 a1 w h)⟩)
theorem yJo (h :
 yaJ ys0 (yJm 397 [0, 0, 1, 0, 1]) (yJn [1, 0, 1, 0] [] R) (ymB (i0, 0)) w) :
 CR pP 161 #[.int .u32 i0] w R :=
 yaA Tryz.wide_mixed (an := yu6) Tryz.func161 rfl rfl (by kernel_rfl) rfl (Eq.mpr (by kernel_rfl) h)
def ys1 : LA := ⟨[0, 0, 1, 0, 1, 1, 1], [0, 1, 2, 4], [(0, 0, 0), (1, 1, 0)], 2, [1]⟩
def yu7 : List LA := [ys1]
abbrev yJp := dnF pP yu7 (code Tryz.f148)
abbrev yNo := yaO pP yu7 (code Tryz.f148)
abbrev yJq (p : List Nat) (K : List Kh) (R : VWP) := yaO pP yu7 (code Tryz.f148) p K (ya7 pP Tryz.f148 [] R)
def ymC (bm0 bm1 : Nat) : Int × Int × Int × Int × Int × Int × Int × Int × Int × Int × Int × Int × Int × Int × Int × Int × Int → List Value × List TB := fun (b6, a6, a7, a8, a9, b0, b1, b2, b3, b4, b5, a0, a1, a2, a3, a4, a5) => ([(.pointer (some ⟨bm0, 0, none⟩)), (.pointer (some ⟨bm1, 0, none⟩)), (.func (.func 161) #[] #[]), .int .i64 b6], [⟨bm0, 216, [.int .u32 0, .int .u32 0, .int .u32 0, .int .u32 0, .int .u32 0, .int .u32 0, .int .u32 0, .int .u32 0, .int .u32 0, .int .u32 0, .int .u32 0, .int .u32 0, .int .u32 0, .int .u32 0, .int .u32 0, .int .u32 0], false⟩, ⟨bm1, 216, [.int .u32 a6, .int .u32 a7, .int .u32 a8, .int .u32 a9, .int .u32 b0, .int .u32 b1, .int .u32 b2, .int .u32 b3, .int .u32 b4, .int .u32 b5, .int .u32 a0, .int .u32 a1, .int .u32 a2, .int .u32 a3, .int .u32 a4, .int .u32 a5], true⟩])
abbrev yFi (bm0 bm1 : Nat) (I : Nat → Int → Int → Int → Int → Int → Int → Int → Int → Int → Int → Int → Int → Int → Int → Int → Int → Int → World → Prop) (m : Nat) : Kh := KG (ymC bm0 bm1) (U17 I) m
theorem ybH {I : Nat → Int → Int → Int → Int → Int → Int → Int → Int → Int → Int → Int → Int → Int → Int → Int → Int → Int → World → Prop} (m' : Nat) (h1 : m' < m) (h2 : I m' i0 i1 i2 i3 i4 i5 i6 i7 i8 i9 j0 j1 j2 j3 j4 j5 j6 w) : KS (yFi n0 n1 I m) (ymC n0 n1 (i0, i1, i2, i3, i4, i5, i6, i7, i8, i9, j0, j1, j2, j3, j4, j5, j6)) w := ⟨m', h1, _, rfl, rfl, h2⟩
theorem yA1 (I : Nat → Int → Int → Int → Int → Int → Int → Int → Int → Int → Int → Int → Int → Int → Int → Int → Int → Int → World → Prop) (m0 : Nat) (h0 : I m0 i0 i1 i2 i3 i4 i5 i6 i7 i8 i9 j0 j1 j2 j3 j4 j5 j6 w0)
 (hr : ∀ m b6 a6 a7 a8 a9 b0 b1 b2 b3 b4 b5 i2 a1 a2 a3 a4 a5 w, I m b6 a6 a7 a8 a9 b0 b1 b2 b3 b4 b5 i2 a1 a2 a3 a4 a5 w →
 w.heap[n1]? = some (.cells #[.int .u32 a6, .int .u32 a7, .int .u32 a8, .int .u32 a9, .int .u32 b0, .int .u32 b1, .int .u32 b2, .int .u32 b3, .int .u32 b4, .int .u32 b5, .int .u32 i2, .int .u32 a1, .int .u32 a2, .int .u32 a3, .int .u32 a4, .int .u32 a5] 216) →
 brB (decide (b6 < 16)) (
 Calls pP 161 #[(.int .u32 (IntKind.wrap .u32 b6))] w fun e w3 => ∃ x4, e = .returned (.int .u32 x4) ∧ ya4 [n1] [(n0, 216)] [n0] w w3 ∧ ∃ x5 x6 x7 x8 x9 f1 f2 f3 f4 f5 f6 f7 f8 f9 g0 g1, w3.heap[n1]? = some (.cells #[.int .u32 x5, .int .u32 x6, .int .u32 x7, .int .u32 x8, .int .u32 x9, .int .u32 f1, .int .u32 f2, .int .u32 f3, .int .u32 f4, .int .u32 f5, .int .u32 f6, .int .u32 f7, .int .u32 f8, .int .u32 f9, .int .u32 g0, .int .u32 g1] 216) ∧ 0 ≤ b6 ∧ b6 < ((16 : Nat) : Int) ∧
 st w3 (Addr.add ⟨n1, 0, none⟩ (Int.toNat b6 * 1)) [.int .u32 x4] fun d2 => ya4 [n1] [(n0, 216)] [n0] w3 d2 ∧ ∃ d5 d6 d7 d8 d9 e0 e1 e2 e3 e4 e5 e6 e7 e8 e9 f0, d2.heap[n1]? = some (.cells #[.int .u32 d5, .int .u32 d6, .int .u32 d7, .int .u32 d8, .int .u32 d9, .int .u32 e0, .int .u32 e1, .int .u32 e2, .int .u32 e3, .int .u32 e4, .int .u32 e5, .int .u32 e6, .int .u32 e7, .int .u32 e8, .int .u32 e9, .int .u32 f0] 216) ∧
 KS (yFi n0 n1 I m) (ymC n0 n1 ((IntKind.wrap .i64 (b6 + 1)), d5, d6, d7, d8, d9, e0, e1, e2, e3, e4, e5, e6, e7, e8, e9, f0)) d2)
 (
 ∀ d3, Adv [n0] [] w d3 → d3.heap[n1]? = some (.cells #[.int .u32 a6, .int .u32 a7, .int .u32 a8, .int .u32 a9, .int .u32 b0, .int .u32 b1, .int .u32 b2, .int .u32 b3, .int .u32 b4, .int .u32 b5, .int .u32 i2, .int .u32 a1, .int .u32 a2, .int .u32 a3, .int .u32 a4, .int .u32 a5] 216) →
 R (.agg #[.int .u32 a6, .int .u32 a7, .int .u32 a8, .int .u32 a9, .int .u32 b0, .int .u32 b1, .int .u32 b2, .int .u32 b3, .int .u32 b4, .int .u32 b5, .int .u32 i2, .int .u32 a1, .int .u32 a2, .int .u32 a3, .int .u32 a4, .int .u32 a5]) d3)) :
 yaJ ys1 (yJp 395 [0, 0, 1, 0, 1, 1, 1]) (yJq [1, 1, 1, 0, 1, 0] [] R) (ymC n0 n1 (i0, i1, i2, i3, i4, i5, i6, i7, i8, i9, j0, j1, j2, j3, j4, j5, j6)) w0 :=
 lrule (ymC n0 n1) (U17 I) h0 (by rintro m ⟨b6, a6, a7, a8, a9, b0, b1, b2, b3, b4, b5, i2, a1, a2, a3, a4, a5⟩ w h; exact ⟨by kernel_rfl, by kernel_rfl, fun js => Eq.mpr (by kernel_rfl) (hr m b6 a6 a7 a8 a9 b0 b1 b2 b3 b4 b5 i2 a1 a2 a3 a4 a5 w h)⟩)
theorem yJr (h :
 ∀ b1, w.heap.size ≤ b1 →
 ∀ b2, w.heap.size ≤ b2 →
 ∀ a0, Adv [] [b2, b1] w a0 → a0.heap[b2]? = some (.cells #[.int .u32 0, .int .u32 0, .int .u32 0, .int .u32 0, .int .u32 0, .int .u32 0, .int .u32 0, .int .u32 0, .int .u32 0, .int .u32 0, .int .u32 0, .int .u32 0, .int .u32 0, .int .u32 0, .int .u32 0, .int .u32 0] 216) →
 yaJ ys1 (yJp 395 [0, 0, 1, 0, 1, 1, 1]) (yJq [1, 1, 1, 0, 1, 0] [] R) (ymC b1 b2 (0, 0, 0, 0, 0, 0, 0, 0, 0, 0, 0, 0, 0, 0, 0, 0, 0)) a0) :
 CR pP 148 #[] w R :=
 yaA Tryz.wide_mixed (an := yu7) Tryz.func148 rfl rfl (by kernel_rfl) rfl (Eq.mpr (by kernel_rfl) h)
def ys2 : LA := ⟨[0, 0, 1, 0, 1, 1, 1], [1, 5, 6, 12, 13], [(5, 0, 0)], 1, [0]⟩
def yu8 : List LA := [ys2]
abbrev yJs := dnF pP yu8 (code Tryz.f122)
abbrev yNp := yaO pP yu8 (code Tryz.f122)
abbrev yJt (p : List Nat) (K : List Kh) (R : VWP) := yaO pP yu8 (code Tryz.f122) p K (ya7 pP Tryz.f122 [] R)
def ymD (b8 : BA) (b6 : Int) (bm0 : Nat) (a6 a7 a8 a9 b0 b1 b2 b3 b4 b5 a0 a1 a2 a3 a4 a5 : Int) : Int × Int → List Value × List TB := fun (b9, b7) => ([.string b8, (.pointer (some ⟨bm0, 0, none⟩)), .int .u32 b9, .int .i64 b6, .int .i64 b7], [⟨bm0, 216, [.int .u32 a6, .int .u32 a7, .int .u32 a8, .int .u32 a9, .int .u32 b0, .int .u32 b1, .int .u32 b2, .int .u32 b3, .int .u32 b4, .int .u32 b5, .int .u32 a0, .int .u32 a1, .int .u32 a2, .int .u32 a3, .int .u32 a4, .int .u32 a5], true⟩])
abbrev yFj (b7 : BA) (b6 : Int) (bm0 : Nat) (a6 a7 a8 a9 b0 b1 b2 b3 b4 b5 a0 a1 a2 a3 a4 a5 : Int) (I : Nat → Int → Int → World → Prop) (m : Nat) : Kh := KG (ymD b7 b6 bm0 a6 a7 a8 a9 b0 b1 b2 b3 b4 b5 a0 a1 a2 a3 a4 a5) (U2 I) m
theorem yA2 {I : Nat → Int → Int → World → Prop} (m' : Nat) (h1 : m' < m) (h2 : I m' j7 j8 w) : KS (yFj s0 i0 n0 i1 i2 i3 i4 i5 i6 i7 i8 i9 j0 j1 j2 j3 j4 j5 j6 I m) (ymD s0 i0 n0 i1 i2 i3 i4 i5 i6 i7 i8 i9 j0 j1 j2 j3 j4 j5 j6 (j7, j8)) w := ⟨m', h1, _, rfl, rfl, h2⟩
theorem yA3 (I : Nat → Int → Int → World → Prop) (m0 : Nat) (h0 : I m0 j7 j8 w0)
 (hr : ∀ m a6 b7 w, I m a6 b7 w →
 w.heap[n0]? = some (.cells #[.int .u32 i1, .int .u32 i2, .int .u32 i3, .int .u32 i4, .int .u32 i5, .int .u32 i6, .int .u32 i7, .int .u32 i8, .int .u32 i9, .int .u32 j0, .int .u32 j1, .int .u32 j2, .int .u32 j3, .int .u32 j4, .int .u32 j5, .int .u32 j6] 216) →
 brB (decide (b7 < i0)) (
 ixS s0 b7 fun b8 => nn 4 (nz 16 (0 ≤ (Int.tmod (yfB .u32 a6 (IntKind.wrap .u32 b8)) 16) ∧ (Int.tmod (yfB .u32 a6 (IntKind.wrap .u32 b8)) 16) < ((16 : Nat) : Int) ∧
 yaF .u32 w (Addr.add ⟨n0, 0, none⟩ (Int.toNat (Int.tmod (yfB .u32 a6 (IntKind.wrap .u32 b8)) 16) * 1)) fun c1 => nn 4 (nz 16 (0 ≤ (Int.tmod (yfB .u32 (Int.fdiv (yfB .u32 a6 (IntKind.wrap .u32 b8)) (2 ^ (min (Int.toNat 4) 32))) c1) 16) ∧ (Int.tmod (yfB .u32 (Int.fdiv (yfB .u32 a6 (IntKind.wrap .u32 b8)) (2 ^ (min (Int.toNat 4) 32))) c1) 16) < ((16 : Nat) : Int) ∧
 yaF .u32 w (Addr.add ⟨n0, 0, none⟩ (Int.toNat (Int.tmod (yfB .u32 (Int.fdiv (yfB .u32 a6 (IntKind.wrap .u32 b8)) (2 ^ (min (Int.toNat 4) 32))) c1) 16) * 1)) fun c4 =>
 KS (yFj s0 i0 n0 i1 i2 i3 i4 i5 i6 i7 i8 i9 j0 j1 j2 j3 j4 j5 j6 I m) (ymD s0 i0 n0 i1 i2 i3 i4 i5 i6 i7 i8 i9 j0 j1 j2 j3 j4 j5 j6 ((yfB .u32 (Int.fdiv (yfB .u32 (Int.fdiv (yfB .u32 a6 (IntKind.wrap .u32 b8)) (2 ^ (min (Int.toNat 4) 32))) c1) (2 ^ (min (Int.toNat 4) 32))) c4), (IntKind.wrap .i64 (b7 + 1)))) w)))))
 (
 R (.int .u32 (yfB .u32 4294967295 a6)) w)) :
 yaJ ys2 (yJs 395 [0, 0, 1, 0, 1, 1, 1]) (yJt [1, 1, 1, 0, 1, 0] [] R) (ymD s0 i0 n0 i1 i2 i3 i4 i5 i6 i7 i8 i9 j0 j1 j2 j3 j4 j5 j6 (j7, j8)) w0 :=
 lrule (ymD s0 i0 n0 i1 i2 i3 i4 i5 i6 i7 i8 i9 j0 j1 j2 j3 j4 j5 j6) (U2 I) h0 (by rintro m ⟨a6, b7⟩ w h; exact ⟨by kernel_rfl, by kernel_rfl, fun js => Eq.mpr (by kernel_rfl) (hr m a6 b7 w h)⟩)
theorem yJu (h :
 Calls pP 148 #[] w fun e w1 => ∃ x2 x3 x4 x5 x6 x7 x8 x9 a4 a5 a6 a7 a8 a9 b0 b1, e = .returned (.agg #[.int .u32 x2, .int .u32 x3, .int .u32 x4, .int .u32 x5, .int .u32 x6, .int .u32 x7, .int .u32 x8, .int .u32 x9, .int .u32 a4, .int .u32 a5, .int .u32 a6, .int .u32 a7, .int .u32 a8, .int .u32 a9, .int .u32 b0, .int .u32 b1]) ∧
 ∀ a2, w1.heap.size ≤ a2 →
 ∀ a3, Adv [] [a2] w1 a3 → a3.heap[a2]? = some (.cells #[.int .u32 x2, .int .u32 x3, .int .u32 x4, .int .u32 x5, .int .u32 x6, .int .u32 x7, .int .u32 x8, .int .u32 x9, .int .u32 a4, .int .u32 a5, .int .u32 a6, .int .u32 a7, .int .u32 a8, .int .u32 a9, .int .u32 b0, .int .u32 b1] 216) →
 yaJ ys2 (yJs 395 [0, 0, 1, 0, 1, 1, 1]) (yJt [1, 1, 1, 0, 1, 0] [] R) (ymD s0 (s0.size : Int) a2 x2 x3 x4 x5 x6 x7 x8 x9 a4 a5 a6 a7 a8 a9 b0 b1 ((yfB .u32 4294967295 i0), 0)) a3) :
 CR pP 122 #[.int .u32 i0, .string s0] w R :=
 yaA Tryz.wide_mixed (an := yu8) Tryz.func122 rfl rfl (by kernel_rfl) rfl (Eq.mpr (by kernel_rfl) h)
theorem yJv (h :
 Calls pP 122 #[.int .u32 0, .string s0] w fun e w1 => ∃ x2, e = .returned (.int .u32 x2) ∧
 R (.int .u32 x2) w1) :
 CR pP 84 #[.string s0] w R :=
 yaA Tryz.wide_mixed (an := []) Tryz.func84 rfl rfl (by kernel_rfl) rfl (Eq.mpr (by kernel_rfl) h)
def ys3 : LA := ⟨[0, 0, 1, 0, 1, 1], [0, 3, 7, 8], [], 0, []⟩
def yu9 : List LA := [ys3]
abbrev yJw := dnF pP yu9 (code Tryz.f83)
abbrev yNq := yaO pP yu9 (code Tryz.f83)
abbrev yJx (p : List Nat) (K : List Kh) (R : VWP) := yaO pP yu9 (code Tryz.f83) p K (ya7 pP Tryz.f83 [] R)
def ymE (a3 : Int) (a0 : OA) (a2 a1 : Nat) (a4 : Int) : Int → List Value × List TB := fun a5 => ([.int .u32 a3, .slice a0 a2 a1, .int .i64 a4, .int .i64 a5], [])
abbrev yFk (a3 : Int) (a0 : OA) (a2 a1 : Nat) (a4 : Int) (I : Nat → Int → World → Prop) (m : Nat) : Kh := KG (ymE a3 a0 a2 a1 a4) (U1 I) m
theorem yA4 {I : Nat → Int → World → Prop} (m' : Nat) (h1 : m' < m) (h2 : I m' i2 w) : KS (yFk i0 q0 n0 n1 i1 I m) (ymE i0 q0 n0 n1 i1 i2) w := ⟨m', h1, _, rfl, rfl, h2⟩
theorem yA5 {a1 : OA} (I : Nat → Int → World → Prop) (m0 : Nat) (h0 : I m0 i2 w0)
 (hr : ∀ m a0 w, I m a0 w →
 brB (decide (a0 < i1)) (nn (IntKind.wrap .i64 (8 * a0)) (
 ixA a1 n0 a0 1 fun q5 =>
 st w q5 [(.int .u8 (IntKind.wrap .u8 (Int.fdiv i0 (2 ^ (min (Int.toNat (IntKind.wrap .i64 (8 * a0))) 32)))))] fun w6 =>
 KS (yFk i0 a1 n0 n1 i1 I m) (ymE i0 a1 n0 n1 i1 (IntKind.wrap .i64 (a0 + 1))) w6))
 (
 ∃ s7 w8, Sem.run pP (Go.convert 104 9 (.slice a1 n0 n1)) w = .ok (.string s7) w8 ∧
 R (.string s7) w8)) :
 yaJ ys3 (yJw 396 [0, 0, 1, 0, 1, 1]) (yJx [1, 1, 0, 1, 0] [] R) (ymE i0 a1 n0 n1 i1 i2) w0 :=
 lrule (ymE i0 a1 n0 n1 i1) (U1 I) h0 (by rintro m a0 w h; exact ⟨by kernel_rfl, by kernel_rfl, fun js => Eq.mpr (by kernel_rfl) (hr m a0 w h)⟩)
theorem yJy (h :
 ycE pP (Instr.makeSlice 104 (.int .i64 4) (.int .i64 4)) w fun a1 n2 c3 w4 =>
 yaJ ys3 (yJw 396 [0, 0, 1, 0, 1, 1]) (yJx [1, 1, 0, 1, 0] [] R) (ymE i0 a1 n2 c3 (n2 : Int) 0) w4) :
 CR pP 83 #[.int .u32 i0] w R :=
 yaA Tryz.wide_mixed (an := yu9) Tryz.func83 rfl rfl (by kernel_rfl) rfl (Eq.mpr (by kernel_rfl) h)
theorem yJz {a0 : BA} (h :
 Calls pP 56 #[.string a0] w fun e w1 => ∃ s2, e = .returned (.string s2) ∧
 Calls pP 84 #[.string a0] w1 fun e w3 => ∃ x4, e = .returned (.int .u32 x4) ∧
 Calls pP 83 #[.int .u32 x4] w3 fun e w5 => ∃ s6, e = .returned (.string s6) ∧
 yfP s2 s6 fun s7 =>
 R (.string s7) w5) :
 CR pP 57 #[.string a0] w R :=
 yaA Tryz.wide_mixed (an := []) Tryz.func57 rfl rfl (by kernel_rfl) rfl (Eq.mpr (by kernel_rfl) h)
theorem yJA {a1 : BA} (h :
 Calls pP 85 (Z2 a1 i0 i1) w fun e w1 => ∃ s2 x3 x4, e = .returned (.tuple (Z2 s2 x3 x4)) ∧
 brB (x4 != 0) (
 R (.tuple (Z2 (⟨#[]⟩ : BA) 0 x4)) w1)
 (
 brB (decide ((IntKind.wrap .i64 ((a1.size : Int) - x3)) < 4)) (
 R (.tuple (Z2 (⟨#[]⟩ : BA) 0 20)) w1)
 (
 slS a1 x3 (IntKind.wrap .i64 (x3 + 4)) fun s5 =>
 ∀ w6, Adv [] [] w1 w6 →
 Calls pP 84 #[.string s2] w6 fun e w7 => ∃ x8, e = .returned (.int .u32 x8) ∧
 Calls pP 83 #[.int .u32 x8] w7 fun e w9 => ∃ a3, e = .returned (.string a3) ∧
 brB (!(s5.toList == a3.toList)) (
 R (.tuple (Z2 (⟨#[]⟩ : BA) 0 21)) w9)
 (
 R (.tuple (Z2 s2 (IntKind.wrap .i64 (x3 + 4)) 0)) w9)))) :
 CR pP 58 (Z2 a1 i0 i1) w R :=
 yaA Tryz.wide_mixed (an := []) Tryz.func58 rfl rfl (by kernel_rfl) rfl (Eq.mpr (by kernel_rfl) h)
end
theorem ymF {x y : Int} : 0 ≤ yfB .u32 x y ∧ yfB .u32 x y < 4294967296 := by
 unfold yfB
 rw [IntKind.wrap_u32]
 omega
def yoB (c : Int) : Int := yfB .u32 (Int.fdiv c (2 ^ (min (Int.toNat 1) 32))) (yh9 .u32 3988292384 (IntKind.wrap .u32 (0 - (yh9 .u32 c 1))))
def yxV (c : Int) : Nat → Int
 | 0 => c
 | k + 1 => yoB (yxV c k)
def ye2 (j : Nat) : Int := yxV (IntKind.wrap .u32 (j : Nat)) 4
theorem yJB (c : Int) (w : World) : Calls pP 161 #[.int .u32 c] w fun e w' => e = .returned (.int .u32 (yxV c 4)) ∧ w' = w := by
 refine yaQ (yJo ?_)
 refine yA0 (fun mm x y w' => ∃ k : Nat, y = k ∧ k ≤ 4 ∧ x = yxV c k ∧ w' = w ∧ mm = 4 - k) 4 ⟨0, rfl, by omega, rfl, rfl, rfl⟩ ?_
 rintro mm x y w' ⟨k, rfl, hk, rfl, rfl, rfl⟩
 refine yaE (fun h => ⟨by omega, ?_⟩) fun h => ?_
 ·exact yAZ (4 - (k + 1)) (by omega) ⟨k + 1, by rw [yaH (by omega) (by omega)]; omega, by omega, rfl, rfl, rfl⟩
 ·have hk : k = 4 := by omega
  subst hk
  exact ⟨rfl, rfl⟩
def yaN (k j : Nat) : Int := if j < k then ye2 j else 0
def yNr : Value := .agg #[.int .u32 (ye2 0), .int .u32 (ye2 1), .int .u32 (ye2 2), .int .u32 (ye2 3), .int .u32 (ye2 4), .int .u32 (ye2 5), .int .u32 (ye2 6), .int .u32 (ye2 7), .int .u32 (ye2 8), .int .u32 (ye2 9), .int .u32 (ye2 10), .int .u32 (ye2 11), .int .u32 (ye2 12), .int .u32 (ye2 13), .int .u32 (ye2 14), .int .u32 (ye2 15)]
set_option maxHeartbeats 4000000 in
theorem yGP (w : World) : Calls pP 148 #[] w fun e w' => e = .returned yNr ∧ Mod [] w w' := by
 refine yaQ (yJr ?_)
 intro b1 f1 b2 f2 w0 A0 h0
 refine yA1 (fun mm x x0 x1 x2 x3 x4 x5 x6 x7 x8 x9 x10 x11 x12 x13 x14 x15 w' => ∃ k : Nat, x = k ∧ k ≤ 16 ∧ x0 = yaN k 0 ∧ x1 = yaN k 1 ∧ x2 = yaN k 2 ∧ x3 = yaN k 3 ∧ x4 = yaN k 4 ∧ x5 = yaN k 5 ∧ x6 = yaN k 6 ∧ x7 = yaN k 7 ∧ x8 = yaN k 8 ∧ x9 = yaN k 9 ∧ x10 = yaN k 10 ∧ x11 = yaN k 11 ∧ x12 = yaN k 12 ∧ x13 = yaN k 13 ∧ x14 = yaN k 14 ∧ x15 = yaN k 15 ∧ Mod [] w w' ∧ mm = 16 - k) 16 ⟨0, rfl, by omega, rfl, rfl, rfl, rfl, rfl, rfl, rfl, rfl, rfl, rfl, rfl, rfl, rfl, rfl, rfl, rfl, A0.mod, rfl⟩ ?_
 rintro mm x x0 x1 x2 x3 x4 x5 x6 x7 x8 x9 x10 x11 x12 x13 x14 x15 w1 ⟨k, rfl, hk, rfl, rfl, rfl, rfl, rfl, rfl, rfl, rfl, rfl, rfl, rfl, rfl, rfl, rfl, rfl, rfl, M1, rfl⟩ hc
 refine yaE (fun hlt => ?_) fun hge => ?_
 ·refine (yJB _ w1).mono ?_
  rintro e w2 ⟨rfl, rfl⟩
  refine ⟨_, rfl, yaD.of0 (Mod.refl _), _, _, _, _, _, _, _, _, _, _, _, _, _, _, _, _, hc, by omega, by omega, ?_⟩
  have hb2 : w.heap.size ≤ b2 := f2
  rw [show (⟨b2, 0, none⟩ : Addr).add (Int.toNat (k : Int) * 1) = ⟨b2, k, none⟩ by rw [ya6]; simp]
  refine ydX (b := b2) (o := k) hc rfl (by simp; omega) fun w3 h3 M3 => ?_
  refine ⟨yaD.ofE M3 fun b hb _ he => by simpa using he, ?_⟩
  have hM : Mod [] w w3 := M1.go0 M3 (by simpa using f2)
  have ek : IntKind.wrap .i64 ((k : Int) + 1) = ((k + 1 : Nat) : Int) := by rw [yaH (by omega) (by omega)]; omega
  have hcs : k = 0 ∨ k = 1 ∨ k = 2 ∨ k = 3 ∨ k = 4 ∨ k = 5 ∨ k = 6 ∨ k = 7 ∨ k = 8 ∨ k = 9 ∨ k = 10 ∨ k = 11 ∨ k = 12 ∨ k = 13 ∨ k = 14 ∨ k = 15 := by omega
  rcases hcs with rfl | rfl | rfl | rfl | rfl | rfl | rfl | rfl | rfl | rfl | rfl | rfl | rfl | rfl | rfl | rfl
  ·exact ⟨yaN 1 0, yaN 1 1, yaN 1 2, yaN 1 3, yaN 1 4, yaN 1 5, yaN 1 6, yaN 1 7, yaN 1 8, yaN 1 9, yaN 1 10, yaN 1 11, yaN 1 12, yaN 1 13, yaN 1 14, yaN 1 15, h3, ybH (16 - (0 + 1)) (by omega) ⟨0 + 1, ek, by omega, rfl, rfl, rfl, rfl, rfl, rfl, rfl, rfl, rfl, rfl, rfl, rfl, rfl, rfl, rfl, rfl, hM, rfl⟩⟩
  ·exact ⟨yaN 2 0, yaN 2 1, yaN 2 2, yaN 2 3, yaN 2 4, yaN 2 5, yaN 2 6, yaN 2 7, yaN 2 8, yaN 2 9, yaN 2 10, yaN 2 11, yaN 2 12, yaN 2 13, yaN 2 14, yaN 2 15, h3, ybH (16 - (1 + 1)) (by omega) ⟨1 + 1, ek, by omega, rfl, rfl, rfl, rfl, rfl, rfl, rfl, rfl, rfl, rfl, rfl, rfl, rfl, rfl, rfl, rfl, hM, rfl⟩⟩
  ·exact ⟨yaN 3 0, yaN 3 1, yaN 3 2, yaN 3 3, yaN 3 4, yaN 3 5, yaN 3 6, yaN 3 7, yaN 3 8, yaN 3 9, yaN 3 10, yaN 3 11, yaN 3 12, yaN 3 13, yaN 3 14, yaN 3 15, h3, ybH (16 - (2 + 1)) (by omega) ⟨2 + 1, ek, by omega, rfl, rfl, rfl, rfl, rfl, rfl, rfl, rfl, rfl, rfl, rfl, rfl, rfl, rfl, rfl, rfl, hM, rfl⟩⟩
  ·exact ⟨yaN 4 0, yaN 4 1, yaN 4 2, yaN 4 3, yaN 4 4, yaN 4 5, yaN 4 6, yaN 4 7, yaN 4 8, yaN 4 9, yaN 4 10, yaN 4 11, yaN 4 12, yaN 4 13, yaN 4 14, yaN 4 15, h3, ybH (16 - (3 + 1)) (by omega) ⟨3 + 1, ek, by omega, rfl, rfl, rfl, rfl, rfl, rfl, rfl, rfl, rfl, rfl, rfl, rfl, rfl, rfl, rfl, rfl, hM, rfl⟩⟩
  ·exact ⟨yaN 5 0, yaN 5 1, yaN 5 2, yaN 5 3, yaN 5 4, yaN 5 5, yaN 5 6, yaN 5 7, yaN 5 8, yaN 5 9, yaN 5 10, yaN 5 11, yaN 5 12, yaN 5 13, yaN 5 14, yaN 5 15, h3, ybH (16 - (4 + 1)) (by omega) ⟨4 + 1, ek, by omega, rfl, rfl, rfl, rfl, rfl, rfl, rfl, rfl, rfl, rfl, rfl, rfl, rfl, rfl, rfl, rfl, hM, rfl⟩⟩
  ·exact ⟨yaN 6 0, yaN 6 1, yaN 6 2, yaN 6 3, yaN 6 4, yaN 6 5, yaN 6 6, yaN 6 7, yaN 6 8, yaN 6 9, yaN 6 10, yaN 6 11, yaN 6 12, yaN 6 13, yaN 6 14, yaN 6 15, h3, ybH (16 - (5 + 1)) (by omega) ⟨5 + 1, ek, by omega, rfl, rfl, rfl, rfl, rfl, rfl, rfl, rfl, rfl, rfl, rfl, rfl, rfl, rfl, rfl, rfl, hM, rfl⟩⟩
  ·exact ⟨yaN 7 0, yaN 7 1, yaN 7 2, yaN 7 3, yaN 7 4, yaN 7 5, yaN 7 6, yaN 7 7, yaN 7 8, yaN 7 9, yaN 7 10, yaN 7 11, yaN 7 12, yaN 7 13, yaN 7 14, yaN 7 15, h3, ybH (16 - (6 + 1)) (by omega) ⟨6 + 1, ek, by omega, rfl, rfl, rfl, rfl, rfl, rfl, rfl, rfl, rfl, rfl, rfl, rfl, rfl, rfl, rfl, rfl, hM, rfl⟩⟩
  ·exact ⟨yaN 8 0, yaN 8 1, yaN 8 2, yaN 8 3, yaN 8 4, yaN 8 5, yaN 8 6, yaN 8 7, yaN 8 8, yaN 8 9, yaN 8 10, yaN 8 11, yaN 8 12, yaN 8 13, yaN 8 14, yaN 8 15, h3, ybH (16 - (7 + 1)) (by omega) ⟨7 + 1, ek, by omega, rfl, rfl, rfl, rfl, rfl, rfl, rfl, rfl, rfl, rfl, rfl, rfl, rfl, rfl, rfl, rfl, hM, rfl⟩⟩
  ·exact ⟨yaN 9 0, yaN 9 1, yaN 9 2, yaN 9 3, yaN 9 4, yaN 9 5, yaN 9 6, yaN 9 7, yaN 9 8, yaN 9 9, yaN 9 10, yaN 9 11, yaN 9 12, yaN 9 13, yaN 9 14, yaN 9 15, h3, ybH (16 - (8 + 1)) (by omega) ⟨8 + 1, ek, by omega, rfl, rfl, rfl, rfl, rfl, rfl, rfl, rfl, rfl, rfl, rfl, rfl, rfl, rfl, rfl, rfl, hM, rfl⟩⟩
  ·exact ⟨yaN 10 0, yaN 10 1, yaN 10 2, yaN 10 3, yaN 10 4, yaN 10 5, yaN 10 6, yaN 10 7, yaN 10 8, yaN 10 9, yaN 10 10, yaN 10 11, yaN 10 12, yaN 10 13, yaN 10 14, yaN 10 15, h3, ybH (16 - (9 + 1)) (by omega) ⟨9 + 1, ek, by omega, rfl, rfl, rfl, rfl, rfl, rfl, rfl, rfl, rfl, rfl, rfl, rfl, rfl, rfl, rfl, rfl, hM, rfl⟩⟩
  ·exact ⟨yaN 11 0, yaN 11 1, yaN 11 2, yaN 11 3, yaN 11 4, yaN 11 5, yaN 11 6, yaN 11 7, yaN 11 8, yaN 11 9, yaN 11 10, yaN 11 11, yaN 11 12, yaN 11 13, yaN 11 14, yaN 11 15, h3, ybH (16 - (10 + 1)) (by omega) ⟨10 + 1, ek, by omega, rfl, rfl, rfl, rfl, rfl, rfl, rfl, rfl, rfl, rfl, rfl, rfl, rfl, rfl, rfl, rfl, hM, rfl⟩⟩
  ·exact ⟨yaN 12 0, yaN 12 1, yaN 12 2, yaN 12 3, yaN 12 4, yaN 12 5, yaN 12 6, yaN 12 7, yaN 12 8, yaN 12 9, yaN 12 10, yaN 12 11, yaN 12 12, yaN 12 13, yaN 12 14, yaN 12 15, h3, ybH (16 - (11 + 1)) (by omega) ⟨11 + 1, ek, by omega, rfl, rfl, rfl, rfl, rfl, rfl, rfl, rfl, rfl, rfl, rfl, rfl, rfl, rfl, rfl, rfl, hM, rfl⟩⟩
  ·exact ⟨yaN 13 0, yaN 13 1, yaN 13 2, yaN 13 3, yaN 13 4, yaN 13 5, yaN 13 6, yaN 13 7, yaN 13 8, yaN 13 9, yaN 13 10, yaN 13 11, yaN 13 12, yaN 13 13, yaN 13 14, yaN 13 15, h3, ybH (16 - (12 + 1)) (by omega) ⟨12 + 1, ek, by omega, rfl, rfl, rfl, rfl, rfl, rfl, rfl, rfl, rfl, rfl, rfl, rfl, rfl, rfl, rfl, rfl, hM, rfl⟩⟩
  ·exact ⟨yaN 14 0, yaN 14 1, yaN 14 2, yaN 14 3, yaN 14 4, yaN 14 5, yaN 14 6, yaN 14 7, yaN 14 8, yaN 14 9, yaN 14 10, yaN 14 11, yaN 14 12, yaN 14 13, yaN 14 14, yaN 14 15, h3, ybH (16 - (13 + 1)) (by omega) ⟨13 + 1, ek, by omega, rfl, rfl, rfl, rfl, rfl, rfl, rfl, rfl, rfl, rfl, rfl, rfl, rfl, rfl, rfl, rfl, hM, rfl⟩⟩
  ·exact ⟨yaN 15 0, yaN 15 1, yaN 15 2, yaN 15 3, yaN 15 4, yaN 15 5, yaN 15 6, yaN 15 7, yaN 15 8, yaN 15 9, yaN 15 10, yaN 15 11, yaN 15 12, yaN 15 13, yaN 15 14, yaN 15 15, h3, ybH (16 - (14 + 1)) (by omega) ⟨14 + 1, ek, by omega, rfl, rfl, rfl, rfl, rfl, rfl, rfl, rfl, rfl, rfl, rfl, rfl, rfl, rfl, rfl, rfl, hM, rfl⟩⟩
  ·exact ⟨yaN 16 0, yaN 16 1, yaN 16 2, yaN 16 3, yaN 16 4, yaN 16 5, yaN 16 6, yaN 16 7, yaN 16 8, yaN 16 9, yaN 16 10, yaN 16 11, yaN 16 12, yaN 16 13, yaN 16 14, yaN 16 15, h3, ybH (16 - (15 + 1)) (by omega) ⟨15 + 1, ek, by omega, rfl, rfl, rfl, rfl, rfl, rfl, rfl, rfl, rfl, rfl, rfl, rfl, rfl, rfl, rfl, rfl, hM, rfl⟩⟩
 ·have hk : k = 16 := by omega
  subst hk
  intro w2 A2 _
  exact ⟨rfl, M1.go0 A2.mod (by simpa using f1)⟩
def yeB (c : Int) (b : UInt8) : Int :=
 yfB .u32 (Int.fdiv (yfB .u32 (Int.fdiv (yfB .u32 c (IntKind.wrap .u32 (b.toNat : Nat))) (2 ^ (min (Int.toNat 4) 32))) (ye2 (Int.tmod (yfB .u32 c (IntKind.wrap .u32 (b.toNat : Nat))) 16).toNat)) (2 ^ (min (Int.toNat 4) 32)))
  (ye2 (Int.tmod (yfB .u32 (Int.fdiv (yfB .u32 c (IntKind.wrap .u32 (b.toNat : Nat))) (2 ^ (min (Int.toNat 4) 32))) (ye2 (Int.tmod (yfB .u32 c (IntKind.wrap .u32 (b.toNat : Nat))) 16).toNat)) 16).toNat)
theorem yvA {w : World} {b : Nat} {T : TypeId} (h : w.heap[b]? = some (.cells #[.int .u32 (ye2 0), .int .u32 (ye2 1), .int .u32 (ye2 2), .int .u32 (ye2 3), .int .u32 (ye2 4), .int .u32 (ye2 5), .int .u32 (ye2 6), .int .u32 (ye2 7), .int .u32 (ye2 8), .int .u32 (ye2 9), .int .u32 (ye2 10), .int .u32 (ye2 11), .int .u32 (ye2 12), .int .u32 (ye2 13), .int .u32 (ye2 14), .int .u32 (ye2 15)] T)) {i : Nat} (hi : i < 16) : w.cell? ((⟨b, 0, none⟩ : Addr).add (i * 1)) = some (.int .u32 (ye2 i)) := by
 rw [ya6, Nat.zero_add, Nat.mul_one, yaY h]
 have e : i = 0 ∨ i = 1 ∨ i = 2 ∨ i = 3 ∨ i = 4 ∨ i = 5 ∨ i = 6 ∨ i = 7 ∨ i = 8 ∨ i = 9 ∨ i = 10 ∨ i = 11 ∨ i = 12 ∨ i = 13 ∨ i = 14 ∨ i = 15 := by omega
 rcases e with rfl | rfl | rfl | rfl | rfl | rfl | rfl | rfl | rfl | rfl | rfl | rfl | rfl | rfl | rfl | rfl <;> rfl
theorem yFl {x : Int} (h : 0 ≤ x) : 0 ≤ Int.tmod x 16 ∧ Int.tmod x 16 < ((16 : Nat) : Int) := by
 rw [Int.tmod_eq_emod_of_nonneg h]; omega
def yJC (c : Int) (l : List UInt8) : Int := yfB .u32 4294967295 (l.foldl yeB (yfB .u32 4294967295 c))
theorem yGQ (c : Int) (s : ByteArray) (hs : s.size ≤ 1000000000000) (w : World) : Calls pP 122 #[.int .u32 c, .string s] w fun e w' => e = .returned (.int .u32 (yJC c s.data.toList)) ∧ Mod [] w w' := by
 refine yaQ (yJu ?_)
 refine (yGP w).mono ?_
 rintro e w1 ⟨rfl, M1⟩
 refine ⟨_, _, _, _, _, _, _, _, _, _, _, _, _, _, _, _, rfl, ?_⟩
 intro b2 f2 w2 A2 h2
 have N2 := M1.go0 A2.mod (by simp)
 refine yA3 (fun mm x y w' => ∃ k : Nat, y = k ∧ k ≤ s.size ∧ x = (s.data.toList.take k).foldl yeB (yfB .u32 4294967295 c) ∧ w' = w2 ∧ mm = s.size - k) s.size ⟨0, rfl, by omega, by simp, rfl, rfl⟩ ?_
 rintro mm x y w3 ⟨k, rfl, hk, rfl, rfl, rfl⟩ _
 refine yaE (fun hlt => ?_) fun hge => ?_
 ·have hk' : k < s.size := by omega
  obtain ⟨b, hb, hv⟩ := ycS hk'
  refine ⟨by omega, by omega, ?_⟩
  rw [Int.toNat_natCast, hv]
  have t1 := yFl (x := yfB .u32 ((s.data.toList.take k).foldl yeB (yfB .u32 4294967295 c)) (IntKind.wrap .u32 (b.toNat : Nat))) ymF.1
  refine ⟨by omega, by omega, t1.1, t1.2, yaB (yvA h2 (by omega)) ?_⟩
  have t2 := yFl (x := yfB .u32 (Int.fdiv (yfB .u32 ((s.data.toList.take k).foldl yeB (yfB .u32 4294967295 c)) (IntKind.wrap .u32 (b.toNat : Nat))) (2 ^ (min (Int.toNat 4) 32))) (ye2 (Int.tmod (yfB .u32 ((s.data.toList.take k).foldl yeB (yfB .u32 4294967295 c)) (IntKind.wrap .u32 (b.toNat : Nat))) 16).toNat)) ymF.1
  refine ⟨by omega, by omega, t2.1, t2.2, yaB (yvA h2 (by omega)) ?_⟩
  refine yA2 (s.size - (k + 1)) (by omega) ⟨k + 1, by rw [yaH (by omega) (by omega)]; omega, by omega, ?_, rfl, rfl⟩
  rw [List.take_add_one, hb]
  simp [yeB]
 ·have hk : k = s.size := by omega
  subst hk
  rw [List.take_of_length_le (by simp)]
  exact ⟨rfl, N2⟩
def yA6 (l : List UInt8) : Int := yJC 0 l
theorem yFm (s : ByteArray) (hs : s.size ≤ 1000000000000) (w : World) : Calls pP 84 #[.string s] w fun e w' => e = .returned (.int .u32 (yA6 s.data.toList)) ∧ Mod [] w w' := by
 refine yaQ (yJv ?_)
 refine (yGQ 0 s hs w).mono ?_
 rintro e w1 ⟨rfl, M1⟩
 exact ⟨_, rfl, rfl, M1⟩
def lbI (n : Int) (k : Nat) : Int := IntKind.wrap .u8 (Int.fdiv n (2 ^ (min (Int.toNat ((8 * k : Nat) : Int)) 32)))
def lb (n : Int) (k : Nat) : UInt8 := UInt8.ofNat (lbI n k).toNat
theorem yjG (n : Int) (k : Nat) : ((lb n k).toNat : Int) = lbI n k := by
 have h : 0 ≤ lbI n k ∧ lbI n k < 256 := by unfold lbI; rw [IntKind.wrap_u8]; omega
 have : (lb n k).toNat = (lbI n k).toNat := by simp [lb]; omega
 omega
theorem yMy : madeCells #[Value.int .u8 0] 4 = #[.int .u8 0, .int .u8 0, .int .u8 0, .int .u8 0] := by kernel_rfl
def ydP (n : Int) : List UInt8 := [lb n 0, lb n 1, lb n 2, lb n 3]
theorem yA7 (n : Int) (w : World) : Calls pP 83 #[.int .u32 n] w fun e w' => e = .returned (.string (bs (ydP n))) ∧ Mod [] w w' := by
 refine yaQ (yJy ?_)
 obtain ⟨i0, hi, hz0, hz1, hz2⟩ := info_parts yE9
 have hmk : (Instr.makeSlice 104 (.int .i64 4) (.int .i64 4)).run pP w = .ok (.slice (some ⟨w.heap.size, 0, none⟩) 4 4) (w.alloc (.cells (madeCells #[Value.int .u8 0] 4) 5)) := by
  have h := run_makeSlice (P := pP) w 104 5 i0 (.int .u8 0) Tryz.underlying104 hi hz0 .i64 .i64 4 4 (by omega) (by omega) (by rw [hz1]; decide) (by rw [hz2]; decide) (by decide)
  rw [hz1] at h
  exact h
 refine ⟨_, _, _, _, hmk, ?_⟩
 have M1 : Mod [] w (w.alloc (.cells (madeCells #[Value.int .u8 0] 4) 5)) := Mod.of_below ((Below.refl _ _).alloc (Nat.le_refl _) _)
 have h1 : (w.alloc (.cells (madeCells #[Value.int .u8 0] 4) 5)).heap[w.heap.size]? = some (.cells #[.int .u8 0, .int .u8 0, .int .u8 0, .int .u8 0] 5) := by
  have := World.alloc_heap_new w (.cells (madeCells #[Value.int .u8 0] 4) 5)
  rw [this, yMy]
 obtain ⟨f, hf⟩ : ∃ f : Nat → Nat → Value, f = fun k j => if j < k then .int .u8 (lbI n j) else .int .u8 0 := ⟨_, rfl⟩
 refine yA5 (fun mm x w' => ∃ k : Nat, x = k ∧ k ≤ 4 ∧ w'.heap[w.heap.size]? = some (.cells #[f k 0, f k 1, f k 2, f k 3] 5) ∧ Mod [] w w' ∧ mm = 4 - k) 4 ⟨0, rfl, by omega, by rw [hf]; exact h1, M1, rfl⟩ ?_
 rintro mm x w2 ⟨k, rfl, hk, h2, M2, rfl⟩
 have e8 : k ≤ 3 → IntKind.wrap .i64 (8 * (k : Int)) = ((8 * k : Nat) : Int) := fun _ => by rw [yaH (by omega) (by omega)]; omega
 refine yaE (fun hlt => ⟨by rw [e8 (by omega)]; omega, ?_⟩) fun hge => ?_
 ·rw [e8 (by omega)]
  refine ⟨_, rfl, by omega, by omega, ?_⟩
  rw [show (⟨w.heap.size, 0, none⟩ : Addr).add (Int.toNat (k : Int) * 1) = ⟨w.heap.size, k, none⟩ by rw [ya6]; simp]
  have ek : IntKind.wrap .i64 ((k : Int) + 1) = ((k + 1 : Nat) : Int) := by rw [yaH (by omega) (by omega)]; omega
  refine ydX (o := k) h2 rfl (by simp; omega) fun w3 h3 M3 => ?_
  have hM : Mod [] w w3 := M2.go0 M3 (by simp)
  refine yA4 (4 - (k + 1)) (by omega) ⟨k + 1, ek, by omega, ?_, hM, rfl⟩
  rw [h3]
  have hcs : k = 0 ∨ k = 1 ∨ k = 2 ∨ k = 3 := by omega
  subst hf
  rcases hcs with rfl | rfl | rfl | rfl <;> rfl
 ·have hk : k = 4 := by omega
  subst hk
  refine ⟨_, _, run_convert_bytes_back w2 _ _ 5 ⟨w.heap.size, 0, none⟩ 4 (ydP n) Tryz.underlying104 Tryz.underlying5 Tryz.underlying9 fun j hj => ?_, rfl, M2⟩
  rw [ya6, Nat.zero_add, yaY h2]
  subst hf
  have hj : j < 4 := hj
  match j, hj with
  | 0, _ => simp [ydP, yjG]
  | 1, _ => simp [ydP, yjG]
  | 2, _ => simp [ydP, yjG]
  | 3, _ => simp [ydP, yjG]
def yeM (s : ByteArray) : List UInt8 := yb3 s ++ ydP (yA6 s.data.toList)
theorem yvB (s : ByteArray) (hs : s.size ≤ 1000000000000) (w : World) : Calls pP 57 #[.string s] w fun e w' => e = .returned (.string (bs (yeM s))) ∧ Mod [] w w' := by
 refine yaQ (yJz ?_)
 refine (ycT s (by omega) w).mono ?_
 rintro e w1 ⟨rfl, M1⟩
 refine ⟨_, rfl, ?_⟩
 refine (yFm s hs w1).mono ?_
 rintro e w2 ⟨rfl, M2⟩
 refine ⟨_, rfl, ?_⟩
 refine (yA7 _ w2).mono ?_
 rintro e w3 ⟨rfl, M3⟩
 have := yaV s (by omega)
 refine ⟨_, rfl, by rw [yaG, yaG]; simp [ydP]; omega, ?_⟩
 exact ⟨by rw [ybF]; rfl, (M1.go0 M2 (by simp)).go0 M3 (by simp)⟩
def vg : Nat → List UInt8 → Option (Nat × Nat)
 | _, [] => none
 | k, c :: r => if (k = 9 ∧ 1 < c.toNat) ∨ (0 < k ∧ c.toNat = 0) then none
  else if c.toNat < 128 then some (c.toNat, 1)
  else (vg (k + 1) r).map fun p => (c.toNat % 128 + 128 * p.1, p.2 + 1)
theorem yGR (k : Nat) (c : UInt8) (r : List UInt8) : vg k (c :: r) = if (k = 9 ∧ 1 < c.toNat) ∨ (0 < k ∧ c.toNat = 0) then none
 else if c.toNat < 128 then some (c.toNat, 1)
 else (vg (k + 1) r).map fun p => (c.toNat % 128 + 128 * p.1, p.2 + 1) := rfl
theorem yq6 : ∀ (l : List UInt8) {k n m : Nat}, vg k l = some (n, m) → 1 ≤ m ∧ m ≤ l.length
 | [], k, n, m, h => by simp [vg] at h
 | c :: r, k, n, m, h => by
  unfold vg at h
  split at h
  ·simp at h
  split at h
  ·simp at h; simp; omega
  cases hr : vg (k + 1) r with
  | none => simp [hr] at h
  | some p =>
   have := yq6 r (n := p.1) (m := p.2) hr
   simp [hr] at h; simp; omega
theorem yGS : ∀ (l : List UInt8) {k n m : Nat}, k ≤ 9 → vg k l = some (n, m) → n < 2 ^ (64 - 7 * k)
 | [], k, n, m, _, h => by simp [vg] at h
 | c :: r, k, n, m, hk, h => by
  unfold vg at h
  split at h
  ·simp at h
  rename_i hl
  split at h
  ·simp at h
   rename_i hc
   have h2 : 2 ^ 8 ≤ 2 ^ (64 - 7 * k) ∨ k = 9 := by
    by_cases k = 9
    ·exact .inr ‹_›
    ·exact .inl (Nat.pow_le_pow_right (by omega) (by omega))
   rcases h2 with h2 | rfl
   ·omega
   ·simp; omega
  cases hr : vg (k + 1) r with
  | none => simp [hr] at h
  | some p =>
   have hk9 : k ≠ 9 := by omega
   have := yGS r (n := p.1) (m := p.2) (by omega) hr
   have e : 64 - 7 * k = (64 - 7 * (k + 1)) + 7 := by omega
   rw [e, Nat.pow_add]
   simp [hr] at h
   omega
theorem yA8 : ∀ (j k n : Nat) (r : List UInt8), j + k = 9 → n < 2 ^ (64 - 7 * k) → (0 < k → 0 < n) → vg k (yaL n ++ r) = some (n, (yaL n).length)
 | j, k, n, r, hj, hn, h0 => by
  unfold yaL
  by_cases hs : n < 128
  ·have e : (UInt8.ofNat n).toNat = n := by simp; omega
   rw [ydB hs]
   simp only [List.map_cons, List.map_nil, Bool.false_eq_true, if_false, List.cons_append, List.nil_append, vg, e, List.length_cons, List.length_nil]
   rw [if_neg, if_pos hs]
   rintro (⟨rfl, h⟩ | ⟨h1, h2⟩)
   ·simp at hn; omega
   ·omega
  ·have e : (UInt8.ofNat (n % 128 + 128)).toNat = n % 128 + 128 := by simp; omega
   have hk9 : k ≠ 9 := by rintro rfl; simp at hn; omega
   obtain ⟨j, rfl⟩ : ∃ i, j = i + 1 := ⟨j - 1, by omega⟩
   have e2 : 64 - 7 * k = (64 - 7 * (k + 1)) + 7 := by omega
   rw [e2, Nat.pow_add] at hn
   have ih := yA8 j (k + 1) (n / 128) r (by omega) (by omega) (by omega)
   unfold yaL at ih
   rw [yhT hs]
   simp only [List.map_cons, if_true, List.cons_append, vg, e, List.length_cons]
   rw [if_neg (by omega), if_neg (by omega), ih]
   simp; omega
 termination_by j => j
theorem yMz (a b : Nat) (ha : a < 18446744073709551616) (hb : b < 18446744073709551616) : bOr .u64 a b = ((a ||| b : Nat) : Int) := by
 have h : a ||| b < 2 ^ 64 := Nat.or_lt_two_pow ha hb
 unfold bOr
 rw [IntKind.wrap_u64]
 simp only [BitVec.toNat_or, BitVec.toNat_ofInt]
 have e1 : ((a : Int) % ((2 ^ IntKind.bits .u64 : Nat) : Int)).toNat = a := by
  show ((a : Int) % ((2 ^ 64 : Nat) : Int)).toNat = a
  omega
 have e2 : ((b : Int) % ((2 ^ IntKind.bits .u64 : Nat) : Int)).toNat = b := by
  show ((b : Int) % ((2 ^ 64 : Nat) : Int)).toNat = b
  omega
 rw [e1, e2]
 omega
theorem yGT : ∀ c : Fin 256, yh9 .u8 ((c.val : Nat) : Int) 127 = ((c.val % 128 : Nat) : Int) := by decide +kernel
theorem vstep {acc k c : Nat} (hk : k ≤ 9) (ha : acc < 2 ^ (7 * k)) (hc : c < 256) (h9 : k = 9 → c ≤ 1) :
  bOr .u64 (acc : Int) (IntKind.wrap .u64 ((IntKind.wrap .u64 (yh9 .u8 (c : Nat) 127)) * 2 ^ (min (Int.toNat (IntKind.wrap .i64 (7 * (k : Nat)))) 64))) = ((acc + 2 ^ (7 * k) * (c % 128) : Nat) : Int) := by
 have e0 := yGT ⟨c, hc⟩
 have e1 : min (Int.toNat (IntKind.wrap .i64 (7 * (k : Nat)))) 64 = 7 * k := by rw [yaH (by omega) (by omega)]; omega
 rw [e0, e1, yeR (by omega)]
 have hp : 2 ^ (7 * k) * (c % 128) < 2 ^ 64 := by
  have hcs : k = 0 ∨ k = 1 ∨ k = 2 ∨ k = 3 ∨ k = 4 ∨ k = 5 ∨ k = 6 ∨ k = 7 ∨ k = 8 ∨ k = 9 := by omega
  rcases hcs with rfl | rfl | rfl | rfl | rfl | rfl | rfl | rfl | rfl | rfl <;> simp <;> omega
 have e2 : (((c % 128 : Nat) : Int) * 2 ^ (7 * k)) = ((2 ^ (7 * k) * (c % 128) : Nat) : Int) := by
  rw [Int.natCast_mul, Int.natCast_pow, Int.mul_comm]; rfl
 rw [e2, yeR (by omega)]
 have hp2 : 2 ^ (7 * k) ≤ 2 ^ 63 := Nat.pow_le_pow_right (by omega) (by omega)
 rw [yMz _ _ (by omega) (by omega)]
 congr 1
 rw [Nat.or_comm, ← Nat.two_pow_add_eq_or_of_lt ha, Nat.add_comm]
def yMa (at_ : Nat) : Option (Nat × Nat) → Value → Prop
 | some (n, m), v => v = .tuple #[.int .u64 (n : Nat), .int .i64 ((at_ + m : Nat) : Int), .int .i64 0]
 | none, v => ∃ e : Int, e ≠ 0 ∧ v = .tuple #[.int .u64 0, .int .i64 0, .int .i64 e]
set_option maxRecDepth 20000 in
theorem yg6 (s : ByteArray) (a : Nat) (hs : s.size ≤ 1000000000000) (ha : a ≤ s.size) (w : World) :
  Calls pP 86 #[.string s, .int .i64 (a : Nat)] w fun e w' => ∃ v, e = .returned v ∧ yMa a (vg 0 (s.data.toList.drop a)) v ∧ w' = w := by
 refine yJk ?_
 refine yaE (fun h => by omega) fun _ => yaE (fun h => by omega) fun _ => ?_
 refine yAY (fun mm x y w' => ∃ k acc : Nat, y = k ∧ x = acc ∧ k ≤ 9 ∧ acc < 2 ^ (7 * k) ∧ w' = w ∧ a + k ≤ s.size ∧
  vg 0 (s.data.toList.drop a) = (vg k (s.data.toList.drop (a + k))).map (fun p => (acc + 2 ^ (7 * k) * p.1, k + p.2)) ∧ mm = 9 - k) 9 ⟨0, 0, rfl, rfl, by omega, by simp, rfl, by omega, by simp, rfl⟩ ?_
 rintro mm x y w1 ⟨k, acc, rfl, rfl, hk, hacc, rfl, hak, hv, rfl⟩
 have e1 : IntKind.wrap .i64 ((a : Int) + (k : Int)) = ((a + k : Nat) : Int) := by rw [yaH (by omega) (by omega)]; omega
 rw [e1]
 refine yaE (fun hge => ?_) fun hlt => ?_
 ·refine ⟨?_, rfl⟩
  rw [hv, List.drop_eq_nil_of_le (by simp; omega)]
  exact ⟨10, by decide, rfl⟩
 have hlt' : a + k < s.size := by omega
 obtain ⟨c, hc, hcv⟩ := ycS hlt'
 refine ⟨by omega, by omega, ?_⟩
 rw [Int.toNat_natCast, hcv]
 have hdr : s.data.toList.drop (a + k) = c :: s.data.toList.drop (a + (k + 1)) := by
  obtain ⟨hl, he⟩ := List.getElem?_eq_some_iff.1 hc
  rw [List.drop_eq_getElem_cons hl, he]; rfl
 have hc8 := c.toNat_lt
 have hlong : Calls pP 123 #[.int .u8 (c.toNat : Nat), .int .i64 (k : Nat)] w1 fun e w' => e = .returned (.bool (decide ((k = 9 ∧ 1 < c.toNat) ∨ (0 < k ∧ c.toNat = 0)))) ∧ w' = w1 := by
  refine yaQ (yJh ?_)
  have tail : brB (decide ((k : Int) > 0)) (Value.bool ((c.toNat : Int) == 0) = Value.bool (decide ((k = 9 ∧ 1 < c.toNat) ∨ (0 < k ∧ c.toNat = 0))) ∧ w1 = w1) (Value.bool false = Value.bool (decide ((k = 9 ∧ 1 < c.toNat) ∨ (0 < k ∧ c.toNat = 0))) ∧ w1 = w1) ∨ (k = 9 ∧ 1 < c.toNat) := by
   by_cases h9 : k = 9 ∧ 1 < c.toNat
   ·exact .inr h9
   refine .inl (yaE (fun hp => ⟨?_, rfl⟩) fun hn => ⟨?_, rfl⟩)
   ·congr 1
    rw [Bool.eq_iff_iff]; simp; omega
   ·congr 1
    symm
    rw [decide_eq_false_iff_not]; omega
  refine yaC (fun h => ?_) fun h => ?_
  ·have h : (k : Int) = 9 := by simpa using h
   refine yaE (fun h1 => ⟨?_, rfl⟩) fun h1 => ?_
   ·congr 1
    symm
    rw [decide_eq_true_iff]; omega
   ·rcases tail with t | t
    ·exact t
    ·omega
  ·have h : ¬ (k : Int) = 9 := by simpa using h
   rcases tail with t | t
   ·exact t
   ·omega
 refine hlong.mono ?_
 rintro e w2 ⟨rfl, rfl⟩
 refine ⟨_, rfl, ?_⟩
 rw [hdr, yGR] at hv
 refine yaE (fun hb => ?_) fun hb => ?_
 ·refine ⟨?_, rfl⟩
  rw [hv, if_pos hb]
  exact ⟨11, by decide, rfl⟩
 rw [if_neg hb] at hv
 have hst := vstep (acc := acc) (k := k) (c := c.toNat) hk hacc (by omega) (by omega)
 refine ⟨by rw [yaH (by omega) (by omega)]; omega, ?_⟩
 rw [hst]
 refine yaE (fun hsm => ?_) fun hbg => ?_
 ·have hsm : c.toNat < 128 := by omega
  rw [if_pos hsm] at hv
  refine ⟨?_, rfl⟩
  rw [hv, yaH (by omega) (by omega)]
  have e4 : c.toNat % 128 = c.toNat := by omega
  simp only [Option.map_some, yMa, e4]
  congr 3
 ·have hbg : ¬ c.toNat < 128 := by omega
  rw [if_neg hbg] at hv
  refine yAX (9 - (k + 1)) (by omega) ⟨k + 1, acc + 2 ^ (7 * k) * (c.toNat % 128), by rw [yaH (by omega) (by omega)]; omega, rfl, by omega, ?_, rfl, by omega, ?_, rfl⟩
  ·have e : 7 * (k + 1) = 7 * k + 7 := by omega
   rw [e, Nat.pow_add]
   have h5 : c.toNat % 128 ≤ 127 := by omega
   have := Nat.mul_le_mul_left (2 ^ (7 * k)) h5
   omega
  ·rw [hv, Option.map_map]
   congr 1
   funext p
   have e : 7 * (k + 1) = 7 * k + 7 := by omega
   simp only [Function.comp]
   rw [e, Nat.pow_add, Nat.mul_add, ← Nat.mul_assoc]
   congr 1
   ·rw [Nat.add_assoc]
   ·omega
def tg (lim : Nat) (l : List UInt8) : Option (ByteArray × Nat) := match vg 0 l with
 | none => none
 | some (n, m) => if n ≤ lim ∧ n ≤ l.length - m then some (bs ((l.drop m).take n), m + n) else none
def yDY (at_ : Nat) : Option (ByteArray × Nat) → Value → Prop
 | some (t, m), v => v = .tuple #[.string t, .int .i64 ((at_ + m : Nat) : Int), .int .i64 0]
 | none, v => ∃ e : Int, e ≠ 0 ∧ v = .tuple #[.string ⟨#[]⟩, .int .i64 0, .int .i64 e]
theorem yJD : (bs [] : ByteArray) = ⟨#[]⟩ := rfl
theorem yq7 (s : ByteArray) : bs s.data.toList = s := by
 apply ByteArray.ext; simp [bs]
theorem yq8 {a b : List UInt8} (h : bs a = bs b) : a = b := by
 have := congrArg (fun s : ByteArray => s.data.toList) h
 simpa [bs] using this
theorem yeS (l : List UInt8) : (bs l).data.toList = l := by simp [bs]
theorem yFn (s : ByteArray) (a n : Nat) (h : a + n ≤ s.size) : s.extract a (a + n) = bs ((s.data.toList.drop a).take n) := by
 apply ByteArray.ext
 rw [ByteArray.data_extract]
 apply Array.ext'
 rw [Array.toList_extract]
 simp [bs, List.extract_eq_take_drop]
theorem ymG {lim : Nat} {l : List UInt8} {t : ByteArray} {m : Nat} (h : tg lim l = some (t, m)) : 1 ≤ m ∧ m ≤ l.length ∧ t.size ≤ lim ∧ t.size + 1 ≤ m := by
 unfold tg at h
 split at h
 ·cases h
 rename_i n k hv
 have := yq6 l hv
 split at h
 ·simp only [Option.some.injEq, Prod.mk.injEq] at h
  obtain ⟨rfl, rfl⟩ := h
  rw [yaG, List.length_take, List.length_drop]
  omega
 ·cases h
theorem yFo {lim : Nat} (s : ByteArray) (r : List UInt8) (h : s.size ≤ lim) (hs : s.size < 18446744073709551616) : tg lim (yb3 s ++ r) = some (s, (yb3 s).length) := by
 have hv := yA8 9 0 s.size (s.data.toList ++ r) rfl (by simpa using hs) (by omega)
 unfold tg yb3
 rw [List.append_assoc, hv]
 have e : s.data.toList.length = s.size := by simp
 simp only [List.length_append, List.drop_left']
 rw [if_pos (by simp; omega)]
 simp only [Option.some.injEq, Prod.mk.injEq]
 refine ⟨?_, by rw [e]⟩
 rw [← e, List.take_left', yq7]
 rfl
set_option maxRecDepth 20000 in
theorem yd1 (s : ByteArray) (a lim : Nat) (hs : s.size ≤ 1000000000000) (ha : a ≤ s.size) (hl : lim ≤ 1000000000000) (w : World) :
  Calls pP 85 #[.string s, .int .i64 (a : Nat), .int .i64 (lim : Nat)] w fun e w' => ∃ v, e = .returned v ∧ yDY a (tg lim (s.data.toList.drop a)) v ∧ w' = w := by
 refine yJl ?_
 refine (yg6 s a hs ha w).mono ?_
 rintro e w1 ⟨v, rfl, hv, rfl⟩
 cases hg : vg 0 (s.data.toList.drop a) with
 | none =>
  rw [hg] at hv
  obtain ⟨e, he, rfl⟩ := hv
  refine ⟨_, _, _, rfl, ?_⟩
  rw [show (e != 0) = true by simpa using he]
  refine ⟨?_, rfl⟩
  unfold tg; rw [hg]
  exact ⟨e, he, rfl⟩
 | some p =>
  obtain ⟨n, m⟩ := p
  rw [hg] at hv
  have hv : v = .tuple #[.int .u64 (n : Nat), .int .i64 ((a + m : Nat) : Int), .int .i64 0] := hv
  subst hv
  have hm := yq6 _ hg
  have hn := yGS _ (by omega) hg
  have el : (s.data.toList.drop a).length = s.size - a := by simp
  have et : tg lim (s.data.toList.drop a) = if n ≤ lim ∧ n ≤ (s.data.toList.drop a).length - m then some (bs (((s.data.toList.drop a).drop m).take n), m + n) else none := by
   unfold tg; rw [hg]
  rw [el] at hm et
  refine ⟨_, _, _, rfl, ?_⟩
  rw [show ((0 : Int) != 0) = false from rfl, yd4]
  refine yaE (fun h => by omega) fun _ => ?_
  have e1 : IntKind.wrap .i64 ((s.size : Int) - ((a + m : Nat) : Int)) = ((s.size - (a + m) : Nat) : Int) := by rw [yaH (by omega) (by omega)]; omega
  rw [yeR (by omega), e1, yeR (by omega)]
  refine yaE (fun h => ?_) fun h => ?_
  ·refine ⟨?_, rfl⟩
   rw [et, if_neg (by omega)]
   exact ⟨2, by decide, rfl⟩
  refine yaE (fun h2 => ?_) fun h2 => ?_
  ·refine ⟨?_, rfl⟩
   rw [et, if_neg (by omega)]
   exact ⟨10, by decide, rfl⟩
  have e2 : IntKind.wrap .i64 ((n : Nat) : Int) = ((n : Nat) : Int) := yaH (by omega) (by omega)
  have e3 : IntKind.wrap .i64 (((a + m : Nat) : Int) + ((n : Nat) : Int)) = ((a + m + n : Nat) : Int) := by rw [yaH (by omega) (by omega)]; omega
  rw [e2, e3]
  refine ⟨by omega, by omega, by omega, ?_, rfl⟩
  rw [et, if_pos (by omega), Int.toNat_natCast, Int.toNat_natCast, yFn s (a + m) n (by omega), List.drop_drop]
  exact congrArg (fun k : Nat => Value.tuple #[.string (bs (List.take n (List.drop (a + m) s.data.toList))), .int .i64 (k : Int), .int .i64 0]) (by omega)
def cg (lim : Nat) (l : List UInt8) : Option (ByteArray × Nat) := match tg lim l with
 | none => none
 | some (t, m) => if 4 ≤ l.length - m ∧ (l.drop m).take 4 = ydP (yA6 t.data.toList) then some (t, m + 4) else none
theorem yFp {lim : Nat} {l : List UInt8} {t : ByteArray} {m : Nat} (h : cg lim l = some (t, m)) : 1 ≤ m ∧ m ≤ l.length ∧ t.size ≤ lim ∧ t.size + 1 ≤ m := by
 unfold cg at h
 split at h
 ·cases h
 rename_i n k hv
 have := ymG hv
 split at h
 ·simp only [Option.some.injEq, Prod.mk.injEq] at h
  obtain ⟨rfl, rfl⟩ := h
  omega
 ·cases h
theorem yiF (s : ByteArray) : (yeM s).length = (yb3 s).length + 4 := by simp [yeM, ydP]
theorem yvC {lim : Nat} (s : ByteArray) (r : List UInt8) (h : s.size ≤ lim) (hs : s.size < 18446744073709551616) : cg lim (yeM s ++ r) = some (s, (yeM s).length) := by
 unfold cg
 rw [show yeM s ++ r = yb3 s ++ (ydP (yA6 s.data.toList) ++ r) by simp [yeM], yFo s _ h hs]
 simp only [List.length_append, List.drop_left']
 rw [if_pos ⟨by simp [ydP], by simp [ydP]⟩, yiF]
set_option maxRecDepth 20000 in
theorem yq9 (s : ByteArray) (a lim : Nat) (hs : s.size ≤ 1000000000000) (ha : a ≤ s.size) (hl : lim ≤ 1000000000000) (w : World) :
  Calls pP 58 #[.string s, .int .i64 (a : Nat), .int .i64 (lim : Nat)] w fun e w' => ∃ v, e = .returned v ∧ yDY a (cg lim (s.data.toList.drop a)) v ∧ Mod [] w w' := by
 refine yJA ?_
 refine (yd1 s a lim hs ha hl w).mono ?_
 rintro e w1 ⟨v, rfl, hv, rfl⟩
 cases hg : tg lim (s.data.toList.drop a) with
 | none =>
  rw [hg] at hv
  obtain ⟨e, he, rfl⟩ := hv
  refine ⟨_, _, _, rfl, ?_⟩
  rw [show (e != 0) = true by simpa using he]
  refine ⟨?_, Mod.refl _⟩
  unfold cg; rw [hg]
  exact ⟨e, he, rfl⟩
 | some p =>
  obtain ⟨t, m⟩ := p
  rw [hg] at hv
  have hv : v = .tuple #[.string t, .int .i64 ((a + m : Nat) : Int), .int .i64 0] := hv
  subst hv
  have hm := ymG hg
  have el : (s.data.toList.drop a).length = s.size - a := by simp
  have et : cg lim (s.data.toList.drop a) = if 4 ≤ (s.data.toList.drop a).length - m ∧ ((s.data.toList.drop a).drop m).take 4 = ydP (yA6 t.data.toList) then some (t, m + 4) else none := by
   unfold cg; rw [hg]
  rw [el] at hm et
  refine ⟨_, _, _, rfl, ?_⟩
  have e1 : IntKind.wrap .i64 ((s.size : Int) - ((a + m : Nat) : Int)) = ((s.size - (a + m) : Nat) : Int) := by rw [yaH (by omega) (by omega)]; omega
  have e2 : IntKind.wrap .i64 (((a + m : Nat) : Int) + 4) = ((a + m + 4 : Nat) : Int) := by rw [yaH (by omega) (by omega)]; omega
  rw [show ((0 : Int) != 0) = false from rfl, yd4]
  rw [e1, e2]
  refine yaE (fun h => ?_) fun h => ?_
  ·refine ⟨?_, Mod.refl _⟩
   rw [et, if_neg (by omega)]
   exact ⟨20, by decide, rfl⟩
  refine ⟨by omega, by omega, by omega, fun w2 A2 => ?_⟩
  refine (yFm t (by omega) w2).mono ?_
  rintro e w3 ⟨rfl, M3⟩
  refine ⟨_, rfl, ?_⟩
  refine (yA7 _ w3).mono ?_
  rintro e w4 ⟨rfl, M4⟩
  have hM : Mod [] w1 w4 := (A2.mod.go0 M3 (by simp)).go0 M4 (by simp)
  refine ⟨_, rfl, ?_⟩
  rw [Int.toNat_natCast, Int.toNat_natCast, yFn s (a + m) 4 (by omega)]
  have hbe : ((bs (List.take 4 (List.drop (a + m) s.data.toList))).toList == (bs (ydP (yA6 t.data.toList))).toList) = decide (List.take 4 (List.drop (a + m) s.data.toList) = ydP (yA6 t.data.toList)) := by
   rw [Bool.eq_iff_iff, beq_iff_eq, decide_eq_true_iff]
   constructor
   ·intro h; exact yq8 (yd0.1 h)
   ·intro h; rw [h]
  rw [hbe]
  rw [List.drop_drop] at et
  refine yaC (fun h => ?_) fun h => ?_
  ·have h : ¬ List.take 4 (List.drop (a + m) s.data.toList) = ydP (yA6 t.data.toList) := by simpa using h
   refine ⟨?_, hM⟩
   rw [et, if_neg (fun hh => h hh.2)]
   exact ⟨21, by decide, rfl⟩
  ·have h : List.take 4 (List.drop (a + m) s.data.toList) = ydP (yA6 t.data.toList) := by simpa using h
   refine ⟨?_, hM⟩
   rw [et, if_pos ⟨by omega, h⟩]
   exact congrArg (fun k : Nat => Value.tuple #[.string t, .int .i64 (k : Int), .int .i64 0]) (show a + m + 4 = a + (m + 4) by omega)
abbrev yDZ (r : PRep) (w0 : World) : VWP := fun v w' => v = .int .i64 (ygP r) ∧ Mod [] w0 w'
theorem yJE {w0 w : World} {bm : Nat} {r : PRep} {f p : Sl} (h : RepAt w0 r f p) (M : Mod [] w0 w) (hr : r.parts.any yGN = false → ygP r = 0) (hr2 : r.parts.any yGN = true → ygP r = 40) :
  yaJ yn8 (yg3 391 [0, 0, 1, 0, 1, 1, 1, 1, 1, 1, 1]) (yI6 [1, 1, 1, 1, 1, 1, 1, 0, 1, 0] [] (ya7 pP Tryz.f94 [] (yDZ r w0)))
   (ykP bm r.e r.off r.n r.gen f.a f.n f.c p.a p.n p.c 0) w := by
 have e5 := h.parts.1
 have hl := h.lp
 refine yAJ (fun mm x w' => ∃ k : Nat, x = k ∧ k ≤ r.parts.length ∧ (r.parts.take k).any yGN = false ∧ Mod [] w0 w' ∧ mm = r.parts.length - k) r.parts.length ⟨0, rfl, by omega, by simp, M, rfl⟩ ?_
 rintro mm x w1 ⟨k, rfl, hk, ha, M1, rfl⟩
 refine yaE (fun hlt => ?_) fun hge => ?_
 ·have g1 : k < r.parts.length := by omega
  obtain ⟨x, hx⟩ : ∃ x, r.parts[k]? = some x := ⟨_, List.getElem?_eq_getElem g1⟩
  have ek : IntKind.wrap .i64 ((k : Int) + 1) = ((k + 1 : Nat) : Int) := by rw [yaH (by omega) (by omega)]; omega
  refine (h.keep0 M1).parts.ix hx fun q hq => yaI (by simpa [add_zero] using hq 0 _ rfl) ?_
  refine (yhX x.t w1).mono ?_
  rintro e w2 ⟨rfl, rfl⟩
  refine ⟨_, rfl, yaD.of0 (Mod.refl _), ?_⟩
  refine yaC (fun g3 => ?_) (fun g3 => ?_)
  ·exact ⟨by rw [hr2 (List.any_eq_true.2 ⟨x, List.mem_of_getElem? hx, g3⟩)], M1⟩
  ·exact yAI (r.parts.length - (k + 1)) (by omega) ⟨k + 1, ek, by omega, by rw [yeL hx, ha]; exact g3, M1, rfl⟩
 ·have hk : k = r.parts.length := by omega
  subst hk
  rw [List.take_length] at ha
  exact ⟨by rw [hr ha], M1⟩
theorem yJF {w0 w : World} {bm : Nat} {r : PRep} {f p : Sl} (h : RepAt w0 r f p) (M : Mod [] w0 w) {t : Bool} (ht : t = (ok0 r && r.found.all okF)) :
  yaJ yn7 (yg3 395 [0, 0, 1, 0, 1, 1, 1]) (yI6 [1, 1, 1, 0, 1, 0] [] (ya7 pP Tryz.f94 [] (yDZ r w0)))
   (yjE bm r.e r.off r.n r.gen f.a f.n f.c p.a p.n p.c (t, 0)) w := by
 have e5 := h.parts.1
 have e4 := h.found.1
 have hl := h.lp
 have hl4 := h.lf
 refine yAF (fun mm t x w' => ∃ k : Nat, x = k ∧ k ≤ r.parts.length ∧ t = (ok0 r && r.found.all okF && (r.parts.take k).all okP) ∧ Mod [] w0 w' ∧ mm = r.parts.length - k) r.parts.length ⟨0, rfl, by omega, by simp [ht], M, rfl⟩ ?_
 rintro mm t x w1 ⟨k, rfl, hk, rfl, M1, rfl⟩
 refine yaE (fun hlt => ?_) fun hge => ?_
 ·have g1 : k < r.parts.length := by omega
  obtain ⟨x, hx⟩ : ∃ x, r.parts[k]? = some x := ⟨_, List.getElem?_eq_getElem g1⟩
  have ek : IntKind.wrap .i64 ((k : Int) + 1) = ((k + 1 : Nat) : Int) := by rw [yaH (by omega) (by omega)]; omega
  refine yaC (fun g3 => ?_) (fun g3 => ?_)
  ·refine (h.keep0 M1).parts.ix hx fun q hq => yaB (hq 1 _ rfl) ?_
   refine (yc0 x.n w1).mono ?_
   rintro e w2 ⟨rfl, rfl⟩
   refine ⟨_, rfl, yaD.of0 (Mod.refl _), ?_⟩
   exact yq5 (r.parts.length - (k + 1)) (by omega) ⟨k + 1, ek, by omega, by rw [ycG hx, ← Bool.and_assoc, g3]; rfl, M1, rfl⟩
  ·exact yq5 (r.parts.length - (k + 1)) (by omega) ⟨k + 1, ek, by omega, by rw [ycG hx, ← Bool.and_assoc, g3]; rfl, M1, rfl⟩
 ·have hk : k = r.parts.length := by omega
  subst hk
  rw [List.take_length]
  refine yaC (fun g1 => ⟨by rw [ygP, if_pos (yjX g1)], M1⟩) fun g1 => ?_
  have hR1 : ygP r = if r.found.length > 64 then 2 else if r.parts.length > 64 then 2 else if (r.found.any yAN || r.parts.any yGN) = true then 40 else 0 := by
   rw [ygP, if_neg (by rw [yjF g1]; decide)]
  refine yaE (fun g2 => ⟨by rw [hR1, if_pos (by omega)], M1⟩) fun g2 => ?_
  rw [if_neg (by omega)] at hR1
  refine yaE (fun g3 => ⟨by rw [hR1, if_pos (by omega)], M1⟩) fun g3 => ?_
  rw [if_neg (by omega)] at hR1
  refine yAH (fun mm x w' => ∃ k : Nat, x = k ∧ k ≤ r.found.length ∧ (r.found.take k).any yAN = false ∧ Mod [] w0 w' ∧ mm = r.found.length - k) r.found.length ⟨0, rfl, by omega, by simp, M1, rfl⟩ ?_
  rintro mm x w1 ⟨k, rfl, hk, ha, M1, rfl⟩
  refine yaE (fun hlt => ?_) fun hge => ?_
  ·have g1 : k < r.found.length := by omega
   obtain ⟨x, hx⟩ : ∃ x, r.found[k]? = some x := ⟨_, List.getElem?_eq_getElem g1⟩
   have ek : IntKind.wrap .i64 ((k : Int) + 1) = ((k + 1 : Nat) : Int) := by rw [yaH (by omega) (by omega)]; omega
   refine (h.keep0 M1).found.ix hx fun q hq => ?_
   rw [ydA, ydA, ydA]
   refine yaP (hq 1 _ rfl) (yaI (hq 2 _ rfl) (yaP (hq 3 _ rfl) (yaI (hq 4 _ rfl) ?_)))
   refine (ykQ x.r w1).mono ?_
   rintro e w2 ⟨rfl, M2⟩
   refine ⟨_, rfl, yaD.of0 M2, ?_⟩
   have M3 := M1.go0 M2 (by simp)
   refine yaC (fun g3 => ?_) (fun g3 => ?_)
   ·have hb : r.found.any yAN = true := List.any_eq_true.2 ⟨x, List.mem_of_getElem? hx, g3⟩
    exact ⟨by rw [hR1, if_pos (by rw [hb]; rfl)], M3⟩
   ·exact yAG (r.found.length - (k + 1)) (by omega) ⟨k + 1, ek, by omega, by rw [yeL hx, ha]; exact g3, M3, rfl⟩
  ·have hk : k = r.found.length := by omega
   subst hk
   rw [List.take_length] at ha
   exact yJE h M1 (fun hp => by rw [hR1, ha, hp]; rfl) (fun hp => by rw [hR1, ha, hp]; rfl)
theorem yxW {w0 w : World} {bm : Nat} {r : PRep} {f p : Sl} (h : RepAt w0 r f p) (M : Mod [] w0 w) {t : Bool} (ht : t = ok0 r) :
  yAB t bm r.e r.off r.n r.gen f.a f.n f.c p.a p.n p.c (yDZ r w0) w := by
 have e4 := h.found.1
 have hl := h.lf
 refine yAD (fun mm t x w' => ∃ k : Nat, x = k ∧ k ≤ r.found.length ∧ t = (ok0 r && (r.found.take k).all okF) ∧ Mod [] w0 w' ∧ mm = r.found.length - k) r.found.length ⟨0, rfl, by omega, by simp [ht], M, rfl⟩ ?_
 rintro mm t x w1 ⟨k, rfl, hk, rfl, M1, rfl⟩
 refine yaE (fun hlt => ?_) fun hge => ?_
 ·have g1 : k < r.found.length := by omega
  obtain ⟨x, hx⟩ : ∃ x, r.found[k]? = some x := ⟨_, List.getElem?_eq_getElem g1⟩
  have ek : IntKind.wrap .i64 ((k : Int) + 1) = ((k + 1 : Nat) : Int) := by rw [yaH (by omega) (by omega)]; omega
  refine yaC (fun g3 => ?_) (fun g3 => ?_)
  ·refine (h.keep0 M1).found.ix hx fun q hq => yaB (by simpa [add_zero] using hq 0 _ rfl) ?_
   refine (yc0 x.off w1).mono ?_
   rintro e w2 ⟨rfl, rfl⟩
   refine ⟨_, rfl, yaD.of0 (Mod.refl _), ?_⟩
   exact yq4 (r.found.length - (k + 1)) (by omega) ⟨k + 1, ek, by omega, by rw [ycG hx, ← Bool.and_assoc, g3]; rfl, M1, rfl⟩
  ·exact yq4 (r.found.length - (k + 1)) (by omega) ⟨k + 1, ek, by omega, by rw [ycG hx, ← Bool.and_assoc, g3]; rfl, M1, rfl⟩
 ·have hk : k = r.found.length := by omega
  subst hk
  rw [List.take_length]
  exact yJF h M1 rfl
theorem yD0 {w : World} {r : PRep} {f p : Sl} (h : RepAt w r f p) :
  Calls pP 94 #[r.v f p] w fun e w' => e = .returned (.int .i64 (ygP r)) ∧ Mod [] w w' := by
 refine yaQ (yI7 ?_)
 intro b1 f1 w1 A1
 have rest : ∀ (t : Bool) (bm : Nat) (x0 x1 x2 x3 : Int) (a4 : Option Addr) (n4 c4 : Nat) (a5 : Option Addr) (n5 c5 : Nat) (w' : World), (t = ok0 r ∧ x0 = r.e ∧ x1 = r.off ∧ x2 = r.n ∧ x3 = r.gen ∧ a4 = f.a ∧ n4 = f.n ∧ c4 = f.c ∧ a5 = p.a ∧ n5 = p.n ∧ c5 = p.c ∧ Mod [] w w') → yAB t bm x0 x1 x2 x3 a4 n4 c4 a5 n5 c5 (yDZ r w) w' := by
  rintro t bm x0 x1 x2 x3 a4 n4 c4 a5 n5 c5 w' ⟨ht, rfl, rfl, rfl, rfl, rfl, rfl, rfl, rfl, rfl, rfl, M⟩
  exact yxW h M ht
 refine (yc0 _ _).mono ?_
 rintro e w2 ⟨rfl, rfl⟩
 refine ⟨_, rfl, yaD.of0 (Mod.refl _), yaC (fun g1 => ?_) (fun g1 => ?_)⟩
 rotate_left
 ·exact yjW _ ⟨by simp [ok0, g1], rfl, rfl, rfl, rfl, rfl, rfl, rfl, rfl, rfl, rfl, A1.mod⟩ rest
 refine (yc0 _ _).mono ?_
 rintro e w2 ⟨rfl, rfl⟩
 refine ⟨_, rfl, yaD.of0 (Mod.refl _), yaC (fun g2 => ?_) (fun g2 => ?_)⟩
 rotate_left
 ·exact yjW _ ⟨by simp [ok0, g2], rfl, rfl, rfl, rfl, rfl, rfl, rfl, rfl, rfl, rfl, A1.mod⟩ rest
 refine (yc0 _ _).mono ?_
 rintro e w2 ⟨rfl, rfl⟩
 refine ⟨_, rfl, yaD.of0 (Mod.refl _), yaC (fun g3 => ?_) (fun g3 => ?_)⟩
 rotate_left
 ·exact yjW _ ⟨by simp [ok0, g3], rfl, rfl, rfl, rfl, rfl, rfl, rfl, rfl, rfl, rfl, A1.mod⟩ rest
 refine (yc0 _ _).mono ?_
 rintro e w2 ⟨rfl, rfl⟩
 refine ⟨_, rfl, yaD.of0 (Mod.refl _), ?_⟩
 exact yjW _ ⟨by simp [ok0, g1, g2, g3], rfl, rfl, rfl, rfl, rfl, rfl, rfl, rfl, rfl, rfl, A1.mod⟩ rest
theorem ycD.ixW {α : Type} {w : World} {sz : Nat} {enc : α → List Value} {a : Option Addr} {n : Nat} {l : List α} {i : Nat} {x : α} {F : Addr → Prop} (h : ycD w sz enc a n l) (hx : l[i]? = some x)
  (hF : ∀ q, (∀ w', Mod [] w w' → ∀ j v, (enc x)[j]? = some v → w'.cell? (q.add j) = some v) → F q) : ixA a n (i : Int) sz F := by
 obtain ⟨ad, ha, hc⟩ := h.2 i x hx
 have hl := (List.getElem?_eq_some_iff.1 hx).1
 refine ⟨ad, ha, by omega, by rw [h.1]; omega, hF _ fun w' M j v hj => ?_⟩
 obtain ⟨ad', ha', hc'⟩ := (h.keep0 M).2 i x hx
 rw [ha] at ha'; cases ha'
 simpa using hc' j v hj
theorem ykS : ∀ (vs : List Value) (c : Array Value) (i j : Nat), i + vs.length ≤ c.size → (ybX c i vs).toList[j]? = if i ≤ j ∧ j < i + vs.length then vs[j - i]? else c.toList[j]?
 | [], c, i, j, h => by
  rw [if_neg (by simp)]; rfl
 | v :: r, c, i, j, h => by
  simp only [List.length_cons] at h
  rw [ybX, ykS r _ _ _ (by simp; omega)]
  simp only [Array.toList_setIfInBounds, List.length_cons]
  by_cases h1 : i = j
  ·subst h1
   have hi : i < c.toList.length := by simp; omega
   rw [if_neg (by omega), if_pos (by omega), List.getElem?_set_self hi, Nat.sub_self]; rfl
  ·by_cases h2 : i + 1 ≤ j ∧ j < i + 1 + r.length
   ·rw [if_pos h2, if_pos (by omega), show j - i = (j - (i + 1)) + 1 by omega]; rfl
   ·rw [if_neg h2, if_neg (by omega), List.getElem?_set_ne h1]
structure PBatch where
 prod : Int
 epoch : Int
 seq : Int
 recs : List PRec
 deriving DecidableEq
structure POp where
 kind : Int
 part : PPart
 n : Int
 off : Int
 b : PBatch
 g : ByteArray
 m : ByteArray
 gen : Int
 robin : Bool
 topics : List ByteArray
 deriving DecidableEq
structure PCall where
 c : Int
 n : Int
 op : POp
 deriving DecidableEq
def yfW (r : PRec) : List Value := [.bool r.hk, .string r.key, .bool r.tomb, .string r.val]
def ykT (s : ByteArray) : List Value := [.string s]
theorem yD1 (r : PRec) : (yfW r).length = 4 := rfl
theorem yD2 (s : ByteArray) : (ykT s).length = 1 := rfl
theorem yvD (x : PRec) : ∀ u ∈ yfW x, u.oneCell' = true := by simp [yfW, Value.oneCell']
theorem yvE (x : ByteArray) : ∀ u ∈ ykT x, u.oneCell' = true := by simp [ykT, Value.oneCell']
def POp.cs (o : POp) (rs ts : Sl) : List Value := [.int .i64 o.kind, .string o.part.t, .int .i64 o.part.n, .int .i64 o.n, .int .i64 o.off, .int .i64 o.b.prod, .int .i64 o.b.epoch, .int .i64 o.b.seq, .slice rs.a rs.n rs.c, .string o.g, .string o.m, .int .i64 o.gen, .bool o.robin, .slice ts.a ts.n ts.c]
def POp.v (o : POp) (rs ts : Sl) : Value := .agg #[.int .i64 o.kind, .string o.part.t, .int .i64 o.part.n, .int .i64 o.n, .int .i64 o.off, .int .i64 o.b.prod, .int .i64 o.b.epoch, .int .i64 o.b.seq, .slice rs.a rs.n rs.c, .string o.g, .string o.m, .int .i64 o.gen, .bool o.robin, .slice ts.a ts.n ts.c]
def yb0 : PBatch := ⟨0, 0, 0, []⟩
def op0 : POp := ⟨0, ⟨⟨#[]⟩, 0⟩, 0, 0, yb0, ⟨#[]⟩, ⟨#[]⟩, 0, false, []⟩
structure OpAt (w : World) (o : POp) (rs ts : Sl) : Prop where
 recs : ycD w 4 yfW rs.a rs.n o.b.recs
 topics : ycD w 1 ykT ts.a ts.n o.topics
 lr : o.b.recs.length ≤ 1000000
 lt : o.topics.length ≤ 1000000
structure OpOwn (w : World) (base : Nat) (o : POp) (rs ts : Sl) : Prop where
 recs : Row w base 99 4 yfW rs.a rs.n rs.c o.b.recs
 topics : Row w base 9 1 ykT ts.a ts.n ts.c o.topics
 lr : o.b.recs.length ≤ 1000000
 lt : o.topics.length ≤ 1000000
theorem OpOwn.at {w : World} {base : Nat} {o : POp} {rs ts : Sl} (h : OpOwn w base o rs ts) : OpAt w o rs ts := ⟨h.recs.sl yD1, h.topics.sl yD2, h.lr, h.lt⟩
theorem OpAt.keep0 {w w' : World} {o : POp} {rs ts : Sl} (h : OpAt w o rs ts) (M : Mod [] w w') : OpAt w' o rs ts := ⟨h.recs.keep0 M, h.topics.keep0 M, h.lr, h.lt⟩
theorem OpOwn.keep0 {w w' : World} {base : Nat} {o : POp} {rs ts : Sl} (h : OpOwn w base o rs ts) (M : Mod [] w w') : OpOwn w' base o rs ts := ⟨h.recs.keep0 M, h.topics.keep0 M, h.lr, h.lt⟩
theorem OpOwn.rebase {w : World} {base base' : Nat} {o : POp} {rs ts : Sl} (h : OpOwn w base o rs ts) (hb : base' ≤ base) : OpOwn w base' o rs ts := ⟨h.recs.rebase hb, h.topics.rebase hb, h.lr, h.lt⟩
theorem ys4 (w : World) (base : Nat) : OpOwn w base op0 ⟨none, 0, 0⟩ ⟨none, 0, 0⟩ := ⟨Row.nil .., Row.nil .., by simp [op0, yb0], by simp [op0]⟩
def ybG (b : PBatch) : Int :=
 if (num b.prod && num b.epoch && num b.seq) = false then 1 else if b.recs.length = 0 then 30 else if b.recs.length > 16 then 2 else
  match b.recs.find? fun r => ygF r ≠ 0 with
  | none => 0
  | some r => ygF r
def yqF (k : Int) : List Nat :=
 if k = 0 then [116, 110] else if k = 1 then [110] else if k = 2 then [112, 98] else if k = 3 then [112, 111, 110] else if k = 4 then [112, 111] else if k = 5 then [112]
 else if k = 6 then [103, 109, 110, 114, 108] else if k = 7 then [103, 109, 101] else if k = 8 then [103, 109, 101] else if k = 9 then [103, 109, 101] else if k = 10 then [103, 109, 101, 112, 111] else if k = 11 then [103, 112] else [110]
def ha (k : Int) (c : Nat) : Bool := (yqF k).contains c
def yhZ (s : ByteArray) : Bool := decide (s.size = 0)
def ys5 (s t : ByteArray) : Bool := Op.bytesLess s.toList t.toList
def ye3 : List ByteArray → Bool
 | s :: t :: r => ys5 s t && ye3 (t :: r)
 | _ => true
def yb9 (l : List ByteArray) : Bool := decide (1 ≤ l.length ∧ l.length ≤ 8) && l.all ybR && ye3 l
def yeT (o : POp) : Bool :=
 (ha o.kind 112 || ha o.kind 116 || yhZ o.part.t) && (ha o.kind 112 || decide (o.part.n = 0)) && (ha o.kind 110 || decide (o.n = 0)) && (ha o.kind 111 || decide (o.off = 0)) &&
 (ha o.kind 98 || decide (o.b = yb0)) && (ha o.kind 103 || yhZ o.g) && (ha o.kind 109 || yhZ o.m) && (ha o.kind 101 || decide (o.gen = 0)) && (ha o.kind 114 || (!o.robin && decide (o.topics = [])))
def yrA (o : POp) : Bool :=
 yeT o && (!(ha o.kind 112 || ha o.kind 116) || ybR o.part.t) && (!ha o.kind 103 || ybR o.g) && (!ha o.kind 109 || ybR o.m) && (!ha o.kind 108 || yb9 o.topics)
def opE (o : POp) : Int :=
 if o.kind < 0 ∨ o.kind > 12 then 41 else if yrA o = false then 40 else if (num o.part.n && num o.n && num o.off && num o.gen) = false then 1 else if o.kind = 2 then ybG o.b else 0
def chF (o : POp) : Bool := (ha o.kind 103 && !ybR o.g) || (ha o.kind 109 && !ybR o.m) || ((ha o.kind 112 || ha o.kind 116) && !ybR o.part.t) || (ha o.kind 108 && !yb9 o.topics)
def chA (o : POp) : Bool := (ha o.kind 112 && !num o.part.n) || (ha o.kind 110 && !num o.n) || (ha o.kind 111 && !num o.off) || (ha o.kind 101 && !num o.gen)
def chE (o : POp) : Int := if ha o.kind 98 then ybG o.b else 0
def es : ByteArray := ⟨#[]⟩
def chO (o : POp) : POp := ⟨o.kind, ⟨if ha o.kind 112 || ha o.kind 116 then es else o.part.t, if ha o.kind 112 then 0 else o.part.n⟩, if ha o.kind 110 then 0 else o.n, if ha o.kind 111 then 0 else o.off,
 if ha o.kind 98 then yb0 else o.b, if ha o.kind 103 then es else o.g, if ha o.kind 109 then es else o.m, if ha o.kind 101 then 0 else o.gen, if ha o.kind 114 then false else o.robin, if ha o.kind 114 then [] else o.topics⟩
theorem ykU (s : ByteArray) : yhZ s = decide (s = es) := by
 unfold yhZ es
 by_cases h : s.size = 0
 ·rw [decide_eq_true h, decide_eq_true ((yn3 s).2 h)]
 ·rw [decide_eq_false h, decide_eq_false fun e => h ((yn3 s).1 e)]
theorem yGU {α : Type} (p : Bool) (x d : α) : ((if p = true then d else x) = d) ↔ (p = true ∨ x = d) := by cases p <;> simp
theorem yD3 {α : Type} (p t : Bool) (x d : α) : ((if p = true ∨ t = true then d else x) = d) ↔ (p = true ∨ t = true ∨ x = d) := by cases p <;> cases t <;> simp
theorem yD4 (o : POp) : decide ({ chO o with kind := 0 } = op0) = yeT o := by
 rw [Bool.eq_iff_iff, decide_eq_true_iff]
 unfold yeT
 rw [ykU, ykU, ykU]
 unfold chO op0
 simp only [POp.mk.injEq, PPart.mk.injEq, true_and, Bool.and_eq_true, decide_eq_true_iff, yD3, show (⟨#[]⟩ : ByteArray) = es from rfl, yGU, Bool.or_eq_true, or_and_left, Bool.not_eq_true', and_assoc, or_assoc]
theorem yMb {p : Bool} {x : Int} (h : (p || decide (x = 0)) = true) : num x = !(p && !num x) := by
 cases p
 ·have : x = 0 := by simpa using h
  subst this; rfl
 ·simp
theorem yNs {k : Int} (h0 : ¬ (k < 0 ∨ k > 12)) : ha k 98 = decide (k = 2) := by
 have : k = 0 ∨ k = 1 ∨ k = 2 ∨ k = 3 ∨ k = 4 ∨ k = 5 ∨ k = 6 ∨ k = 7 ∨ k = 8 ∨ k = 9 ∨ k = 10 ∨ k = 11 ∨ k = 12 := by omega
 rcases this with rfl | rfl | rfl | rfl | rfl | rfl | rfl | rfl | rfl | rfl | rfl | rfl | rfl <;> decide
theorem yA9 (o : POp) (h0 : ¬ (o.kind < 0 ∨ o.kind > 12)) : opE o = if (chF o || !decide ({ chO o with kind := 0 } = op0)) = true then 40 else if chA o = true then 1 else chE o := by
 rw [yD4, opE, if_neg h0]
 have hf : yrA o = !(chF o || !yeT o) := by
  unfold yrA chF
  generalize yeT o = a
  generalize ha o.kind 103 = b1
  generalize ha o.kind 109 = b2
  generalize (ha o.kind 112 || ha o.kind 116) = b3
  generalize ha o.kind 108 = b4
  cases a <;> cases b1 <;> cases b2 <;> cases b3 <;> cases b4 <;> simp [Bool.and_comm, Bool.and_assoc, Bool.and_left_comm]
 rw [hf]
 cases h : (chF o || !yeT o)
 ·simp only [Bool.not_false, Bool.true_eq_false, if_false, Bool.false_eq_true]
  have ho : yeT o = true := by cases hh : yeT o; rw [hh] at h; simp at h; rfl
  unfold yeT at ho
  simp only [Bool.and_eq_true] at ho
  obtain ⟨⟨⟨⟨⟨⟨⟨⟨_, h1⟩, h2⟩, h3⟩, _⟩, _⟩, _⟩, h4⟩, _⟩ := ho
  have e : (num o.part.n && num o.n && num o.off && num o.gen) = !chA o := by
   rw [yMb h1, yMb h2, yMb h3, yMb h4]
   unfold chA
   simp only [Bool.not_or, Bool.and_assoc]
  rw [e, chE, yNs h0]
  cases chA o <;> simp
 ·simp
section
set_option maxRecDepth 100000
variable {R : VWP} {w w0 : World} {m : Nat} {i0 i1 i2 i3 i4 i5 i6 i7 i8 i9 j0 j1 j2 j3 j4 j5 j6 j7 j8 j9 k0 k1 k2 k3 k4 k5 k6 k7 k8 k9 l0 l1 l2 l3 l4 l5 l6 l7 l8 l9 : Int} {s0 s1 s2 s3 s4 s5 s6 s7 s8 s9 t0 t1 t2 t3 t4 t5 t6 t7 t8 t9 : BA} {n0 n1 n2 n3 n4 n5 n6 n7 n8 n9 o0 o1 o2 o3 o4 o5 o6 o7 o8 o9 p0 p1 p2 p3 p4 p5 p6 p7 p8 p9 : Nat} {q0 q1 q2 q3 q4 q5 q6 q7 q8 q9 r0 r1 r2 r3 r4 r5 r6 r7 r8 r9 : OA} {B0 B1 B2 B3 B4 B5 B6 B7 B8 B9 : Bool} {M0 M1 M2 M3 : Option Nat} {V0 V1 V2 V3 V4 V5 : Value} {A0 A1 A2 : Addr}
theorem yJG (h :
 brB (decide (i0 ≥ 0)) (
 R (.bool (decide (i0 ≤ 1099511627776))) w)
 (
 R (.bool false) w)) :
 CR pP 190 #[.int .i64 i0] w R :=
 yaA Tryz.wide_mixed (an := []) Tryz.func190 rfl rfl (by kernel_rfl) rfl (Eq.mpr (by kernel_rfl) h)
def ys6 : LA := ⟨[0, 0, 1, 0, 1, 1], [34, 35, 36], [], 1, []⟩
def yvF : List LA := [ys6]
abbrev yJH := dnF pP yvF (code Tryz.f189)
abbrev yNt := yaO pP yvF (code Tryz.f189)
abbrev yJI (p : List Nat) (K : List Kh) (R : VWP) := yaO pP yvF (code Tryz.f189) p K (ya7 pP Tryz.f189 [] R)
def ymH (a6 : OA) (a8 a7 : Nat) (a9 : Int) (bm0 : Nat) (a3 a4 a5 : Int) (a0 : OA) (a2 a1 : Nat) : Int → List Value × List TB := fun b0 => ([.slice a6 a8 a7, .int .i64 a9, .int .i64 b0], [⟨bm0, 45, [.int .i64 a3, .int .i64 a4, .int .i64 a5, .slice a0 a2 a1], false⟩])
abbrev yFq (a6 : OA) (a8 a7 : Nat) (a9 : Int) (bm0 : Nat) (a3 a4 a5 : Int) (a0 : OA) (a2 a1 : Nat) (I : Nat → Int → World → Prop) (m : Nat) : Kh := KG (ymH a6 a8 a7 a9 bm0 a3 a4 a5 a0 a2 a1) (U1 I) m
theorem yBa {I : Nat → Int → World → Prop} (m' : Nat) (h1 : m' < m) (h2 : I m' i4 w) : KS (yFq q0 n0 n1 i0 n2 i1 i2 i3 q1 n3 n4 I m) (ymH q0 n0 n1 i0 n2 i1 i2 i3 q1 n3 n4 i4) w := ⟨m', h1, _, rfl, rfl, h2⟩
theorem yBb {a7 : OA} {a0 : OA} (I : Nat → Int → World → Prop) (m0 : Nat) (h0 : I m0 i4 w0)
 (hr : ∀ m a6 w, I m a6 w →
 brB (decide (a6 < i0)) (
 ixA a7 n0 a6 4 fun q9 =>
 ya1 w q9 fun b8 => yaT w (Addr.add q9 1) fun b6 => ya1 w (Addr.add q9 2) fun b9 => yaT w (Addr.add q9 3) fun b7 =>
 ∀ b2, w.heap.size ≤ b2 →
 ∀ b3, Adv [] [b2] w b3 →
 Calls pP 119 #[(.agg (Z5 b8 b6 b9 b7))] b3 fun e b4 => ∃ b5, e = .returned (.int .i64 b5) ∧ yaD [n2, b2] b3 b4 ∧
 brB (b5 != 0) (
 R (.int .i64 b5) b4)
 (
 KS (yFq a7 n0 n1 i0 n2 i1 i2 i3 a0 n3 n4 I m) (ymH a7 n0 n1 i0 n2 i1 i2 i3 a0 n3 n4 (IntKind.wrap .i64 (a6 + 1))) b4))
 (
 R (.int .i64 0) w)) :
 yaJ ys6 (yJH 396 [0, 0, 1, 0, 1, 1]) (yJI [1, 1, 0, 1, 0] [] R) (ymH a7 n0 n1 i0 n2 i1 i2 i3 a0 n3 n4 i4) w0 :=
 lrule (ymH a7 n0 n1 i0 n2 i1 i2 i3 a0 n3 n4) (U1 I) h0 (by rintro m a6 w h; exact ⟨by kernel_rfl, by kernel_rfl, fun js => Eq.mpr (by kernel_rfl) (hr m a6 w h)⟩)
theorem yJJ (h :
 ∀ b1, w.heap.size ≤ b1 →
 ∀ w2, Adv [] [b1] w w2 →
 Calls pP 190 #[.int .i64 i0] w2 fun e w3 => ∃ t4, e = .returned (.bool t4) ∧ yaD [b1] w2 w3 ∧
 brB (!t4) (
 R (.int .i64 1) w3)
 (
 Calls pP 190 #[.int .i64 i1] w3 fun e w5 => ∃ t6, e = .returned (.bool t6) ∧ yaD [b1] w3 w5 ∧
 brB (!t6) (
 R (.int .i64 1) w5)
 (
 Calls pP 190 #[.int .i64 i2] w5 fun e w7 => ∃ t8, e = .returned (.bool t8) ∧ yaD [b1] w5 w7 ∧
 brB (!t8) (
 R (.int .i64 1) w7)
 (
 brB ((n0 : Int) == 0) (
 R (.int .i64 30) w7)
 (
 brB (decide ((n0 : Int) > 16)) (
 R (.int .i64 2) w7)
 (
 yaJ ys6 (yJH 396 [0, 0, 1, 0, 1, 1]) (yJI [1, 1, 0, 1, 0] [] R) (ymH q0 n0 n1 (n0 : Int) b1 i0 i1 i2 q0 n0 n1 0) w7)))))) :
 CR pP 189 #[(.agg (Z8 i0 i1 i2 q0 n0 n1))] w R :=
 yaA Tryz.wide_mixed (an := yvF) Tryz.func189 rfl rfl (by kernel_rfl) rfl (Eq.mpr (by kernel_rfl) h)
def ys7 : LA := ⟨[0, 0, 1, 0, 1, 1, 1, 1], [1, 3], [(1, 0, 0)], 1, []⟩
def yvG : List LA := [ys7]
abbrev yJK := dnF pP yvG (code Tryz.f154)
abbrev yNu := yaO pP yvG (code Tryz.f154)
abbrev yJL (p : List Nat) (K : List Kh) (R : VWP) := yaO pP yvG (code Tryz.f154) p K (ya7 pP Tryz.f154 [] R)
def ymI (bm0 : Nat) (a3 a4 a5 : Int) (a0 : OA) (a2 a1 : Nat) : Int → List Value × List TB := fun a6 => ([(.pointer (some ⟨bm0, 0, none⟩)), .int .i64 a6], [⟨bm0, 45, [.int .i64 a3, .int .i64 a4, .int .i64 a5, .slice a0 a2 a1], false⟩])
abbrev yFr (bm0 : Nat) (a3 a4 a5 : Int) (a0 : OA) (a2 a1 : Nat) (I : Nat → Int → World → Prop) (m : Nat) : Kh := KG (ymI bm0 a3 a4 a5 a0 a2 a1) (U1 I) m
theorem yBc {I : Nat → Int → World → Prop} (m' : Nat) (h1 : m' < m) (h2 : I m' i3 w) : KS (yFr n0 i0 i1 i2 q0 n1 n2 I m) (ymI n0 i0 i1 i2 q0 n1 n2 i3) w := ⟨m', h1, _, rfl, rfl, h2⟩
theorem yBd {a1 : OA} (I : Nat → Int → World → Prop) (m0 : Nat) (h0 : I m0 i3 w0)
 (hr : ∀ m a6 w, I m a6 w →
 brB (decide (a6 < (n1 : Int))) (
 ixA a1 n1 a6 4 fun q9 =>
 ya1 w q9 fun b2 => yaT w (Addr.add q9 1) fun b0 => ya1 w (Addr.add q9 2) fun b3 => yaT w (Addr.add q9 3) fun b1 =>
 Calls pP 133 #[(.agg (Z5 b2 b0 b3 b1))] w fun e a7 => ∃ a8, e = .returned (.int .i64 a8) ∧ yaD [n0] w a7 ∧
 brB (a8 != 0) (
 R (.int .i64 a8) a7)
 (
 KS (yFr n0 i0 i1 i2 a1 n1 n2 I m) (ymI n0 i0 i1 i2 a1 n1 n2 (IntKind.wrap .i64 (a6 + 1))) a7))
 (
 R (.int .i64 0) w)) :
 yaJ ys7 (yJK 394 [0, 0, 1, 0, 1, 1, 1, 1]) (yJL [1, 1, 1, 1, 0, 1, 0] [] R) (ymI n0 i0 i1 i2 a1 n1 n2 i3) w0 :=
 lrule (ymI n0 i0 i1 i2 a1 n1 n2) (U1 I) h0 (by rintro m a6 w h; exact ⟨by kernel_rfl, by kernel_rfl, fun js => Eq.mpr (by kernel_rfl) (hr m a6 w h)⟩)
theorem yJM (h :
 ∀ b1, w.heap.size ≤ b1 →
 ∀ w2, Adv [] [b1] w w2 →
 Calls pP 91 #[.int .i64 i0] w2 fun e w3 => ∃ t4, e = .returned (.bool t4) ∧ yaD [b1] w2 w3 ∧
 brB (!t4) (
 R (.int .i64 1) w3)
 (
 Calls pP 91 #[.int .i64 i1] w3 fun e w5 => ∃ t6, e = .returned (.bool t6) ∧ yaD [b1] w3 w5 ∧
 brB (!t6) (
 R (.int .i64 1) w5)
 (
 Calls pP 91 #[.int .i64 i2] w5 fun e w7 => ∃ t8, e = .returned (.bool t8) ∧ yaD [b1] w5 w7 ∧
 brB (!t8) (
 R (.int .i64 1) w7)
 (
 brB ((n0 : Int) == 0) (
 R (.int .i64 30) w7)
 (
 brB (decide ((n0 : Int) > 16)) (
 R (.int .i64 2) w7)
 (
 yaJ ys7 (yJK 394 [0, 0, 1, 0, 1, 1, 1, 1]) (yJL [1, 1, 1, 1, 0, 1, 0] [] R) (ymI b1 i0 i1 i2 q0 n0 n1 0) w7)))))) :
 CR pP 154 #[(.agg (Z8 i0 i1 i2 q0 n0 n1))] w R :=
 yaA Tryz.wide_mixed (an := yvG) Tryz.func154 rfl rfl (by kernel_rfl) rfl (Eq.mpr (by kernel_rfl) h)
def ys8 : LA := ⟨[0, 0, 1, 0, 1, 1], [0, 1, 5], [], 0, []⟩
def yvH : List LA := [ys8]
abbrev yJN := dnF pP yvH (code Tryz.f128)
abbrev yNv := yaO pP yvH (code Tryz.f128)
abbrev yJO (p : List Nat) (K : List Kh) (R : VWP) := yaO pP yvH (code Tryz.f128) p K (ya7 pP Tryz.f128 [] R)
def ymJ (a0 : OA) (a4 a2 : Nat) (a1 : OA) (a5 a3 : Nat) : Int → List Value × List TB := fun a6 => ([.slice a0 a4 a2, .slice a1 a5 a3, .int .i64 a6], [])
abbrev yFs (a0 : OA) (a4 a2 : Nat) (a1 : OA) (a5 a3 : Nat) (I : Nat → Int → World → Prop) (m : Nat) : Kh := KG (ymJ a0 a4 a2 a1 a5 a3) (U1 I) m
theorem yBe {I : Nat → Int → World → Prop} (m' : Nat) (h1 : m' < m) (h2 : I m' i0 w) : KS (yFs q0 n0 n1 q1 n2 n3 I m) (ymJ q0 n0 n1 q1 n2 n3 i0) w := ⟨m', h1, _, rfl, rfl, h2⟩
theorem yBf {a2 : OA} {a3 : OA} (I : Nat → Int → World → Prop) (m0 : Nat) (h0 : I m0 i0 w0)
 (hr : ∀ m a0 w, I m a0 w →
 brB (decide (a0 < (n0 : Int))) (
 ixA a2 n0 a0 4 fun q1 =>
 ya1 w q1 fun t2 => yaT w (Addr.add q1 1) fun s3 => ya1 w (Addr.add q1 2) fun t4 => yaT w (Addr.add q1 3) fun s5 =>
 ixA a3 n2 a0 4 fun q6 =>
 ya1 w q6 fun t7 => yaT w (Addr.add q6 1) fun s8 => ya1 w (Addr.add q6 2) fun t9 => yaT w (Addr.add q6 3) fun a8 =>
 ∃ a9, (∀ w', Mod [] w w' → Sem.run pP (do eqGuard .neq 99 (.tmp 20) (.tmp 24) (.agg (Z5 t2 s3 t4 s5)) (.agg (Z5 t7 s8 t9 a8)); Go.binOp .neq 99 (.agg (Z5 t2 s3 t4 s5)) (.agg (Z5 t7 s8 t9 a8))) w' = .ok (.bool a9) w') ∧
 brB a9 (
 ∀ b0, Adv [] [] w b0 →
 R (.bool false) b0)
 (
 ∀ b1, Adv [] [] w b1 →
 KS (yFs a2 n0 n1 a3 n2 n3 I m) (ymJ a2 n0 n1 a3 n2 n3 (IntKind.wrap .i64 (a0 + 1))) b1))
 (
 R (.bool true) w)) :
 yaJ ys8 (yJN 396 [0, 0, 1, 0, 1, 1]) (yJO [1, 1, 0, 1, 0] [] R) (ymJ a2 n0 n1 a3 n2 n3 i0) w0 :=
 lrule (ymJ a2 n0 n1 a3 n2 n3) (U1 I) h0 (by rintro m a0 w h; exact ⟨by kernel_rfl, by kernel_rfl, fun js => Eq.mpr (by kernel_rfl) (hr m a0 w h)⟩)
theorem yJP (h :
 brB ((n0 : Int) != (n2 : Int)) (
 R (.bool false) w)
 (
 yaJ ys8 (yJN 396 [0, 0, 1, 0, 1, 1]) (yJO [1, 1, 0, 1, 0] [] R) (ymJ q0 n0 n1 q1 n2 n3 0) w)) :
 CR pP 128 #[.slice q0 n0 n1, .slice q1 n2 n3] w R :=
 yaA Tryz.wide_mixed (an := yvH) Tryz.func128 rfl rfl (by kernel_rfl) rfl (Eq.mpr (by kernel_rfl) h)
theorem yJQ (h :
 ∀ b1, w.heap.size ≤ b1 →
 ∀ b2, w.heap.size ≤ b2 →
 brB (i0 == i3) (
 brB (i1 == i4) (
 brB (i2 == i5) (
 ∀ w3, Adv [] [b2, b1] w w3 →
 Calls pP 128 #[.slice q0 n0 n1, .slice q1 n2 n3] w3 fun e w4 => ∃ t5, e = .returned (.bool t5) ∧ yaD [b1, b2] w3 w4 ∧
 R (.bool t5) w4)
 (
 ∀ w6, Adv [] [b2, b1] w w6 →
 R (.bool false) w6))
 (
 ∀ w7, Adv [] [b2, b1] w w7 →
 R (.bool false) w7))
 (
 ∀ w8, Adv [] [b2, b1] w w8 →
 R (.bool false) w8)) :
 CR pP 89 #[(.agg (Z8 i0 i1 i2 q0 n0 n1)), (.agg (Z8 i3 i4 i5 q1 n2 n3))] w R :=
 yaA Tryz.wide_mixed (an := []) Tryz.func89 rfl rfl (by kernel_rfl) rfl (Eq.mpr (by kernel_rfl) h)
theorem yJR (h :
 al w (.cells #[(.string (⟨#[116, 110]⟩ : BA)), (.string (⟨#[110]⟩ : BA)), (.string (⟨#[112, 98]⟩ : BA)), (.string (⟨#[112, 111, 110]⟩ : BA)), (.string (⟨#[112, 111]⟩ : BA)), (.string (⟨#[112]⟩ : BA)), (.string (⟨#[103, 109, 110, 114, 108]⟩ : BA)), (.string (⟨#[103, 109, 101]⟩ : BA)), (.string (⟨#[103, 109, 101]⟩ : BA)), (.string (⟨#[103, 109, 101]⟩ : BA)), (.string (⟨#[103, 109, 101, 112, 111]⟩ : BA)), (.string (⟨#[103, 112]⟩ : BA)), (.string (⟨#[110]⟩ : BA))] 9) fun b1 w2 =>
 ixA (some ⟨b1, 0, none⟩) 13 i0 1 fun q3 =>
 yaT w2 q3 fun s4 =>
 R (.string s4) w2) :
 CR pP 131 #[.int .i64 i0] w R :=
 yaA Tryz.wide_mixed (an := []) Tryz.func131 rfl rfl (by kernel_rfl) rfl (Eq.mpr (by kernel_rfl) h)
def ys9 : LA := ⟨[0, 0, 1, 0, 1], [0, 1, 5], [], 0, []⟩
def yvI : List LA := [ys9]
abbrev yJS := dnF pP yvI (code Tryz.f152)
abbrev yNw := yaO pP yvI (code Tryz.f152)
abbrev yJT (p : List Nat) (K : List Kh) (R : VWP) := yaO pP yvI (code Tryz.f152) p K (ya7 pP Tryz.f152 [] R)
def ymK (a0 : BA) (a1 : Int) : Int → List Value × List TB := fun a2 => ([.string a0, .int .u8 a1, .int .i64 a2], [])
abbrev yFt (a0 : BA) (a1 : Int) (I : Nat → Int → World → Prop) (m : Nat) : Kh := KG (ymK a0 a1) (U1 I) m
theorem yBg {I : Nat → Int → World → Prop} (m' : Nat) (h1 : m' < m) (h2 : I m' i1 w) : KS (yFt s0 i0 I m) (ymK s0 i0 i1) w := ⟨m', h1, _, rfl, rfl, h2⟩
theorem yBh (I : Nat → Int → World → Prop) (m0 : Nat) (h0 : I m0 i1 w0)
 (hr : ∀ m a1 w, I m a1 w →
 brB (decide (a1 < (s0.size : Int))) (
 ixS s0 a1 fun x1 =>
 brB (x1 == i0) (
 R (.bool true) w)
 (
 KS (yFt s0 i0 I m) (ymK s0 i0 (IntKind.wrap .i64 (a1 + 1))) w))
 (
 R (.bool false) w)) :
 yaJ ys9 (yJS 397 [0, 0, 1, 0, 1]) (yJT [1, 0, 1, 0] [] R) (ymK s0 i0 i1) w0 :=
 lrule (ymK s0 i0) (U1 I) h0 (by rintro m a1 w h; exact ⟨by kernel_rfl, by kernel_rfl, fun js => Eq.mpr (by kernel_rfl) (hr m a1 w h)⟩)
theorem yJU (h :
 yaJ ys9 (yJS 397 [0, 0, 1, 0, 1]) (yJT [1, 0, 1, 0] [] R) (ymK s0 i0 0) w) :
 CR pP 152 #[.string s0, .int .u8 i0] w R :=
 yaA Tryz.wide_mixed (an := yvI) Tryz.func152 rfl rfl (by kernel_rfl) rfl (Eq.mpr (by kernel_rfl) h)
def ytA : LA := ⟨[0, 0, 1, 0, 1], [0, 1, 5], [], 0, []⟩
def yvJ : List LA := [ytA]
abbrev yJV := dnF pP yvJ (code Tryz.f164)
abbrev yNx := yaO pP yvJ (code Tryz.f164)
abbrev yJW (p : List Nat) (K : List Kh) (R : VWP) := yaO pP yvJ (code Tryz.f164) p K (ya7 pP Tryz.f164 [] R)
def ymL (a0 a1 : BA) : Int → List Value × List TB := fun a2 => ([.string a0, .string a1, .int .i64 a2], [])
abbrev yFu (a0 a1 : BA) (I : Nat → Int → World → Prop) (m : Nat) : Kh := KG (ymL a0 a1) (U1 I) m
theorem yBi {I : Nat → Int → World → Prop} (m' : Nat) (h1 : m' < m) (h2 : I m' i0 w) : KS (yFu s0 s1 I m) (ymL s0 s1 i0) w := ⟨m', h1, _, rfl, rfl, h2⟩
theorem yBj (I : Nat → Int → World → Prop) (m0 : Nat) (h0 : I m0 i0 w0)
 (hr : ∀ m a0 w, I m a0 w →
 brB (decide (a0 < (s0.size : Int))) (
 brB (decide (a0 < (s1.size : Int))) (
 ixS s0 a0 fun x1 =>
 ixS s1 a0 fun x2 =>
 brB (x1 != x2) (
 ixS s0 a0 fun x3 =>
 ixS s1 a0 fun x4 =>
 ∀ w5, Adv [] [] w w5 →
 R (.bool (decide (x3 < x4))) w5)
 (
 ∀ w6, Adv [] [] w w6 →
 KS (yFu s0 s1 I m) (ymL s0 s1 (IntKind.wrap .i64 (a0 + 1))) w6))
 (
 R (.bool (decide ((s0.size : Int) < (s1.size : Int)))) w))
 (
 R (.bool (decide ((s0.size : Int) < (s1.size : Int)))) w)) :
 yaJ ytA (yJV 397 [0, 0, 1, 0, 1]) (yJW [1, 0, 1, 0] [] R) (ymL s0 s1 i0) w0 :=
 lrule (ymL s0 s1) (U1 I) h0 (by rintro m a0 w h; exact ⟨by kernel_rfl, by kernel_rfl, fun js => Eq.mpr (by kernel_rfl) (hr m a0 w h)⟩)
theorem yJX (h :
 yaJ ytA (yJV 397 [0, 0, 1, 0, 1]) (yJW [1, 0, 1, 0] [] R) (ymL s0 s1 0) w) :
 CR pP 164 #[.string s0, .string s1] w R :=
 yaA Tryz.wide_mixed (an := yvJ) Tryz.func164 rfl rfl (by kernel_rfl) rfl (Eq.mpr (by kernel_rfl) h)
def ytB : LA := ⟨[0, 0, 1, 0, 1, 1], [0, 3], [], 0, []⟩
def yvK : List LA := [ytB]
abbrev yJY := dnF pP yvK (code Tryz.f153)
abbrev yNy := yaO pP yvK (code Tryz.f153)
abbrev yJZ (p : List Nat) (K : List Kh) (R : VWP) := yaO pP yvK (code Tryz.f153) p K (ya7 pP Tryz.f153 [] R)
def ykV (a0 : OA) (a2 a1 : Nat) : Int → List Value × List TB := fun a3 => ([.slice a0 a2 a1, .int .i64 a3], [])
abbrev yBk (a0 : OA) (a2 a1 : Nat) (I : Nat → Int → World → Prop) (m : Nat) : Kh := KG (ykV a0 a2 a1) (U1 I) m
theorem yrB {I : Nat → Int → World → Prop} (m' : Nat) (h1 : m' < m) (h2 : I m' i0 w) : KS (yBk q0 n0 n1 I m) (ykV q0 n0 n1 i0) w := ⟨m', h1, _, rfl, rfl, h2⟩
theorem yBl {a2 : OA} (I : Nat → Int → World → Prop) (m0 : Nat) (h0 : I m0 i0 w0)
 (hr : ∀ m a1 w, I m a1 w →
 brB (decide (a1 < (n0 : Int))) (
 ixA a2 n0 a1 1 fun q1 =>
 ∀ w2, Adv [] [] w w2 →
 yaT w2 q1 fun s3 =>
 Calls pP 134 #[.string s3] w2 fun e w4 => ∃ t5, e = .returned (.bool t5) ∧
 brB (!t5) (
 R (.bool false) w4)
 (
 brB (decide (a1 > 0)) (
 ixA a2 n0 (IntKind.wrap .i64 (a1 - 1)) 1 fun q6 =>
 yaT w4 q6 fun s7 =>
 ixA a2 n0 a1 1 fun q8 =>
 yaT w4 q8 fun s9 =>
 Calls pP 164 #[.string s7, .string s9] w4 fun e a6 => ∃ a5, e = .returned (.bool a5) ∧
 brB (!a5) (
 R (.bool false) a6)
 (
 KS (yBk a2 n0 n1 I m) (ykV a2 n0 n1 (IntKind.wrap .i64 (a1 + 1))) a6))
 (
 KS (yBk a2 n0 n1 I m) (ykV a2 n0 n1 (IntKind.wrap .i64 (a1 + 1))) w4)))
 (
 R (.bool true) w)) :
 yaJ ytB (yJY 396 [0, 0, 1, 0, 1, 1]) (yJZ [1, 1, 0, 1, 0] [] R) (ykV a2 n0 n1 i0) w0 :=
 lrule (ykV a2 n0 n1) (U1 I) h0 (by rintro m a1 w h; exact ⟨by kernel_rfl, by kernel_rfl, fun js => Eq.mpr (by kernel_rfl) (hr m a1 w h)⟩)
theorem yJ0 (h :
 brB (decide ((n0 : Int) < 1)) (
 R (.bool false) w)
 (
 brB (decide ((n0 : Int) > 8)) (
 R (.bool false) w)
 (
 yaJ ytB (yJY 396 [0, 0, 1, 0, 1, 1]) (yJZ [1, 1, 0, 1, 0] [] R) (ykV q0 n0 n1 0) w))) :
 CR pP 153 #[.slice q0 n0 n1] w R :=
 yaA Tryz.wide_mixed (an := yvK) Tryz.func153 rfl rfl (by kernel_rfl) rfl (Eq.mpr (by kernel_rfl) h)
def ya3 : LA := ⟨[1, 0, 1, 1, 1], [1, 3, 54], [(1, 0, 0)], 1, []⟩
def yoC : LA := ⟨[1, 1, 1, 1], [1, 3], [(1, 0, 0)], 1, []⟩
def yfY : LA := ⟨[1, 0, 1, 1, 1, 1], [1, 3, 82], [(1, 0, 0)], 1, []⟩
def yoD : LA := ⟨[1, 1, 1, 1, 1], [1, 3], [(1, 0, 0)], 1, []⟩
def yc1 : LA := ⟨[1, 0, 1, 1, 1, 1, 1], [1, 3, 110], [(1, 0, 0)], 1, []⟩
def yoE : LA := ⟨[1, 1, 1, 1, 1, 1], [1, 3], [(1, 0, 0)], 1, []⟩
def yvL : List LA := [ya3, yoC, yfY, yoD, yc1, yoE]
abbrev ya8 := dnF pP yvL (code Tryz.f151)
abbrev yNz := yaO pP yvL (code Tryz.f151)
abbrev ya9 (p : List Nat) (K : List Kh) (R : VWP) := yaO pP yvL (code Tryz.f151) p K (ya7 pP Tryz.f151 [] R)
def ybC : ByteArray × Bool × Nat × Int × ByteArray × Int × Int × Int × Int × Int × Int × (Option Addr) × Nat × Nat × ByteArray × ByteArray × Int × Bool × (Option Addr) × Nat × Nat → List Value × List TB := fun (b9, b8, bm0, b1, a9, b2, b3, b4, b5, b6, b7, a6, a8, a7, b0, a3, a5, a4, a0, a2, a1) => ([(.pointer (some ⟨bm0, 0, none⟩)), .string b9, .bool b8], [⟨bm0, 48, [.int .i64 b1, .string a9, .int .i64 b2, .int .i64 b3, .int .i64 b4, .int .i64 b5, .int .i64 b6, .int .i64 b7, .slice a6 a8 a7, .string b0, .string a3, .int .i64 a5, .bool a4, .slice a0 a2 a1], false⟩])
def yvM : ByteArray × Nat × Int × ByteArray × Int × Int × Int × Int × Int × Int × (Option Addr) × Nat × Nat × ByteArray × ByteArray × Int × Bool × (Option Addr) × Nat × Nat → List Value × List TB := fun (b8, bm0, b1, a9, b2, b3, b4, b5, b6, b7, a6, a8, a7, b0, a3, a5, a4, a0, a2, a1) => ([(.pointer (some ⟨bm0, 0, none⟩)), .string b8], [⟨bm0, 48, [.int .i64 b1, .string a9, .int .i64 b2, .int .i64 b3, .int .i64 b4, .int .i64 b5, .int .i64 b6, .int .i64 b7, .slice a6 a8 a7, .string b0, .string a3, .int .i64 a5, .bool a4, .slice a0 a2 a1], false⟩])
def yjH : ByteArray × Bool × Nat × Int × ByteArray × Int × Int × Int × Int × Int × Int × (Option Addr) × Nat × Nat × ByteArray × ByteArray × Int × Bool × (Option Addr) × Nat × Nat → List Value × List TB := fun (b9, b8, bm0, b1, a9, b2, b3, b4, b5, b6, b7, a6, a8, a7, b0, a3, a5, a4, a0, a2, a1) => ([(.pointer (some ⟨bm0, 0, none⟩)), .string b9, .bool b8], [⟨bm0, 48, [.int .i64 b1, .string a9, .int .i64 b2, .int .i64 b3, .int .i64 b4, .int .i64 b5, .int .i64 b6, .int .i64 b7, .slice a6 a8 a7, .string b0, .string a3, .int .i64 a5, .bool a4, .slice a0 a2 a1], false⟩])
def yvN : ByteArray × Nat × Int × ByteArray × Int × Int × Int × Int × Int × Int × (Option Addr) × Nat × Nat × ByteArray × ByteArray × Int × Bool × (Option Addr) × Nat × Nat → List Value × List TB := fun (b8, bm0, b1, a9, b2, b3, b4, b5, b6, b7, a6, a8, a7, b0, a3, a5, a4, a0, a2, a1) => ([(.pointer (some ⟨bm0, 0, none⟩)), .string b8], [⟨bm0, 48, [.int .i64 b1, .string a9, .int .i64 b2, .int .i64 b3, .int .i64 b4, .int .i64 b5, .int .i64 b6, .int .i64 b7, .slice a6 a8 a7, .string b0, .string a3, .int .i64 a5, .bool a4, .slice a0 a2 a1], false⟩])
def yeN : ByteArray × Bool × Nat × Int × ByteArray × Int × Int × Int × Int × Int × Int × (Option Addr) × Nat × Nat × ByteArray × ByteArray × Int × Bool × (Option Addr) × Nat × Nat → List Value × List TB := fun (b9, b8, bm0, b1, a9, b2, b3, b4, b5, b6, b7, a6, a8, a7, b0, a3, a5, a4, a0, a2, a1) => ([(.pointer (some ⟨bm0, 0, none⟩)), .string b9, .bool b8], [⟨bm0, 48, [.int .i64 b1, .string a9, .int .i64 b2, .int .i64 b3, .int .i64 b4, .int .i64 b5, .int .i64 b6, .int .i64 b7, .slice a6 a8 a7, .string b0, .string a3, .int .i64 a5, .bool a4, .slice a0 a2 a1], false⟩])
def yvO : ByteArray × Nat × Int × ByteArray × Int × Int × Int × Int × Int × Int × (Option Addr) × Nat × Nat × ByteArray × ByteArray × Int × Bool × (Option Addr) × Nat × Nat → List Value × List TB := fun (b8, bm0, b1, a9, b2, b3, b4, b5, b6, b7, a6, a8, a7, b0, a3, a5, a4, a0, a2, a1) => ([(.pointer (some ⟨bm0, 0, none⟩)), .string b8], [⟨bm0, 48, [.int .i64 b1, .string a9, .int .i64 b2, .int .i64 b3, .int .i64 b4, .int .i64 b5, .int .i64 b6, .int .i64 b7, .slice a6 a8 a7, .string b0, .string a3, .int .i64 a5, .bool a4, .slice a0 a2 a1], false⟩])
def yBm (b9 : BA) (b8 : Bool) (bm0 : Nat) (b1 : Int) (a9 : BA) (b2 b3 b4 b5 b6 b7 : Int) (a6 : OA) (a8 a7 : Nat) (b0 a3 : BA) (a5 : Int) (a4 : Bool) (a0 : OA) (a2 a1 : Nat) (R : VWP) (w : World) : Prop :=
 brB b8 (
 R (.bool false) w)
 (
 yaR yoC ((ya8 396 [1, 1, 1, 1]) (ya9 [1, 1, 1] [] R)) (yvM (b9, bm0, b1, a9, b2, b3, b4, b5, b6, b7, a6, a8, a7, b0, a3, a5, a4, a0, a2, a1)) w)
theorem yD5 (J : ByteArray → Bool → Nat → Int → ByteArray → Int → Int → Int → Int → Int → Int → Option Addr → Nat → Nat → ByteArray → ByteArray → Int → Bool → Option Addr → Nat → Nat → World → Prop) (h0 : J s0 B0 n0 i0 s1 i1 i2 i3 i4 i5 i6 q0 n1 n2 s2 s3 i7 B1 q1 n3 n4 w0)
 (hr : ∀ d6 d5 bm0 b1 a9 b2 b3 b4 b5 b6 b7 a6 a8 a7 b0 s1 a5 a4 a1 a3 a2 w, J d6 d5 bm0 b1 a9 b2 b3 b4 b5 b6 b7 a6 a8 a7 b0 s1 a5 a4 a1 a3 a2 w → yBm d6 d5 bm0 b1 a9 b2 b3 b4 b5 b6 b7 a6 a8 a7 b0 s1 a5 a4 a1 a3 a2 R w) :
 yaR ya3 ((ya8 396 [1, 0, 1, 1, 1]) (ya9 [1, 1, 1, 0] [] R)) (ybC (s0, B0, n0, i0, s1, i1, i2, i3, i4, i5, i6, q0, n1, n2, s2, s3, i7, B1, q1, n3, n4)) w0 :=
 crule (ybC) (V21 J) h0 (by rintro ⟨d6, d5, bm0, b1, a9, b2, b3, b4, b5, b6, b7, a6, a8, a7, b0, s1, a5, a4, a1, a3, a2⟩ w h; exact ⟨by kernel_rfl, by kernel_rfl, fun js => Eq.mpr (by kernel_rfl) (hr d6 d5 bm0 b1 a9 b2 b3 b4 b5 b6 b7 a6 a8 a7 b0 s1 a5 a4 a1 a3 a2 w h)⟩)
theorem yGV (h : yBm s0 B0 n0 i0 s1 i1 i2 i3 i4 i5 i6 q0 n1 n2 s2 s3 i7 B1 q1 n3 n4 R w) :
 yaR ya3 ((ya8 396 [1, 0, 1, 1, 1]) (ya9 [1, 1, 1, 0] [] R)) (ybC (s0, B0, n0, i0, s1, i1, i2, i3, i4, i5, i6, q0, n1, n2, s2, s3, i7, B1, q1, n3, n4)) w :=
 yD5 (fun d9 d7 bm0' c9 c7 d0 d1 d2 d3 d4 d5 c4 c6 c5 c8 b3 b7 b5 a6 b0 a8 w' => d9 = s0 ∧ d7 = B0 ∧ bm0' = n0 ∧ c9 = i0 ∧ c7 = s1 ∧ d0 = i1 ∧ d1 = i2 ∧ d2 = i3 ∧ d3 = i4 ∧ d4 = i5 ∧ d5 = i6 ∧ c4 = q0 ∧ c6 = n1 ∧ c5 = n2 ∧ c8 = s2 ∧ b3 = s3 ∧ b7 = i7 ∧ b5 = B1 ∧ a6 = q1 ∧ b0 = n3 ∧ a8 = n4 ∧ w' = w) ⟨rfl, rfl, rfl, rfl, rfl, rfl, rfl, rfl, rfl, rfl, rfl, rfl, rfl, rfl, rfl, rfl, rfl, rfl, rfl, rfl, rfl, rfl⟩ (by rintro d9 d7 bm0' c9 c7 d0 d1 d2 d3 d4 d5 c4 c6 c5 c8 b3 b7 b5 a6 b0 a8 w' ⟨rfl, rfl, rfl, rfl, rfl, rfl, rfl, rfl, rfl, rfl, rfl, rfl, rfl, rfl, rfl, rfl, rfl, rfl, rfl, rfl, rfl, rfl⟩; exact h)
def yvP (b8 : BA) (bm0 : Nat) (b4 : Int) (b2 : BA) (b5 b6 b7 a7 a8 a9 : Int) (b0 : OA) (a3 b1 : Nat) (b3 a4 : BA) (a6 : Int) (a5 : Bool) (a0 : OA) (a2 a1 : Nat) (R : VWP) (w : World) : Prop :=
 Calls pP 152 #[.string b8, .int .u8 98] w fun e w9 => ∃ b9, e = .returned (.bool b9) ∧ yaD [bm0] w w9 ∧
 brB (!b9) (
 brB (a7 != 0) (
 yaR yfY ((ya8 395 [1, 0, 1, 1, 1, 1]) (ya9 [1, 1, 1, 1, 0] [] R)) (yjH (b8, true, bm0, b4, b2, b5, b6, b7, a7, a8, a9, b0, a3, b1, b3, a4, a6, a5, a0, a2, a1)) w9)
 (
 brB (a8 != 0) (
 yaR yfY ((ya8 395 [1, 0, 1, 1, 1, 1]) (ya9 [1, 1, 1, 1, 0] [] R)) (yjH (b8, true, bm0, b4, b2, b5, b6, b7, a7, a8, a9, b0, a3, b1, b3, a4, a6, a5, a0, a2, a1)) w9)
 (
 brB (a9 != 0) (
 yaR yfY ((ya8 395 [1, 0, 1, 1, 1, 1]) (ya9 [1, 1, 1, 1, 0] [] R)) (yjH (b8, true, bm0, b4, b2, b5, b6, b7, a7, a8, a9, b0, a3, b1, b3, a4, a6, a5, a0, a2, a1)) w9)
 (
 yaR yfY ((ya8 395 [1, 0, 1, 1, 1, 1]) (ya9 [1, 1, 1, 1, 0] [] R)) (yjH (b8, (decide ((a3 : Int) > 0)), bm0, b4, b2, b5, b6, b7, a7, a8, a9, b0, a3, b1, b3, a4, a6, a5, a0, a2, a1)) w9))))
 (
 yaR yfY ((ya8 395 [1, 0, 1, 1, 1, 1]) (ya9 [1, 1, 1, 1, 0] [] R)) (yjH (b8, false, bm0, b4, b2, b5, b6, b7, a7, a8, a9, b0, a3, b1, b3, a4, a6, a5, a0, a2, a1)) w9)
theorem yD6 (J : ByteArray → Nat → Int → ByteArray → Int → Int → Int → Int → Int → Int → Option Addr → Nat → Nat → ByteArray → ByteArray → Int → Bool → Option Addr → Nat → Nat → World → Prop) (h0 : J s0 n0 i0 s1 i1 i2 i3 i4 i5 i6 q0 n1 n2 s2 s3 i7 B0 q1 n3 n4 w0)
 (hr : ∀ d5 bm0 b1 a9 b2 b3 b4 b5 b6 b7 a6 a8 a7 b0 s1 a5 a4 a1 a3 a2 w, J d5 bm0 b1 a9 b2 b3 b4 b5 b6 b7 a6 a8 a7 b0 s1 a5 a4 a1 a3 a2 w → yvP d5 bm0 b1 a9 b2 b3 b4 b5 b6 b7 a6 a8 a7 b0 s1 a5 a4 a1 a3 a2 R w) :
 yaR yoC ((ya8 396 [1, 1, 1, 1]) (ya9 [1, 1, 1] [] R)) (yvM (s0, n0, i0, s1, i1, i2, i3, i4, i5, i6, q0, n1, n2, s2, s3, i7, B0, q1, n3, n4)) w0 :=
 crule (yvM) (V20 J) h0 (by rintro ⟨d5, bm0, b1, a9, b2, b3, b4, b5, b6, b7, a6, a8, a7, b0, s1, a5, a4, a1, a3, a2⟩ w h; exact ⟨by kernel_rfl, by kernel_rfl, fun js => Eq.mpr (by kernel_rfl) (hr d5 bm0 b1 a9 b2 b3 b4 b5 b6 b7 a6 a8 a7 b0 s1 a5 a4 a1 a3 a2 w h)⟩)
theorem yGW (h : yvP s0 n0 i0 s1 i1 i2 i3 i4 i5 i6 q0 n1 n2 s2 s3 i7 B0 q1 n3 n4 R w) :
 yaR yoC ((ya8 396 [1, 1, 1, 1]) (ya9 [1, 1, 1] [] R)) (yvM (s0, n0, i0, s1, i1, i2, i3, i4, i5, i6, q0, n1, n2, s2, s3, i7, B0, q1, n3, n4)) w :=
 yD6 (fun d7 bm0' c9 c7 d0 d1 d2 d3 d4 d5 c4 c6 c5 c8 b3 b7 b5 a6 b0 a8 w' => d7 = s0 ∧ bm0' = n0 ∧ c9 = i0 ∧ c7 = s1 ∧ d0 = i1 ∧ d1 = i2 ∧ d2 = i3 ∧ d3 = i4 ∧ d4 = i5 ∧ d5 = i6 ∧ c4 = q0 ∧ c6 = n1 ∧ c5 = n2 ∧ c8 = s2 ∧ b3 = s3 ∧ b7 = i7 ∧ b5 = B0 ∧ a6 = q1 ∧ b0 = n3 ∧ a8 = n4 ∧ w' = w) ⟨rfl, rfl, rfl, rfl, rfl, rfl, rfl, rfl, rfl, rfl, rfl, rfl, rfl, rfl, rfl, rfl, rfl, rfl, rfl, rfl, rfl⟩ (by rintro d7 bm0' c9 c7 d0 d1 d2 d3 d4 d5 c4 c6 c5 c8 b3 b7 b5 a6 b0 a8 w' ⟨rfl, rfl, rfl, rfl, rfl, rfl, rfl, rfl, rfl, rfl, rfl, rfl, rfl, rfl, rfl, rfl, rfl, rfl, rfl, rfl, rfl⟩; exact h)
def yBn (b9 : BA) (b8 : Bool) (bm0 : Nat) (b1 : Int) (a9 : BA) (b2 b3 b4 b5 b6 b7 : Int) (a6 : OA) (a8 a7 : Nat) (b0 a3 : BA) (a5 : Int) (a4 : Bool) (a0 : OA) (a2 a1 : Nat) (R : VWP) (w : World) : Prop :=
 brB b8 (
 R (.bool false) w)
 (
 yaR yoD ((ya8 395 [1, 1, 1, 1, 1]) (ya9 [1, 1, 1, 1] [] R)) (yvN (b9, bm0, b1, a9, b2, b3, b4, b5, b6, b7, a6, a8, a7, b0, a3, a5, a4, a0, a2, a1)) w)
theorem yD7 (J : ByteArray → Bool → Nat → Int → ByteArray → Int → Int → Int → Int → Int → Int → Option Addr → Nat → Nat → ByteArray → ByteArray → Int → Bool → Option Addr → Nat → Nat → World → Prop) (h0 : J s0 B0 n0 i0 s1 i1 i2 i3 i4 i5 i6 q0 n1 n2 s2 s3 i7 B1 q1 n3 n4 w0)
 (hr : ∀ d6 d5 bm0 b1 a9 b2 b3 b4 b5 b6 b7 a6 a8 a7 b0 s1 a5 a4 a1 a3 a2 w, J d6 d5 bm0 b1 a9 b2 b3 b4 b5 b6 b7 a6 a8 a7 b0 s1 a5 a4 a1 a3 a2 w → yBn d6 d5 bm0 b1 a9 b2 b3 b4 b5 b6 b7 a6 a8 a7 b0 s1 a5 a4 a1 a3 a2 R w) :
 yaR yfY ((ya8 395 [1, 0, 1, 1, 1, 1]) (ya9 [1, 1, 1, 1, 0] [] R)) (yjH (s0, B0, n0, i0, s1, i1, i2, i3, i4, i5, i6, q0, n1, n2, s2, s3, i7, B1, q1, n3, n4)) w0 :=
 crule (yjH) (V21 J) h0 (by rintro ⟨d6, d5, bm0, b1, a9, b2, b3, b4, b5, b6, b7, a6, a8, a7, b0, s1, a5, a4, a1, a3, a2⟩ w h; exact ⟨by kernel_rfl, by kernel_rfl, fun js => Eq.mpr (by kernel_rfl) (hr d6 d5 bm0 b1 a9 b2 b3 b4 b5 b6 b7 a6 a8 a7 b0 s1 a5 a4 a1 a3 a2 w h)⟩)
theorem yGX (h : yBn s0 B0 n0 i0 s1 i1 i2 i3 i4 i5 i6 q0 n1 n2 s2 s3 i7 B1 q1 n3 n4 R w) :
 yaR yfY ((ya8 395 [1, 0, 1, 1, 1, 1]) (ya9 [1, 1, 1, 1, 0] [] R)) (yjH (s0, B0, n0, i0, s1, i1, i2, i3, i4, i5, i6, q0, n1, n2, s2, s3, i7, B1, q1, n3, n4)) w :=
 yD7 (fun d9 d7 bm0' c9 c7 d0 d1 d2 d3 d4 d5 c4 c6 c5 c8 b3 b7 b5 a6 b0 a8 w' => d9 = s0 ∧ d7 = B0 ∧ bm0' = n0 ∧ c9 = i0 ∧ c7 = s1 ∧ d0 = i1 ∧ d1 = i2 ∧ d2 = i3 ∧ d3 = i4 ∧ d4 = i5 ∧ d5 = i6 ∧ c4 = q0 ∧ c6 = n1 ∧ c5 = n2 ∧ c8 = s2 ∧ b3 = s3 ∧ b7 = i7 ∧ b5 = B1 ∧ a6 = q1 ∧ b0 = n3 ∧ a8 = n4 ∧ w' = w) ⟨rfl, rfl, rfl, rfl, rfl, rfl, rfl, rfl, rfl, rfl, rfl, rfl, rfl, rfl, rfl, rfl, rfl, rfl, rfl, rfl, rfl, rfl⟩ (by rintro d9 d7 bm0' c9 c7 d0 d1 d2 d3 d4 d5 c4 c6 c5 c8 b3 b7 b5 a6 b0 a8 w' ⟨rfl, rfl, rfl, rfl, rfl, rfl, rfl, rfl, rfl, rfl, rfl, rfl, rfl, rfl, rfl, rfl, rfl, rfl, rfl, rfl, rfl, rfl⟩; exact h)
def yvQ (b8 : BA) (bm0 : Nat) (b1 : Int) (b0 : BA) (b2 b3 b4 b5 b6 b7 : Int) (a7 : OA) (a9 a8 : Nat) (a6 a1 : BA) (a0 : Int) (a5 : Bool) (a2 : OA) (a4 a3 : Nat) (R : VWP) (w : World) : Prop :=
 Calls pP 152 #[.string b8, .int .u8 103] w fun e b9 => ∃ c6, e = .returned (.bool c6) ∧ yaD [bm0] w b9 ∧
 brB (!c6) (
 brB (!(a6.toList == (⟨#[]⟩ : BA).toList)) (
 yaR yc1 ((ya8 394 [1, 0, 1, 1, 1, 1, 1]) (ya9 [1, 1, 1, 1, 1, 0] [] R)) (yeN (b8, true, bm0, b1, b0, b2, b3, b4, b5, b6, b7, a7, a9, a8, a6, a1, a0, a5, a2, a4, a3)) b9)
 (
 Calls pP 152 #[.string b8, .int .u8 109] b9 fun e c0 => ∃ c7, e = .returned (.bool c7) ∧ yaD [bm0] b9 c0 ∧
 brB (!c7) (
 brB (!(a1.toList == (⟨#[]⟩ : BA).toList)) (
 yaR yc1 ((ya8 394 [1, 0, 1, 1, 1, 1, 1]) (ya9 [1, 1, 1, 1, 1, 0] [] R)) (yeN (b8, true, bm0, b1, b0, b2, b3, b4, b5, b6, b7, a7, a9, a8, a6, a1, a0, a5, a2, a4, a3)) c0)
 (
 Calls pP 152 #[.string b8, .int .u8 101] c0 fun e c2 => ∃ c8, e = .returned (.bool c8) ∧ yaD [bm0] c0 c2 ∧
 brB (!c8) (
 yaR yc1 ((ya8 394 [1, 0, 1, 1, 1, 1, 1]) (ya9 [1, 1, 1, 1, 1, 0] [] R)) (yeN (b8, (a0 != 0), bm0, b1, b0, b2, b3, b4, b5, b6, b7, a7, a9, a8, a6, a1, a0, a5, a2, a4, a3)) c2)
 (
 yaR yc1 ((ya8 394 [1, 0, 1, 1, 1, 1, 1]) (ya9 [1, 1, 1, 1, 1, 0] [] R)) (yeN (b8, false, bm0, b1, b0, b2, b3, b4, b5, b6, b7, a7, a9, a8, a6, a1, a0, a5, a2, a4, a3)) c2)))
 (
 Calls pP 152 #[.string b8, .int .u8 101] c0 fun e c3 => ∃ c9, e = .returned (.bool c9) ∧ yaD [bm0] c0 c3 ∧
 brB (!c9) (
 yaR yc1 ((ya8 394 [1, 0, 1, 1, 1, 1, 1]) (ya9 [1, 1, 1, 1, 1, 0] [] R)) (yeN (b8, (a0 != 0), bm0, b1, b0, b2, b3, b4, b5, b6, b7, a7, a9, a8, a6, a1, a0, a5, a2, a4, a3)) c3)
 (
 yaR yc1 ((ya8 394 [1, 0, 1, 1, 1, 1, 1]) (ya9 [1, 1, 1, 1, 1, 0] [] R)) (yeN (b8, false, bm0, b1, b0, b2, b3, b4, b5, b6, b7, a7, a9, a8, a6, a1, a0, a5, a2, a4, a3)) c3))))
 (
 Calls pP 152 #[.string b8, .int .u8 109] b9 fun e c1 => ∃ d0, e = .returned (.bool d0) ∧ yaD [bm0] b9 c1 ∧
 brB (!d0) (
 brB (!(a1.toList == (⟨#[]⟩ : BA).toList)) (
 yaR yc1 ((ya8 394 [1, 0, 1, 1, 1, 1, 1]) (ya9 [1, 1, 1, 1, 1, 0] [] R)) (yeN (b8, true, bm0, b1, b0, b2, b3, b4, b5, b6, b7, a7, a9, a8, a6, a1, a0, a5, a2, a4, a3)) c1)
 (
 Calls pP 152 #[.string b8, .int .u8 101] c1 fun e c4 => ∃ d1, e = .returned (.bool d1) ∧ yaD [bm0] c1 c4 ∧
 brB (!d1) (
 yaR yc1 ((ya8 394 [1, 0, 1, 1, 1, 1, 1]) (ya9 [1, 1, 1, 1, 1, 0] [] R)) (yeN (b8, (a0 != 0), bm0, b1, b0, b2, b3, b4, b5, b6, b7, a7, a9, a8, a6, a1, a0, a5, a2, a4, a3)) c4)
 (
 yaR yc1 ((ya8 394 [1, 0, 1, 1, 1, 1, 1]) (ya9 [1, 1, 1, 1, 1, 0] [] R)) (yeN (b8, false, bm0, b1, b0, b2, b3, b4, b5, b6, b7, a7, a9, a8, a6, a1, a0, a5, a2, a4, a3)) c4)))
 (
 Calls pP 152 #[.string b8, .int .u8 101] c1 fun e c5 => ∃ d2, e = .returned (.bool d2) ∧ yaD [bm0] c1 c5 ∧
 brB (!d2) (
 yaR yc1 ((ya8 394 [1, 0, 1, 1, 1, 1, 1]) (ya9 [1, 1, 1, 1, 1, 0] [] R)) (yeN (b8, (a0 != 0), bm0, b1, b0, b2, b3, b4, b5, b6, b7, a7, a9, a8, a6, a1, a0, a5, a2, a4, a3)) c5)
 (
 yaR yc1 ((ya8 394 [1, 0, 1, 1, 1, 1, 1]) (ya9 [1, 1, 1, 1, 1, 0] [] R)) (yeN (b8, false, bm0, b1, b0, b2, b3, b4, b5, b6, b7, a7, a9, a8, a6, a1, a0, a5, a2, a4, a3)) c5)))
theorem yD8 (J : ByteArray → Nat → Int → ByteArray → Int → Int → Int → Int → Int → Int → Option Addr → Nat → Nat → ByteArray → ByteArray → Int → Bool → Option Addr → Nat → Nat → World → Prop) (h0 : J s0 n0 i0 s1 i1 i2 i3 i4 i5 i6 q0 n1 n2 s2 s3 i7 B0 q1 n3 n4 w0)
 (hr : ∀ d5 bm0 b1 a9 b2 b3 b4 b5 b6 b7 a6 a8 a7 b0 s1 a5 a4 a1 a3 a2 w, J d5 bm0 b1 a9 b2 b3 b4 b5 b6 b7 a6 a8 a7 b0 s1 a5 a4 a1 a3 a2 w → yvQ d5 bm0 b1 a9 b2 b3 b4 b5 b6 b7 a6 a8 a7 b0 s1 a5 a4 a1 a3 a2 R w) :
 yaR yoD ((ya8 395 [1, 1, 1, 1, 1]) (ya9 [1, 1, 1, 1] [] R)) (yvN (s0, n0, i0, s1, i1, i2, i3, i4, i5, i6, q0, n1, n2, s2, s3, i7, B0, q1, n3, n4)) w0 :=
 crule (yvN) (V20 J) h0 (by rintro ⟨d5, bm0, b1, a9, b2, b3, b4, b5, b6, b7, a6, a8, a7, b0, s1, a5, a4, a1, a3, a2⟩ w h; exact ⟨by kernel_rfl, by kernel_rfl, fun js => Eq.mpr (by kernel_rfl) (hr d5 bm0 b1 a9 b2 b3 b4 b5 b6 b7 a6 a8 a7 b0 s1 a5 a4 a1 a3 a2 w h)⟩)
theorem yGY (h : yvQ s0 n0 i0 s1 i1 i2 i3 i4 i5 i6 q0 n1 n2 s2 s3 i7 B0 q1 n3 n4 R w) :
 yaR yoD ((ya8 395 [1, 1, 1, 1, 1]) (ya9 [1, 1, 1, 1] [] R)) (yvN (s0, n0, i0, s1, i1, i2, i3, i4, i5, i6, q0, n1, n2, s2, s3, i7, B0, q1, n3, n4)) w :=
 yD8 (fun d7 bm0' c9 c7 d0 d1 d2 d3 d4 d5 c4 c6 c5 c8 b3 b7 b5 a6 b0 a8 w' => d7 = s0 ∧ bm0' = n0 ∧ c9 = i0 ∧ c7 = s1 ∧ d0 = i1 ∧ d1 = i2 ∧ d2 = i3 ∧ d3 = i4 ∧ d4 = i5 ∧ d5 = i6 ∧ c4 = q0 ∧ c6 = n1 ∧ c5 = n2 ∧ c8 = s2 ∧ b3 = s3 ∧ b7 = i7 ∧ b5 = B0 ∧ a6 = q1 ∧ b0 = n3 ∧ a8 = n4 ∧ w' = w) ⟨rfl, rfl, rfl, rfl, rfl, rfl, rfl, rfl, rfl, rfl, rfl, rfl, rfl, rfl, rfl, rfl, rfl, rfl, rfl, rfl, rfl⟩ (by rintro d7 bm0' c9 c7 d0 d1 d2 d3 d4 d5 c4 c6 c5 c8 b3 b7 b5 a6 b0 a8 w' ⟨rfl, rfl, rfl, rfl, rfl, rfl, rfl, rfl, rfl, rfl, rfl, rfl, rfl, rfl, rfl, rfl, rfl, rfl, rfl, rfl, rfl⟩; exact h)
def yBo (b9 : BA) (b8 : Bool) (bm0 : Nat) (b1 : Int) (a9 : BA) (b2 b3 b4 b5 b6 b7 : Int) (a6 : OA) (a8 a7 : Nat) (b0 a3 : BA) (a5 : Int) (a4 : Bool) (a0 : OA) (a2 a1 : Nat) (R : VWP) (w : World) : Prop :=
 brB b8 (
 R (.bool false) w)
 (
 yaR yoE ((ya8 394 [1, 1, 1, 1, 1, 1]) (ya9 [1, 1, 1, 1, 1] [] R)) (yvO (b9, bm0, b1, a9, b2, b3, b4, b5, b6, b7, a6, a8, a7, b0, a3, a5, a4, a0, a2, a1)) w)
theorem yD9 (J : ByteArray → Bool → Nat → Int → ByteArray → Int → Int → Int → Int → Int → Int → Option Addr → Nat → Nat → ByteArray → ByteArray → Int → Bool → Option Addr → Nat → Nat → World → Prop) (h0 : J s0 B0 n0 i0 s1 i1 i2 i3 i4 i5 i6 q0 n1 n2 s2 s3 i7 B1 q1 n3 n4 w0)
 (hr : ∀ d7 b8 bm0 b1 a9 b2 b3 b4 b5 b6 b7 a6 a8 a7 b0 s1 a5 a4 a1 a3 a2 w, J d7 b8 bm0 b1 a9 b2 b3 b4 b5 b6 b7 a6 a8 a7 b0 s1 a5 a4 a1 a3 a2 w → yBo d7 b8 bm0 b1 a9 b2 b3 b4 b5 b6 b7 a6 a8 a7 b0 s1 a5 a4 a1 a3 a2 R w) :
 yaR yc1 ((ya8 394 [1, 0, 1, 1, 1, 1, 1]) (ya9 [1, 1, 1, 1, 1, 0] [] R)) (yeN (s0, B0, n0, i0, s1, i1, i2, i3, i4, i5, i6, q0, n1, n2, s2, s3, i7, B1, q1, n3, n4)) w0 :=
 crule (yeN) (V21 J) h0 (by rintro ⟨d7, b8, bm0, b1, a9, b2, b3, b4, b5, b6, b7, a6, a8, a7, b0, s1, a5, a4, a1, a3, a2⟩ w h; exact ⟨by kernel_rfl, by kernel_rfl, fun js => Eq.mpr (by kernel_rfl) (hr d7 b8 bm0 b1 a9 b2 b3 b4 b5 b6 b7 a6 a8 a7 b0 s1 a5 a4 a1 a3 a2 w h)⟩)
theorem yGZ (h : yBo s0 B0 n0 i0 s1 i1 i2 i3 i4 i5 i6 q0 n1 n2 s2 s3 i7 B1 q1 n3 n4 R w) :
 yaR yc1 ((ya8 394 [1, 0, 1, 1, 1, 1, 1]) (ya9 [1, 1, 1, 1, 1, 0] [] R)) (yeN (s0, B0, n0, i0, s1, i1, i2, i3, i4, i5, i6, q0, n1, n2, s2, s3, i7, B1, q1, n3, n4)) w :=
 yD9 (fun d9 d7 bm0' c9 c7 d0 d1 d2 d3 d4 d5 c4 c6 c5 c8 b3 b7 b5 a6 b0 a8 w' => d9 = s0 ∧ d7 = B0 ∧ bm0' = n0 ∧ c9 = i0 ∧ c7 = s1 ∧ d0 = i1 ∧ d1 = i2 ∧ d2 = i3 ∧ d3 = i4 ∧ d4 = i5 ∧ d5 = i6 ∧ c4 = q0 ∧ c6 = n1 ∧ c5 = n2 ∧ c8 = s2 ∧ b3 = s3 ∧ b7 = i7 ∧ b5 = B1 ∧ a6 = q1 ∧ b0 = n3 ∧ a8 = n4 ∧ w' = w) ⟨rfl, rfl, rfl, rfl, rfl, rfl, rfl, rfl, rfl, rfl, rfl, rfl, rfl, rfl, rfl, rfl, rfl, rfl, rfl, rfl, rfl, rfl⟩ (by rintro d9 d7 bm0' c9 c7 d0 d1 d2 d3 d4 d5 c4 c6 c5 c8 b3 b7 b5 a6 b0 a8 w' ⟨rfl, rfl, rfl, rfl, rfl, rfl, rfl, rfl, rfl, rfl, rfl, rfl, rfl, rfl, rfl, rfl, rfl, rfl, rfl, rfl, rfl, rfl⟩; exact h)
def yBp (b1 : BA) (bm0 : Nat) (b4 : Int) (b2 : BA) (b5 b6 b7 b8 b9 c0 : Int) (a8 : OA) (b0 a9 : Nat) (b3 a6 : BA) (a7 : Int) (a2 : Bool) (a4 : OA) (a1 a5 : Nat) (R : VWP) (w : World) : Prop :=
 Calls pP 152 #[.string b1, .int .u8 114] w fun e a0 => ∃ a3, e = .returned (.bool a3) ∧ yaD [bm0] w a0 ∧
 brB a3 (
 R (.bool true) a0)
 (
 brB (!a2) (
 R (.bool ((a1 : Int) == 0)) a0)
 (
 R (.bool false) a0))
theorem yEa (J : ByteArray → Nat → Int → ByteArray → Int → Int → Int → Int → Int → Int → Option Addr → Nat → Nat → ByteArray → ByteArray → Int → Bool → Option Addr → Nat → Nat → World → Prop) (h0 : J s0 n0 i0 s1 i1 i2 i3 i4 i5 i6 q0 n1 n2 s2 s3 i7 B0 q1 n3 n4 w0)
 (hr : ∀ d5 bm0 b1 a9 b2 b3 b4 b5 b6 b7 a6 a8 a7 b0 s1 a5 a4 a1 a3 a2 w, J d5 bm0 b1 a9 b2 b3 b4 b5 b6 b7 a6 a8 a7 b0 s1 a5 a4 a1 a3 a2 w → yBp d5 bm0 b1 a9 b2 b3 b4 b5 b6 b7 a6 a8 a7 b0 s1 a5 a4 a1 a3 a2 R w) :
 yaR yoE ((ya8 394 [1, 1, 1, 1, 1, 1]) (ya9 [1, 1, 1, 1, 1] [] R)) (yvO (s0, n0, i0, s1, i1, i2, i3, i4, i5, i6, q0, n1, n2, s2, s3, i7, B0, q1, n3, n4)) w0 :=
 crule (yvO) (V20 J) h0 (by rintro ⟨d5, bm0, b1, a9, b2, b3, b4, b5, b6, b7, a6, a8, a7, b0, s1, a5, a4, a1, a3, a2⟩ w h; exact ⟨by kernel_rfl, by kernel_rfl, fun js => Eq.mpr (by kernel_rfl) (hr d5 bm0 b1 a9 b2 b3 b4 b5 b6 b7 a6 a8 a7 b0 s1 a5 a4 a1 a3 a2 w h)⟩)
theorem yG0 (h : yBp s0 n0 i0 s1 i1 i2 i3 i4 i5 i6 q0 n1 n2 s2 s3 i7 B0 q1 n3 n4 R w) :
 yaR yoE ((ya8 394 [1, 1, 1, 1, 1, 1]) (ya9 [1, 1, 1, 1, 1] [] R)) (yvO (s0, n0, i0, s1, i1, i2, i3, i4, i5, i6, q0, n1, n2, s2, s3, i7, B0, q1, n3, n4)) w :=
 yEa (fun d7 bm0' c9 c7 d0 d1 d2 d3 d4 d5 c4 c6 c5 c8 b3 b7 b5 a6 b0 a8 w' => d7 = s0 ∧ bm0' = n0 ∧ c9 = i0 ∧ c7 = s1 ∧ d0 = i1 ∧ d1 = i2 ∧ d2 = i3 ∧ d3 = i4 ∧ d4 = i5 ∧ d5 = i6 ∧ c4 = q0 ∧ c6 = n1 ∧ c5 = n2 ∧ c8 = s2 ∧ b3 = s3 ∧ b7 = i7 ∧ b5 = B0 ∧ a6 = q1 ∧ b0 = n3 ∧ a8 = n4 ∧ w' = w) ⟨rfl, rfl, rfl, rfl, rfl, rfl, rfl, rfl, rfl, rfl, rfl, rfl, rfl, rfl, rfl, rfl, rfl, rfl, rfl, rfl, rfl⟩ (by rintro d7 bm0' c9 c7 d0 d1 d2 d3 d4 d5 c4 c6 c5 c8 b3 b7 b5 a6 b0 a8 w' ⟨rfl, rfl, rfl, rfl, rfl, rfl, rfl, rfl, rfl, rfl, rfl, rfl, rfl, rfl, rfl, rfl, rfl, rfl, rfl, rfl, rfl⟩; exact h)
theorem yJ1 {b4 : BA} {b8 a7 : BA} (h :
 ∀ b1, w.heap.size ≤ b1 →
 ∀ w2, Adv [] [b1] w w2 →
 Calls pP 131 #[.int .i64 i0] w2 fun e w3 => ∃ s4, e = .returned (.string s4) ∧ yaD [b1] w2 w3 ∧
 Calls pP 152 #[.string s4, .int .u8 112] w3 fun e w5 => ∃ t6, e = .returned (.bool t6) ∧ yaD [b1] w3 w5 ∧
 Calls pP 152 #[.string s4, .int .u8 116] w5 fun e w7 => ∃ t8, e = .returned (.bool t8) ∧ yaD [b1] w5 w7 ∧
 brB (!t6) (
 brB (!t8) (
 brB (!(b4.toList == (⟨#[]⟩ : BA).toList)) (
 yaR ya3 ((ya8 396 [1, 0, 1, 1, 1]) (ya9 [1, 1, 1, 0] [] R)) (ybC (s4, true, b1, i0, b4, i1, i2, i3, i4, i5, i6, q0, n0, n1, b8, a7, i7, B0, q1, n2, n3)) w7)
 (
 brB (!t6) (
 brB (i1 != 0) (
 yaR ya3 ((ya8 396 [1, 0, 1, 1, 1]) (ya9 [1, 1, 1, 0] [] R)) (ybC (s4, true, b1, i0, b4, i1, i2, i3, i4, i5, i6, q0, n0, n1, b8, a7, i7, B0, q1, n2, n3)) w7)
 (
 Calls pP 152 #[.string s4, .int .u8 110] w7 fun e b9 => ∃ d7, e = .returned (.bool d7) ∧ yaD [b1] w7 b9 ∧
 brB (!d7) (
 brB (i2 != 0) (
 yaR ya3 ((ya8 396 [1, 0, 1, 1, 1]) (ya9 [1, 1, 1, 0] [] R)) (ybC (s4, true, b1, i0, b4, i1, i2, i3, i4, i5, i6, q0, n0, n1, b8, a7, i7, B0, q1, n2, n3)) b9)
 (
 Calls pP 152 #[.string s4, .int .u8 111] b9 fun e c5 => ∃ d8, e = .returned (.bool d8) ∧ yaD [b1] b9 c5 ∧
 brB (!d8) (
 yaR ya3 ((ya8 396 [1, 0, 1, 1, 1]) (ya9 [1, 1, 1, 0] [] R)) (ybC (s4, (i3 != 0), b1, i0, b4, i1, i2, i3, i4, i5, i6, q0, n0, n1, b8, a7, i7, B0, q1, n2, n3)) c5)
 (
 yaR ya3 ((ya8 396 [1, 0, 1, 1, 1]) (ya9 [1, 1, 1, 0] [] R)) (ybC (s4, false, b1, i0, b4, i1, i2, i3, i4, i5, i6, q0, n0, n1, b8, a7, i7, B0, q1, n2, n3)) c5)))
 (
 Calls pP 152 #[.string s4, .int .u8 111] b9 fun e c6 => ∃ d9, e = .returned (.bool d9) ∧ yaD [b1] b9 c6 ∧
 brB (!d9) (
 yaR ya3 ((ya8 396 [1, 0, 1, 1, 1]) (ya9 [1, 1, 1, 0] [] R)) (ybC (s4, (i3 != 0), b1, i0, b4, i1, i2, i3, i4, i5, i6, q0, n0, n1, b8, a7, i7, B0, q1, n2, n3)) c6)
 (
 yaR ya3 ((ya8 396 [1, 0, 1, 1, 1]) (ya9 [1, 1, 1, 0] [] R)) (ybC (s4, false, b1, i0, b4, i1, i2, i3, i4, i5, i6, q0, n0, n1, b8, a7, i7, B0, q1, n2, n3)) c6))))
 (
 Calls pP 152 #[.string s4, .int .u8 110] w7 fun e c0 => ∃ e0, e = .returned (.bool e0) ∧ yaD [b1] w7 c0 ∧
 brB (!e0) (
 brB (i2 != 0) (
 yaR ya3 ((ya8 396 [1, 0, 1, 1, 1]) (ya9 [1, 1, 1, 0] [] R)) (ybC (s4, true, b1, i0, b4, i1, i2, i3, i4, i5, i6, q0, n0, n1, b8, a7, i7, B0, q1, n2, n3)) c0)
 (
 Calls pP 152 #[.string s4, .int .u8 111] c0 fun e c7 => ∃ e1, e = .returned (.bool e1) ∧ yaD [b1] c0 c7 ∧
 brB (!e1) (
 yaR ya3 ((ya8 396 [1, 0, 1, 1, 1]) (ya9 [1, 1, 1, 0] [] R)) (ybC (s4, (i3 != 0), b1, i0, b4, i1, i2, i3, i4, i5, i6, q0, n0, n1, b8, a7, i7, B0, q1, n2, n3)) c7)
 (
 yaR ya3 ((ya8 396 [1, 0, 1, 1, 1]) (ya9 [1, 1, 1, 0] [] R)) (ybC (s4, false, b1, i0, b4, i1, i2, i3, i4, i5, i6, q0, n0, n1, b8, a7, i7, B0, q1, n2, n3)) c7)))
 (
 Calls pP 152 #[.string s4, .int .u8 111] c0 fun e c8 => ∃ e2, e = .returned (.bool e2) ∧ yaD [b1] c0 c8 ∧
 brB (!e2) (
 yaR ya3 ((ya8 396 [1, 0, 1, 1, 1]) (ya9 [1, 1, 1, 0] [] R)) (ybC (s4, (i3 != 0), b1, i0, b4, i1, i2, i3, i4, i5, i6, q0, n0, n1, b8, a7, i7, B0, q1, n2, n3)) c8)
 (
 yaR ya3 ((ya8 396 [1, 0, 1, 1, 1]) (ya9 [1, 1, 1, 0] [] R)) (ybC (s4, false, b1, i0, b4, i1, i2, i3, i4, i5, i6, q0, n0, n1, b8, a7, i7, B0, q1, n2, n3)) c8)))))
 (
 brB (!t6) (
 brB (i1 != 0) (
 yaR ya3 ((ya8 396 [1, 0, 1, 1, 1]) (ya9 [1, 1, 1, 0] [] R)) (ybC (s4, true, b1, i0, b4, i1, i2, i3, i4, i5, i6, q0, n0, n1, b8, a7, i7, B0, q1, n2, n3)) w7)
 (
 Calls pP 152 #[.string s4, .int .u8 110] w7 fun e c1 => ∃ e3, e = .returned (.bool e3) ∧ yaD [b1] w7 c1 ∧
 brB (!e3) (
 brB (i2 != 0) (
 yaR ya3 ((ya8 396 [1, 0, 1, 1, 1]) (ya9 [1, 1, 1, 0] [] R)) (ybC (s4, true, b1, i0, b4, i1, i2, i3, i4, i5, i6, q0, n0, n1, b8, a7, i7, B0, q1, n2, n3)) c1)
 (
 Calls pP 152 #[.string s4, .int .u8 111] c1 fun e c9 => ∃ e4, e = .returned (.bool e4) ∧ yaD [b1] c1 c9 ∧
 brB (!e4) (
 yaR ya3 ((ya8 396 [1, 0, 1, 1, 1]) (ya9 [1, 1, 1, 0] [] R)) (ybC (s4, (i3 != 0), b1, i0, b4, i1, i2, i3, i4, i5, i6, q0, n0, n1, b8, a7, i7, B0, q1, n2, n3)) c9)
 (
 yaR ya3 ((ya8 396 [1, 0, 1, 1, 1]) (ya9 [1, 1, 1, 0] [] R)) (ybC (s4, false, b1, i0, b4, i1, i2, i3, i4, i5, i6, q0, n0, n1, b8, a7, i7, B0, q1, n2, n3)) c9)))
 (
 Calls pP 152 #[.string s4, .int .u8 111] c1 fun e d0 => ∃ e5, e = .returned (.bool e5) ∧ yaD [b1] c1 d0 ∧
 brB (!e5) (
 yaR ya3 ((ya8 396 [1, 0, 1, 1, 1]) (ya9 [1, 1, 1, 0] [] R)) (ybC (s4, (i3 != 0), b1, i0, b4, i1, i2, i3, i4, i5, i6, q0, n0, n1, b8, a7, i7, B0, q1, n2, n3)) d0)
 (
 yaR ya3 ((ya8 396 [1, 0, 1, 1, 1]) (ya9 [1, 1, 1, 0] [] R)) (ybC (s4, false, b1, i0, b4, i1, i2, i3, i4, i5, i6, q0, n0, n1, b8, a7, i7, B0, q1, n2, n3)) d0))))
 (
 Calls pP 152 #[.string s4, .int .u8 110] w7 fun e c2 => ∃ e6, e = .returned (.bool e6) ∧ yaD [b1] w7 c2 ∧
 brB (!e6) (
 brB (i2 != 0) (
 yaR ya3 ((ya8 396 [1, 0, 1, 1, 1]) (ya9 [1, 1, 1, 0] [] R)) (ybC (s4, true, b1, i0, b4, i1, i2, i3, i4, i5, i6, q0, n0, n1, b8, a7, i7, B0, q1, n2, n3)) c2)
 (
 Calls pP 152 #[.string s4, .int .u8 111] c2 fun e d1 => ∃ e7, e = .returned (.bool e7) ∧ yaD [b1] c2 d1 ∧
 brB (!e7) (
 yaR ya3 ((ya8 396 [1, 0, 1, 1, 1]) (ya9 [1, 1, 1, 0] [] R)) (ybC (s4, (i3 != 0), b1, i0, b4, i1, i2, i3, i4, i5, i6, q0, n0, n1, b8, a7, i7, B0, q1, n2, n3)) d1)
 (
 yaR ya3 ((ya8 396 [1, 0, 1, 1, 1]) (ya9 [1, 1, 1, 0] [] R)) (ybC (s4, false, b1, i0, b4, i1, i2, i3, i4, i5, i6, q0, n0, n1, b8, a7, i7, B0, q1, n2, n3)) d1)))
 (
 Calls pP 152 #[.string s4, .int .u8 111] c2 fun e d2 => ∃ e8, e = .returned (.bool e8) ∧ yaD [b1] c2 d2 ∧
 brB (!e8) (
 yaR ya3 ((ya8 396 [1, 0, 1, 1, 1]) (ya9 [1, 1, 1, 0] [] R)) (ybC (s4, (i3 != 0), b1, i0, b4, i1, i2, i3, i4, i5, i6, q0, n0, n1, b8, a7, i7, B0, q1, n2, n3)) d2)
 (
 yaR ya3 ((ya8 396 [1, 0, 1, 1, 1]) (ya9 [1, 1, 1, 0] [] R)) (ybC (s4, false, b1, i0, b4, i1, i2, i3, i4, i5, i6, q0, n0, n1, b8, a7, i7, B0, q1, n2, n3)) d2)))))
 (
 brB (!t6) (
 brB (i1 != 0) (
 yaR ya3 ((ya8 396 [1, 0, 1, 1, 1]) (ya9 [1, 1, 1, 0] [] R)) (ybC (s4, true, b1, i0, b4, i1, i2, i3, i4, i5, i6, q0, n0, n1, b8, a7, i7, B0, q1, n2, n3)) w7)
 (
 Calls pP 152 #[.string s4, .int .u8 110] w7 fun e c3 => ∃ e9, e = .returned (.bool e9) ∧ yaD [b1] w7 c3 ∧
 brB (!e9) (
 brB (i2 != 0) (
 yaR ya3 ((ya8 396 [1, 0, 1, 1, 1]) (ya9 [1, 1, 1, 0] [] R)) (ybC (s4, true, b1, i0, b4, i1, i2, i3, i4, i5, i6, q0, n0, n1, b8, a7, i7, B0, q1, n2, n3)) c3)
 (
 Calls pP 152 #[.string s4, .int .u8 111] c3 fun e d3 => ∃ f0, e = .returned (.bool f0) ∧ yaD [b1] c3 d3 ∧
 brB (!f0) (
 yaR ya3 ((ya8 396 [1, 0, 1, 1, 1]) (ya9 [1, 1, 1, 0] [] R)) (ybC (s4, (i3 != 0), b1, i0, b4, i1, i2, i3, i4, i5, i6, q0, n0, n1, b8, a7, i7, B0, q1, n2, n3)) d3)
 (
 yaR ya3 ((ya8 396 [1, 0, 1, 1, 1]) (ya9 [1, 1, 1, 0] [] R)) (ybC (s4, false, b1, i0, b4, i1, i2, i3, i4, i5, i6, q0, n0, n1, b8, a7, i7, B0, q1, n2, n3)) d3)))
 (
 Calls pP 152 #[.string s4, .int .u8 111] c3 fun e d4 => ∃ f1, e = .returned (.bool f1) ∧ yaD [b1] c3 d4 ∧
 brB (!f1) (
 yaR ya3 ((ya8 396 [1, 0, 1, 1, 1]) (ya9 [1, 1, 1, 0] [] R)) (ybC (s4, (i3 != 0), b1, i0, b4, i1, i2, i3, i4, i5, i6, q0, n0, n1, b8, a7, i7, B0, q1, n2, n3)) d4)
 (
 yaR ya3 ((ya8 396 [1, 0, 1, 1, 1]) (ya9 [1, 1, 1, 0] [] R)) (ybC (s4, false, b1, i0, b4, i1, i2, i3, i4, i5, i6, q0, n0, n1, b8, a7, i7, B0, q1, n2, n3)) d4))))
 (
 Calls pP 152 #[.string s4, .int .u8 110] w7 fun e c4 => ∃ f2, e = .returned (.bool f2) ∧ yaD [b1] w7 c4 ∧
 brB (!f2) (
 brB (i2 != 0) (
 yaR ya3 ((ya8 396 [1, 0, 1, 1, 1]) (ya9 [1, 1, 1, 0] [] R)) (ybC (s4, true, b1, i0, b4, i1, i2, i3, i4, i5, i6, q0, n0, n1, b8, a7, i7, B0, q1, n2, n3)) c4)
 (
 Calls pP 152 #[.string s4, .int .u8 111] c4 fun e d5 => ∃ f3, e = .returned (.bool f3) ∧ yaD [b1] c4 d5 ∧
 brB (!f3) (
 yaR ya3 ((ya8 396 [1, 0, 1, 1, 1]) (ya9 [1, 1, 1, 0] [] R)) (ybC (s4, (i3 != 0), b1, i0, b4, i1, i2, i3, i4, i5, i6, q0, n0, n1, b8, a7, i7, B0, q1, n2, n3)) d5)
 (
 yaR ya3 ((ya8 396 [1, 0, 1, 1, 1]) (ya9 [1, 1, 1, 0] [] R)) (ybC (s4, false, b1, i0, b4, i1, i2, i3, i4, i5, i6, q0, n0, n1, b8, a7, i7, B0, q1, n2, n3)) d5)))
 (
 Calls pP 152 #[.string s4, .int .u8 111] c4 fun e d6 => ∃ f4, e = .returned (.bool f4) ∧ yaD [b1] c4 d6 ∧
 brB (!f4) (
 yaR ya3 ((ya8 396 [1, 0, 1, 1, 1]) (ya9 [1, 1, 1, 0] [] R)) (ybC (s4, (i3 != 0), b1, i0, b4, i1, i2, i3, i4, i5, i6, q0, n0, n1, b8, a7, i7, B0, q1, n2, n3)) d6)
 (
 yaR ya3 ((ya8 396 [1, 0, 1, 1, 1]) (ya9 [1, 1, 1, 0] [] R)) (ybC (s4, false, b1, i0, b4, i1, i2, i3, i4, i5, i6, q0, n0, n1, b8, a7, i7, B0, q1, n2, n3)) d6))))) :
 CR pP 151 #[(.agg (Z1 i0 b4 i1 i2 i3 i4 i5 i6 q0 n0 n1 b8 a7 i7 B0 q1 n2 n3))] w R :=
 yaA Tryz.wide_mixed (an := yvL) Tryz.func151 rfl rfl (by kernel_rfl) rfl (Eq.mpr (by kernel_rfl) h)
def ybE : LA := ⟨[1, 1, 1, 1], [1], [(1, 0, 0)], 1, []⟩
def yvR : List LA := [ybE]
abbrev ydL := dnF pP yvR (code Tryz.f130)
abbrev yNA := yaO pP yvR (code Tryz.f130)
abbrev ydM (p : List Nat) (K : List Kh) (R : VWP) := yaO pP yvR (code Tryz.f130) p K (ya7 pP Tryz.f130 [] R)
def yb1 : Nat × Int × ByteArray × Int × Int × Int × Int × Int × Int × (Option Addr) × Nat × Nat × ByteArray × ByteArray × Int × Bool × (Option Addr) × Nat × Nat → List Value × List TB := fun (bm0, b1, a9, b2, b3, b4, b5, b6, b7, a6, a8, a7, b0, a3, a5, a4, a0, a2, a1) => ([(.pointer (some ⟨bm0, 0, none⟩))], [⟨bm0, 48, [.int .i64 b1, .string a9, .int .i64 b2, .int .i64 b3, .int .i64 b4, .int .i64 b5, .int .i64 b6, .int .i64 b7, .slice a6 a8 a7, .string b0, .string a3, .int .i64 a5, .bool a4, .slice a0 a2 a1], false⟩])
def yBq (bm0 : Nat) (a8 : Int) (c6 : BA) (a9 b0 b1 b2 b3 b4 : Int) (a5 : OA) (a7 a6 : Nat) (c7 c4 : BA) (a4 : Int) (c5 : Bool) (c1 : OA) (c3 c2 : Nat) (R : VWP) (w : World) : Prop :=
 Calls pP 91 #[.int .i64 a9] w fun e a1 => ∃ b5, e = .returned (.bool b5) ∧ yaD [bm0] w a1 ∧
 brB (!b5) (
 R (.int .i64 1) a1)
 (
 Calls pP 91 #[.int .i64 b0] a1 fun e a2 => ∃ b6, e = .returned (.bool b6) ∧ yaD [bm0] a1 a2 ∧
 brB (!b6) (
 R (.int .i64 1) a2)
 (
 Calls pP 91 #[.int .i64 b1] a2 fun e a3 => ∃ b7, e = .returned (.bool b7) ∧ yaD [bm0] a2 a3 ∧
 brB (!b7) (
 R (.int .i64 1) a3)
 (
 Calls pP 91 #[.int .i64 a4] a3 fun e a0 => ∃ b8, e = .returned (.bool b8) ∧ yaD [bm0] a3 a0 ∧
 brB (!b8) (
 R (.int .i64 1) a0)
 (
 brB (a8 == 2) (
 Calls pP 154 #[(.agg (Z8 b2 b3 b4 a5 a7 a6))] a0 fun e b9 => ∃ c0, e = .returned (.int .i64 c0) ∧ yaD [bm0] a0 b9 ∧
 R (.int .i64 c0) b9)
 (
 R (.int .i64 0) a0)))))
theorem yEb (J : Nat → Int → ByteArray → Int → Int → Int → Int → Int → Int → Option Addr → Nat → Nat → ByteArray → ByteArray → Int → Bool → Option Addr → Nat → Nat → World → Prop) (h0 : J n0 i0 s0 i1 i2 i3 i4 i5 i6 q0 n1 n2 s1 s2 i7 B0 q1 n3 n4 w0)
 (hr : ∀ bm0 b1 a9 b2 b3 b4 b5 b6 b7 a6 a8 a7 b0 s0 a5 a4 a1 a3 a2 w, J bm0 b1 a9 b2 b3 b4 b5 b6 b7 a6 a8 a7 b0 s0 a5 a4 a1 a3 a2 w → yBq bm0 b1 a9 b2 b3 b4 b5 b6 b7 a6 a8 a7 b0 s0 a5 a4 a1 a3 a2 R w) :
 yaR ybE ((ydL 396 [1, 1, 1, 1]) (ydM [1, 1, 1] [] R)) (yb1 (n0, i0, s0, i1, i2, i3, i4, i5, i6, q0, n1, n2, s1, s2, i7, B0, q1, n3, n4)) w0 :=
 crule (yb1) (V19 J) h0 (by rintro ⟨bm0, b1, a9, b2, b3, b4, b5, b6, b7, a6, a8, a7, b0, s0, a5, a4, a1, a3, a2⟩ w h; exact ⟨by kernel_rfl, by kernel_rfl, fun js => Eq.mpr (by kernel_rfl) (hr bm0 b1 a9 b2 b3 b4 b5 b6 b7 a6 a8 a7 b0 s0 a5 a4 a1 a3 a2 w h)⟩)
theorem yBr (h : yBq n0 i0 s0 i1 i2 i3 i4 i5 i6 q0 n1 n2 s1 s2 i7 B0 q1 n3 n4 R w) :
 yaR ybE ((ydL 396 [1, 1, 1, 1]) (ydM [1, 1, 1] [] R)) (yb1 (n0, i0, s0, i1, i2, i3, i4, i5, i6, q0, n1, n2, s1, s2, i7, B0, q1, n3, n4)) w :=
 yEb (fun bm0' c9 c7 d0 d1 d2 d3 d4 d5 c4 c6 c5 c8 b3 b7 b5 a6 b0 a8 w' => bm0' = n0 ∧ c9 = i0 ∧ c7 = s0 ∧ d0 = i1 ∧ d1 = i2 ∧ d2 = i3 ∧ d3 = i4 ∧ d4 = i5 ∧ d5 = i6 ∧ c4 = q0 ∧ c6 = n1 ∧ c5 = n2 ∧ c8 = s1 ∧ b3 = s2 ∧ b7 = i7 ∧ b5 = B0 ∧ a6 = q1 ∧ b0 = n3 ∧ a8 = n4 ∧ w' = w) ⟨rfl, rfl, rfl, rfl, rfl, rfl, rfl, rfl, rfl, rfl, rfl, rfl, rfl, rfl, rfl, rfl, rfl, rfl, rfl, rfl⟩ (by rintro bm0' c9 c7 d0 d1 d2 d3 d4 d5 c4 c6 c5 c8 b3 b7 b5 a6 b0 a8 w' ⟨rfl, rfl, rfl, rfl, rfl, rfl, rfl, rfl, rfl, rfl, rfl, rfl, rfl, rfl, rfl, rfl, rfl, rfl, rfl, rfl⟩; exact h)
theorem yJ2 {b2 : BA} {b0 a3 : BA} (h :
 ∀ b1, w.heap.size ≤ b1 →
 brB (decide (i0 < 0)) (
 ∀ w2, Adv [] [b1] w w2 →
 R (.int .i64 41) w2)
 (
 brB (decide (i0 > 12)) (
 ∀ w3, Adv [] [b1] w w3 →
 R (.int .i64 41) w3)
 (
 ∀ w4, Adv [] [b1] w w4 →
 Calls pP 131 #[.int .i64 i0] w4 fun e w5 => ∃ s6, e = .returned (.string s6) ∧ yaD [b1] w4 w5 ∧
 Calls pP 151 #[(.agg (Z1 i0 b2 i1 i2 i3 i4 i5 i6 q0 n0 n1 b0 a3 i7 B0 q1 n2 n3))] w5 fun e w7 => ∃ t8, e = .returned (.bool t8) ∧ yaD [b1] w5 w7 ∧
 brB (!t8) (
 R (.int .i64 40) w7)
 (
 Calls pP 152 #[.string s6, .int .u8 112] w7 fun e w9 => ∃ h0, e = .returned (.bool h0) ∧ yaD [b1] w7 w9 ∧
 brB h0 (
 Calls pP 134 #[.string b2] w9 fun e d4 => ∃ h1, e = .returned (.bool h1) ∧ yaD [b1] w9 d4 ∧
 brB (!h1) (
 R (.int .i64 40) d4)
 (
 Calls pP 152 #[.string s6, .int .u8 103] d4 fun e c2 => ∃ h2, e = .returned (.bool h2) ∧ yaD [b1] d4 c2 ∧
 brB h2 (
 Calls pP 134 #[.string b0] c2 fun e d5 => ∃ h3, e = .returned (.bool h3) ∧ yaD [b1] c2 d5 ∧
 brB (!h3) (
 R (.int .i64 40) d5)
 (
 Calls pP 152 #[.string s6, .int .u8 109] d5 fun e c3 => ∃ h4, e = .returned (.bool h4) ∧ yaD [b1] d5 c3 ∧
 brB h4 (
 Calls pP 134 #[.string a3] c3 fun e d6 => ∃ h5, e = .returned (.bool h5) ∧ yaD [b1] c3 d6 ∧
 brB (!h5) (
 R (.int .i64 40) d6)
 (
 Calls pP 152 #[.string s6, .int .u8 108] d6 fun e d7 => ∃ h6, e = .returned (.bool h6) ∧ yaD [b1] d6 d7 ∧
 brB h6 (
 Calls pP 153 #[.slice q1 n2 n3] d7 fun e g0 => ∃ h7, e = .returned (.bool h7) ∧ yaD [b1] d7 g0 ∧
 brB (!h7) (
 R (.int .i64 40) g0)
 (
 yaR ybE ((ydL 396 [1, 1, 1, 1]) (ydM [1, 1, 1] [] R)) (yb1 (b1, i0, b2, i1, i2, i3, i4, i5, i6, q0, n0, n1, b0, a3, i7, B0, q1, n2, n3)) g0))
 (
 yaR ybE ((ydL 396 [1, 1, 1, 1]) (ydM [1, 1, 1] [] R)) (yb1 (b1, i0, b2, i1, i2, i3, i4, i5, i6, q0, n0, n1, b0, a3, i7, B0, q1, n2, n3)) d7)))
 (
 Calls pP 152 #[.string s6, .int .u8 108] c3 fun e d8 => ∃ h8, e = .returned (.bool h8) ∧ yaD [b1] c3 d8 ∧
 brB h8 (
 Calls pP 153 #[.slice q1 n2 n3] d8 fun e g1 => ∃ h9, e = .returned (.bool h9) ∧ yaD [b1] d8 g1 ∧
 brB (!h9) (
 R (.int .i64 40) g1)
 (
 yaR ybE ((ydL 396 [1, 1, 1, 1]) (ydM [1, 1, 1] [] R)) (yb1 (b1, i0, b2, i1, i2, i3, i4, i5, i6, q0, n0, n1, b0, a3, i7, B0, q1, n2, n3)) g1))
 (
 yaR ybE ((ydL 396 [1, 1, 1, 1]) (ydM [1, 1, 1] [] R)) (yb1 (b1, i0, b2, i1, i2, i3, i4, i5, i6, q0, n0, n1, b0, a3, i7, B0, q1, n2, n3)) d8))))
 (
 Calls pP 152 #[.string s6, .int .u8 109] c2 fun e c4 => ∃ u0, e = .returned (.bool u0) ∧ yaD [b1] c2 c4 ∧
 brB u0 (
 Calls pP 134 #[.string a3] c4 fun e d9 => ∃ u1, e = .returned (.bool u1) ∧ yaD [b1] c4 d9 ∧
 brB (!u1) (
 R (.int .i64 40) d9)
 (
 Calls pP 152 #[.string s6, .int .u8 108] d9 fun e e0 => ∃ u2, e = .returned (.bool u2) ∧ yaD [b1] d9 e0 ∧
 brB u2 (
 Calls pP 153 #[.slice q1 n2 n3] e0 fun e g2 => ∃ u3, e = .returned (.bool u3) ∧ yaD [b1] e0 g2 ∧
 brB (!u3) (
 R (.int .i64 40) g2)
 (
 yaR ybE ((ydL 396 [1, 1, 1, 1]) (ydM [1, 1, 1] [] R)) (yb1 (b1, i0, b2, i1, i2, i3, i4, i5, i6, q0, n0, n1, b0, a3, i7, B0, q1, n2, n3)) g2))
 (
 yaR ybE ((ydL 396 [1, 1, 1, 1]) (ydM [1, 1, 1] [] R)) (yb1 (b1, i0, b2, i1, i2, i3, i4, i5, i6, q0, n0, n1, b0, a3, i7, B0, q1, n2, n3)) e0)))
 (
 Calls pP 152 #[.string s6, .int .u8 108] c4 fun e e1 => ∃ u4, e = .returned (.bool u4) ∧ yaD [b1] c4 e1 ∧
 brB u4 (
 Calls pP 153 #[.slice q1 n2 n3] e1 fun e g3 => ∃ u5, e = .returned (.bool u5) ∧ yaD [b1] e1 g3 ∧
 brB (!u5) (
 R (.int .i64 40) g3)
 (
 yaR ybE ((ydL 396 [1, 1, 1, 1]) (ydM [1, 1, 1] [] R)) (yb1 (b1, i0, b2, i1, i2, i3, i4, i5, i6, q0, n0, n1, b0, a3, i7, B0, q1, n2, n3)) g3))
 (
 yaR ybE ((ydL 396 [1, 1, 1, 1]) (ydM [1, 1, 1] [] R)) (yb1 (b1, i0, b2, i1, i2, i3, i4, i5, i6, q0, n0, n1, b0, a3, i7, B0, q1, n2, n3)) e1)))))
 (
 Calls pP 152 #[.string s6, .int .u8 116] w9 fun e c5 => ∃ u6, e = .returned (.bool u6) ∧ yaD [b1] w9 c5 ∧
 brB u6 (
 Calls pP 134 #[.string b2] c5 fun e e2 => ∃ u7, e = .returned (.bool u7) ∧ yaD [b1] c5 e2 ∧
 brB (!u7) (
 R (.int .i64 40) e2)
 (
 Calls pP 152 #[.string s6, .int .u8 103] e2 fun e c6 => ∃ u9, e = .returned (.bool u9) ∧ yaD [b1] e2 c6 ∧
 brB u9 (
 Calls pP 134 #[.string b0] c6 fun e e3 => ∃ v0, e = .returned (.bool v0) ∧ yaD [b1] c6 e3 ∧
 brB (!v0) (
 R (.int .i64 40) e3)
 (
 Calls pP 152 #[.string s6, .int .u8 109] e3 fun e c7 => ∃ v1, e = .returned (.bool v1) ∧ yaD [b1] e3 c7 ∧
 brB v1 (
 Calls pP 134 #[.string a3] c7 fun e e4 => ∃ v2, e = .returned (.bool v2) ∧ yaD [b1] c7 e4 ∧
 brB (!v2) (
 R (.int .i64 40) e4)
 (
 Calls pP 152 #[.string s6, .int .u8 108] e4 fun e e5 => ∃ v3, e = .returned (.bool v3) ∧ yaD [b1] e4 e5 ∧
 brB v3 (
 Calls pP 153 #[.slice q1 n2 n3] e5 fun e g4 => ∃ v4, e = .returned (.bool v4) ∧ yaD [b1] e5 g4 ∧
 brB (!v4) (
 R (.int .i64 40) g4)
 (
 yaR ybE ((ydL 396 [1, 1, 1, 1]) (ydM [1, 1, 1] [] R)) (yb1 (b1, i0, b2, i1, i2, i3, i4, i5, i6, q0, n0, n1, b0, a3, i7, B0, q1, n2, n3)) g4))
 (
 yaR ybE ((ydL 396 [1, 1, 1, 1]) (ydM [1, 1, 1] [] R)) (yb1 (b1, i0, b2, i1, i2, i3, i4, i5, i6, q0, n0, n1, b0, a3, i7, B0, q1, n2, n3)) e5)))
 (
 Calls pP 152 #[.string s6, .int .u8 108] c7 fun e e6 => ∃ v5, e = .returned (.bool v5) ∧ yaD [b1] c7 e6 ∧
 brB v5 (
 Calls pP 153 #[.slice q1 n2 n3] e6 fun e g5 => ∃ v6, e = .returned (.bool v6) ∧ yaD [b1] e6 g5 ∧
 brB (!v6) (
 R (.int .i64 40) g5)
 (
 yaR ybE ((ydL 396 [1, 1, 1, 1]) (ydM [1, 1, 1] [] R)) (yb1 (b1, i0, b2, i1, i2, i3, i4, i5, i6, q0, n0, n1, b0, a3, i7, B0, q1, n2, n3)) g5))
 (
 yaR ybE ((ydL 396 [1, 1, 1, 1]) (ydM [1, 1, 1] [] R)) (yb1 (b1, i0, b2, i1, i2, i3, i4, i5, i6, q0, n0, n1, b0, a3, i7, B0, q1, n2, n3)) e6))))
 (
 Calls pP 152 #[.string s6, .int .u8 109] c6 fun e c8 => ∃ v7, e = .returned (.bool v7) ∧ yaD [b1] c6 c8 ∧
 brB v7 (
 Calls pP 134 #[.string a3] c8 fun e e7 => ∃ v8, e = .returned (.bool v8) ∧ yaD [b1] c8 e7 ∧
 brB (!v8) (
 R (.int .i64 40) e7)
 (
 Calls pP 152 #[.string s6, .int .u8 108] e7 fun e e8 => ∃ v9, e = .returned (.bool v9) ∧ yaD [b1] e7 e8 ∧
 brB v9 (
 Calls pP 153 #[.slice q1 n2 n3] e8 fun e g6 => ∃ w0, e = .returned (.bool w0) ∧ yaD [b1] e8 g6 ∧
 brB (!w0) (
 R (.int .i64 40) g6)
 (
 yaR ybE ((ydL 396 [1, 1, 1, 1]) (ydM [1, 1, 1] [] R)) (yb1 (b1, i0, b2, i1, i2, i3, i4, i5, i6, q0, n0, n1, b0, a3, i7, B0, q1, n2, n3)) g6))
 (
 yaR ybE ((ydL 396 [1, 1, 1, 1]) (ydM [1, 1, 1] [] R)) (yb1 (b1, i0, b2, i1, i2, i3, i4, i5, i6, q0, n0, n1, b0, a3, i7, B0, q1, n2, n3)) e8)))
 (
 Calls pP 152 #[.string s6, .int .u8 108] c8 fun e e9 => ∃ w1, e = .returned (.bool w1) ∧ yaD [b1] c8 e9 ∧
 brB w1 (
 Calls pP 153 #[.slice q1 n2 n3] e9 fun e g7 => ∃ w6, e = .returned (.bool w6) ∧ yaD [b1] e9 g7 ∧
 brB (!w6) (
 R (.int .i64 40) g7)
 (
 yaR ybE ((ydL 396 [1, 1, 1, 1]) (ydM [1, 1, 1] [] R)) (yb1 (b1, i0, b2, i1, i2, i3, i4, i5, i6, q0, n0, n1, b0, a3, i7, B0, q1, n2, n3)) g7))
 (
 yaR ybE ((ydL 396 [1, 1, 1, 1]) (ydM [1, 1, 1] [] R)) (yb1 (b1, i0, b2, i1, i2, i3, i4, i5, i6, q0, n0, n1, b0, a3, i7, B0, q1, n2, n3)) e9)))))
 (
 Calls pP 152 #[.string s6, .int .u8 103] c5 fun e c9 => ∃ w8, e = .returned (.bool w8) ∧ yaD [b1] c5 c9 ∧
 brB w8 (
 Calls pP 134 #[.string b0] c9 fun e f0 => ∃ x0, e = .returned (.bool x0) ∧ yaD [b1] c9 f0 ∧
 brB (!x0) (
 R (.int .i64 40) f0)
 (
 Calls pP 152 #[.string s6, .int .u8 109] f0 fun e d0 => ∃ x1, e = .returned (.bool x1) ∧ yaD [b1] f0 d0 ∧
 brB x1 (
 Calls pP 134 #[.string a3] d0 fun e f1 => ∃ x2, e = .returned (.bool x2) ∧ yaD [b1] d0 f1 ∧
 brB (!x2) (
 R (.int .i64 40) f1)
 (
 Calls pP 152 #[.string s6, .int .u8 108] f1 fun e f2 => ∃ x3, e = .returned (.bool x3) ∧ yaD [b1] f1 f2 ∧
 brB x3 (
 Calls pP 153 #[.slice q1 n2 n3] f2 fun e g8 => ∃ x4, e = .returned (.bool x4) ∧ yaD [b1] f2 g8 ∧
 brB (!x4) (
 R (.int .i64 40) g8)
 (
 yaR ybE ((ydL 396 [1, 1, 1, 1]) (ydM [1, 1, 1] [] R)) (yb1 (b1, i0, b2, i1, i2, i3, i4, i5, i6, q0, n0, n1, b0, a3, i7, B0, q1, n2, n3)) g8))
 (
 yaR ybE ((ydL 396 [1, 1, 1, 1]) (ydM [1, 1, 1] [] R)) (yb1 (b1, i0, b2, i1, i2, i3, i4, i5, i6, q0, n0, n1, b0, a3, i7, B0, q1, n2, n3)) f2)))
 (
 Calls pP 152 #[.string s6, .int .u8 108] d0 fun e f3 => ∃ x5, e = .returned (.bool x5) ∧ yaD [b1] d0 f3 ∧
 brB x5 (
 Calls pP 153 #[.slice q1 n2 n3] f3 fun e g9 => ∃ x6, e = .returned (.bool x6) ∧ yaD [b1] f3 g9 ∧
 brB (!x6) (
 R (.int .i64 40) g9)
 (
 yaR ybE ((ydL 396 [1, 1, 1, 1]) (ydM [1, 1, 1] [] R)) (yb1 (b1, i0, b2, i1, i2, i3, i4, i5, i6, q0, n0, n1, b0, a3, i7, B0, q1, n2, n3)) g9))
 (
 yaR ybE ((ydL 396 [1, 1, 1, 1]) (ydM [1, 1, 1] [] R)) (yb1 (b1, i0, b2, i1, i2, i3, i4, i5, i6, q0, n0, n1, b0, a3, i7, B0, q1, n2, n3)) f3))))
 (
 Calls pP 152 #[.string s6, .int .u8 109] c9 fun e d1 => ∃ f4, e = .returned (.bool f4) ∧ yaD [b1] c9 d1 ∧
 brB f4 (
 Calls pP 134 #[.string a3] d1 fun e b9 => ∃ f5, e = .returned (.bool f5) ∧ yaD [b1] d1 b9 ∧
 brB (!f5) (
 R (.int .i64 40) b9)
 (
 Calls pP 152 #[.string s6, .int .u8 108] b9 fun e c0 => ∃ f6, e = .returned (.bool f6) ∧ yaD [b1] b9 c0 ∧
 brB f6 (
 Calls pP 153 #[.slice q1 n2 n3] c0 fun e d2 => ∃ f7, e = .returned (.bool f7) ∧ yaD [b1] c0 d2 ∧
 brB (!f7) (
 R (.int .i64 40) d2)
 (
 yaR ybE ((ydL 396 [1, 1, 1, 1]) (ydM [1, 1, 1] [] R)) (yb1 (b1, i0, b2, i1, i2, i3, i4, i5, i6, q0, n0, n1, b0, a3, i7, B0, q1, n2, n3)) d2))
 (
 yaR ybE ((ydL 396 [1, 1, 1, 1]) (ydM [1, 1, 1] [] R)) (yb1 (b1, i0, b2, i1, i2, i3, i4, i5, i6, q0, n0, n1, b0, a3, i7, B0, q1, n2, n3)) c0)))
 (
 Calls pP 152 #[.string s6, .int .u8 108] d1 fun e c1 => ∃ f8, e = .returned (.bool f8) ∧ yaD [b1] d1 c1 ∧
 brB f8 (
 Calls pP 153 #[.slice q1 n2 n3] c1 fun e d3 => ∃ f9, e = .returned (.bool f9) ∧ yaD [b1] c1 d3 ∧
 brB (!f9) (
 R (.int .i64 40) d3)
 (
 yaR ybE ((ydL 396 [1, 1, 1, 1]) (ydM [1, 1, 1] [] R)) (yb1 (b1, i0, b2, i1, i2, i3, i4, i5, i6, q0, n0, n1, b0, a3, i7, B0, q1, n2, n3)) d3))
 (
 yaR ybE ((ydL 396 [1, 1, 1, 1]) (ydM [1, 1, 1] [] R)) (yb1 (b1, i0, b2, i1, i2, i3, i4, i5, i6, q0, n0, n1, b0, a3, i7, B0, q1, n2, n3)) c1))))))))) :
 CR pP 130 #[(.agg (Z1 i0 b2 i1 i2 i3 i4 i5 i6 q0 n0 n1 b0 a3 i7 B0 q1 n2 n3))] w R :=
 yaA Tryz.wide_mixed (an := yvR) Tryz.func130 rfl rfl (by kernel_rfl) rfl (Eq.mpr (by kernel_rfl) h)
def ytC : LA := ⟨[0, 0, 1, 0, 1, 1], [0, 1, 5], [], 0, []⟩
def yvS : List LA := [ytC]
abbrev yJ3 := dnF pP yvS (code Tryz.f90)
abbrev yNB := yaO pP yvS (code Tryz.f90)
abbrev yJ4 (p : List Nat) (K : List Kh) (R : VWP) := yaO pP yvS (code Tryz.f90) p K (ya7 pP Tryz.f90 [] R)
def ymM (a0 : OA) (a4 a2 : Nat) (a1 : OA) (a5 a3 : Nat) : Int → List Value × List TB := fun a6 => ([.slice a0 a4 a2, .slice a1 a5 a3, .int .i64 a6], [])
abbrev yFv (a0 : OA) (a4 a2 : Nat) (a1 : OA) (a5 a3 : Nat) (I : Nat → Int → World → Prop) (m : Nat) : Kh := KG (ymM a0 a4 a2 a1 a5 a3) (U1 I) m
theorem yBs {I : Nat → Int → World → Prop} (m' : Nat) (h1 : m' < m) (h2 : I m' i0 w) : KS (yFv q0 n0 n1 q1 n2 n3 I m) (ymM q0 n0 n1 q1 n2 n3 i0) w := ⟨m', h1, _, rfl, rfl, h2⟩
theorem yBt {a2 : OA} {a3 : OA} (I : Nat → Int → World → Prop) (m0 : Nat) (h0 : I m0 i0 w0)
 (hr : ∀ m a0 w, I m a0 w →
 brB (decide (a0 < (n0 : Int))) (
 ixA a2 n0 a0 1 fun q1 =>
 yaT w q1 fun s2 =>
 ixA a3 n2 a0 1 fun q3 =>
 yaT w q3 fun s4 =>
 brB (!(s2.toList == s4.toList)) (
 ∀ w5, Adv [] [] w w5 →
 R (.bool false) w5)
 (
 ∀ w6, Adv [] [] w w6 →
 KS (yFv a2 n0 n1 a3 n2 n3 I m) (ymM a2 n0 n1 a3 n2 n3 (IntKind.wrap .i64 (a0 + 1))) w6))
 (
 R (.bool true) w)) :
 yaJ ytC (yJ3 396 [0, 0, 1, 0, 1, 1]) (yJ4 [1, 1, 0, 1, 0] [] R) (ymM a2 n0 n1 a3 n2 n3 i0) w0 :=
 lrule (ymM a2 n0 n1 a3 n2 n3) (U1 I) h0 (by rintro m a0 w h; exact ⟨by kernel_rfl, by kernel_rfl, fun js => Eq.mpr (by kernel_rfl) (hr m a0 w h)⟩)
theorem yJ5 (h :
 brB ((n0 : Int) != (n2 : Int)) (
 R (.bool false) w)
 (
 yaJ ytC (yJ3 396 [0, 0, 1, 0, 1, 1]) (yJ4 [1, 1, 0, 1, 0] [] R) (ymM q0 n0 n1 q1 n2 n3 0) w)) :
 CR pP 90 #[.slice q0 n0 n1, .slice q1 n2 n3] w R :=
 yaA Tryz.wide_mixed (an := yvS) Tryz.func90 rfl rfl (by kernel_rfl) rfl (Eq.mpr (by kernel_rfl) h)
theorem yJ6 {a6 : BA} {d0 b8 : BA} {b3 : BA} {d7 c1 : BA} (h :
 ∀ b1, w.heap.size ≤ b1 →
 ∀ b2, w.heap.size ≤ b2 →
 brB (i0 == i8) (
 ∀ w3, Adv [] [b2, b1] w w3 →
 ∃ t4, (∀ w', Mod [] w3 w' → Sem.run pP (do eqGuard .eql 42 (.tmp 12) (.tmp 14) (.agg #[.string a6, .int .i64 i1]) (.agg #[.string b3, .int .i64 i9]); Go.binOp .eql 42 (.agg #[.string a6, .int .i64 i1]) (.agg #[.string b3, .int .i64 i9])) w' = .ok (.bool t4) w') ∧
 brB t4 (
 brB (i2 == j0) (
 brB (i3 == j1) (
 Calls pP 89 #[(.agg (Z8 i4 i5 i6 q0 n0 n1)), (.agg (Z8 j2 j3 j4 q2 n4 n5))] w3 fun e w5 => ∃ t6, e = .returned (.bool t6) ∧ yaD [b1, b2] w3 w5 ∧
 brB t6 (
 brB (d0.toList == d7.toList) (
 brB (b8.toList == c1.toList) (
 brB (i7 == j5) (
 brB (B0 == B1) (
 Calls pP 90 #[.slice q1 n2 n3, .slice q3 n6 n7] w5 fun e w7 => ∃ t8, e = .returned (.bool t8) ∧ yaD [b1, b2] w5 w7 ∧
 R (.bool t8) w7)
 (
 R (.bool false) w5))
 (
 R (.bool false) w5))
 (
 R (.bool false) w5))
 (
 R (.bool false) w5))
 (
 R (.bool false) w5))
 (
 R (.bool false) w3))
 (
 R (.bool false) w3))
 (
 R (.bool false) w3))
 (
 ∀ w9, Adv [] [b2, b1] w w9 →
 R (.bool false) w9)) :
 CR pP 60 #[(.agg (Z1 i0 a6 i1 i2 i3 i4 i5 i6 q0 n0 n1 d0 b8 i7 B0 q1 n2 n3)), (.agg (Z1 i8 b3 i9 j0 j1 j2 j3 j4 q2 n4 n5 d7 c1 j5 B1 q3 n6 n7))] w R :=
 yaA Tryz.wide_mixed (an := []) Tryz.func60 rfl rfl (by kernel_rfl) rfl (Eq.mpr (by kernel_rfl) h)
theorem yJ7 (h :
 ∀ b1, w.heap.size ≤ b1 →
 ∀ b2, w.heap.size ≤ b2 →
 brB (i0 == i3) (
 brB (i1 == i4) (
 brB (i2 == i5) (
 ∀ w3, Adv [] [b2, b1] w w3 →
 Calls pP 165 #[.slice q0 n0 n1, .slice q1 n2 n3] w3 fun e w4 => ∃ t5, e = .returned (.bool t5) ∧ yaD [b1, b2] w3 w4 ∧
 R (.bool t5) w4)
 (
 ∀ w6, Adv [] [b2, b1] w w6 →
 R (.bool false) w6))
 (
 ∀ w7, Adv [] [b2, b1] w w7 →
 R (.bool false) w7))
 (
 ∀ w8, Adv [] [b2, b1] w w8 →
 R (.bool false) w8)) :
 CR pP 158 #[(.agg (Z8 i0 i1 i2 q0 n0 n1)), (.agg (Z8 i3 i4 i5 q1 n2 n3))] w R :=
 yaA Tryz.wide_mixed (an := []) Tryz.func158 rfl rfl (by kernel_rfl) rfl (Eq.mpr (by kernel_rfl) h)
theorem yJ8 {a6 : BA} {d0 b8 : BA} {b3 : BA} {d7 c1 : BA} (h :
 ∀ b1, w.heap.size ≤ b1 →
 ∀ b2, w.heap.size ≤ b2 →
 brB (i0 == i8) (
 ∀ w3, Adv [] [b2, b1] w w3 →
 ∃ t4, (∀ w', Mod [] w3 w' → Sem.run pP (do eqGuard .eql 42 (.tmp 13) (.tmp 15) (.agg #[.string a6, .int .i64 i1]) (.agg #[.string b3, .int .i64 i9]); Go.binOp .eql 42 (.agg #[.string a6, .int .i64 i1]) (.agg #[.string b3, .int .i64 i9])) w' = .ok (.bool t4) w') ∧
 brB t4 (
 brB (i2 == j0) (
 brB (i3 == j1) (
 brB (d0.toList == d7.toList) (
 brB (b8.toList == c1.toList) (
 brB (i7 == j5) (
 brB (B0 == B1) (
 Calls pP 158 #[(.agg (Z8 i4 i5 i6 q0 n0 n1)), (.agg (Z8 j2 j3 j4 q2 n4 n5))] w3 fun e w5 => ∃ t6, e = .returned (.bool t6) ∧ yaD [b1, b2] w3 w5 ∧
 brB t6 (
 Calls pP 159 #[.slice q1 n2 n3, .slice q3 n6 n7] w5 fun e w7 => ∃ t8, e = .returned (.bool t8) ∧ yaD [b1, b2] w5 w7 ∧
 R (.bool t8) w7)
 (
 R (.bool false) w5))
 (
 R (.bool false) w3))
 (
 R (.bool false) w3))
 (
 R (.bool false) w3))
 (
 R (.bool false) w3))
 (
 R (.bool false) w3))
 (
 R (.bool false) w3))
 (
 R (.bool false) w3))
 (
 ∀ w9, Adv [] [b2, b1] w w9 →
 R (.bool false) w9)) :
 CR pP 143 #[(.agg (Z1 i0 a6 i1 i2 i3 i4 i5 i6 q0 n0 n1 d0 b8 i7 B0 q1 n2 n3)), (.agg (Z1 i8 b3 i9 j0 j1 j2 j3 j4 q2 n4 n5 d7 c1 j5 B1 q3 n6 n7))] w R :=
 yaA Tryz.wide_mixed (an := []) Tryz.func143 rfl rfl (by kernel_rfl) rfl (Eq.mpr (by kernel_rfl) h)
def ytD : LA := ⟨[0, 0, 1, 0, 1, 1], [0, 1, 12, 13], [], 0, []⟩
def yvT : List LA := [ytD]
abbrev yJ9 := dnF pP yvT (code Tryz.f159)
abbrev yNC := yaO pP yvT (code Tryz.f159)
abbrev yKa (p : List Nat) (K : List Kh) (R : VWP) := yaO pP yvT (code Tryz.f159) p K (ya7 pP Tryz.f159 [] R)
def ymN (a2 : OA) (a6 a4 : Nat) (a3 : OA) (a7 a5 : Nat) (a0 : Int) : Int → List Value × List TB := fun a1 => ([.slice a2 a6 a4, .slice a3 a7 a5, .int .i64 a0, .int .i64 a1], [])
abbrev yFw (a1 : OA) (a5 a3 : Nat) (a2 : OA) (a6 a4 : Nat) (a0 : Int) (I : Nat → Int → World → Prop) (m : Nat) : Kh := KG (ymN a1 a5 a3 a2 a6 a4 a0) (U1 I) m
theorem yBu {I : Nat → Int → World → Prop} (m' : Nat) (h1 : m' < m) (h2 : I m' i1 w) : KS (yFw q0 n0 n1 q1 n2 n3 i0 I m) (ymN q0 n0 n1 q1 n2 n3 i0 i1) w := ⟨m', h1, _, rfl, rfl, h2⟩
theorem yBv {a2 : OA} {a3 : OA} (I : Nat → Int → World → Prop) (m0 : Nat) (h0 : I m0 i1 w0)
 (hr : ∀ m a0 w, I m a0 w →
 brB (decide (a0 < i0)) (
 ixA a2 n0 a0 1 fun q1 =>
 yaT w q1 fun s2 =>
 ixA a3 n2 a0 1 fun q3 =>
 yaT w q3 fun s4 =>
 brB (!(s2.toList == s4.toList)) (
 ∀ w5, Adv [] [] w w5 →
 R (.bool false) w5)
 (
 ∀ w6, Adv [] [] w w6 →
 KS (yFw a2 n0 n1 a3 n2 n3 i0 I m) (ymN a2 n0 n1 a3 n2 n3 i0 (IntKind.wrap .i64 (a0 + 1))) w6))
 (
 R (.bool true) w)) :
 yaJ ytD (yJ9 396 [0, 0, 1, 0, 1, 1]) (yKa [1, 1, 0, 1, 0] [] R) (ymN a2 n0 n1 a3 n2 n3 i0 i1) w0 :=
 lrule (ymN a2 n0 n1 a3 n2 n3 i0) (U1 I) h0 (by rintro m a0 w h; exact ⟨by kernel_rfl, by kernel_rfl, fun js => Eq.mpr (by kernel_rfl) (hr m a0 w h)⟩)
theorem yKb (h :
 brB ((n0 : Int) != (n2 : Int)) (
 R (.bool false) w)
 (
 yaJ ytD (yJ9 396 [0, 0, 1, 0, 1, 1]) (yKa [1, 1, 0, 1, 0] [] R) (ymN q0 n0 n1 q1 n2 n3 (n0 : Int) 0) w)) :
 CR pP 159 #[.slice q0 n0 n1, .slice q1 n2 n3] w R :=
 yaA Tryz.wide_mixed (an := yvT) Tryz.func159 rfl rfl (by kernel_rfl) rfl (Eq.mpr (by kernel_rfl) h)
def ytE : LA := ⟨[0, 0, 1, 0, 1, 1], [0, 1, 12, 13], [], 0, []⟩
def yvU : List LA := [ytE]
abbrev yKc := dnF pP yvU (code Tryz.f165)
abbrev yND := yaO pP yvU (code Tryz.f165)
abbrev yKd (p : List Nat) (K : List Kh) (R : VWP) := yaO pP yvU (code Tryz.f165) p K (ya7 pP Tryz.f165 [] R)
def ymO (a2 : OA) (a6 a4 : Nat) (a3 : OA) (a7 a5 : Nat) (a0 : Int) : Int → List Value × List TB := fun a1 => ([.slice a2 a6 a4, .slice a3 a7 a5, .int .i64 a0, .int .i64 a1], [])
abbrev yFx (a1 : OA) (a5 a3 : Nat) (a2 : OA) (a6 a4 : Nat) (a0 : Int) (I : Nat → Int → World → Prop) (m : Nat) : Kh := KG (ymO a1 a5 a3 a2 a6 a4 a0) (U1 I) m
theorem yBw {I : Nat → Int → World → Prop} (m' : Nat) (h1 : m' < m) (h2 : I m' i1 w) : KS (yFx q0 n0 n1 q1 n2 n3 i0 I m) (ymO q0 n0 n1 q1 n2 n3 i0 i1) w := ⟨m', h1, _, rfl, rfl, h2⟩
theorem yBx {a2 : OA} {a3 : OA} (I : Nat → Int → World → Prop) (m0 : Nat) (h0 : I m0 i1 w0)
 (hr : ∀ m a0 w, I m a0 w →
 brB (decide (a0 < i0)) (
 ixA a2 n0 a0 4 fun q1 =>
 ya1 w q1 fun t2 => yaT w (Addr.add q1 1) fun s3 => ya1 w (Addr.add q1 2) fun t4 => yaT w (Addr.add q1 3) fun s5 =>
 ixA a3 n2 a0 4 fun q6 =>
 ya1 w q6 fun t7 => yaT w (Addr.add q6 1) fun s8 => ya1 w (Addr.add q6 2) fun t9 => yaT w (Addr.add q6 3) fun a9 =>
 ∃ b0, (∀ w', Mod [] w w' → Sem.run pP (do eqGuard .neq 99 (.tmp 19) (.tmp 23) (.agg (Z5 t2 s3 t4 s5)) (.agg (Z5 t7 s8 t9 a9)); Go.binOp .neq 99 (.agg (Z5 t2 s3 t4 s5)) (.agg (Z5 t7 s8 t9 a9))) w' = .ok (.bool b0) w') ∧
 brB b0 (
 ∀ b1, Adv [] [] w b1 →
 R (.bool false) b1)
 (
 ∀ b2, Adv [] [] w b2 →
 KS (yFx a2 n0 n1 a3 n2 n3 i0 I m) (ymO a2 n0 n1 a3 n2 n3 i0 (IntKind.wrap .i64 (a0 + 1))) b2))
 (
 R (.bool true) w)) :
 yaJ ytE (yKc 396 [0, 0, 1, 0, 1, 1]) (yKd [1, 1, 0, 1, 0] [] R) (ymO a2 n0 n1 a3 n2 n3 i0 i1) w0 :=
 lrule (ymO a2 n0 n1 a3 n2 n3 i0) (U1 I) h0 (by rintro m a0 w h; exact ⟨by kernel_rfl, by kernel_rfl, fun js => Eq.mpr (by kernel_rfl) (hr m a0 w h)⟩)
theorem yKe (h :
 brB ((n0 : Int) != (n2 : Int)) (
 R (.bool false) w)
 (
 yaJ ytE (yKc 396 [0, 0, 1, 0, 1, 1]) (yKd [1, 1, 0, 1, 0] [] R) (ymO q0 n0 n1 q1 n2 n3 (n0 : Int) 0) w)) :
 CR pP 165 #[.slice q0 n0 n1, .slice q1 n2 n3] w R :=
 yaA Tryz.wide_mixed (an := yvU) Tryz.func165 rfl rfl (by kernel_rfl) rfl (Eq.mpr (by kernel_rfl) h)
end
end Go.Proofs.YtjellhflalbbmaaGreat
