/- Part 2 of the proof of PMPuts. -/
import Derived.Test.YtkbcmppbjfpjmaaGreatPMPutsK1
namespace Go.Proofs.YtkbcmppbjfpjmaaGreat
open Go Go.RowKit Go.Shelf
set_option linter.unusedVariables false
set_option linter.unusedSimpArgs false
attribute [local go_sem] Oper.semAt_some
def yqX (n : Nat) : List (Nat × Bool) := if h : n < 128 then [(n, false)] else (n % 128, true) :: yqX (n / 128)
termination_by n
decreasing_by omega
theorem yc2 {n : Nat} (h : n < 128) : yqX n = [(n, false)] := by rw [yqX, dif_pos h]
theorem ygY {n : Nat} (h : ¬ n < 128) : yqX n = (n % 128, true) :: yqX (n / 128) := by rw [yqX, dif_neg h]
theorem yfP : ∀ (k n : Nat), n < 128 ^ (k + 1) → 1 ≤ (yqX n).length ∧ (yqX n).length ≤ k + 1
 | 0, n, h => by rw [yc2 (by simpa using h)]; simp
 | k + 1, n, h => by
  by_cases h1 : n < 128
  ·rw [yc2 h1]; simp
  ·rw [ygY h1]
   have := yfP k (n / 128) (by rw [Nat.pow_succ] at h; omega)
   simp; omega
set_option maxRecDepth 100000 in
set_option maxHeartbeats 2000000 in
theorem yvL (C n : Nat) (hn : n < 18446744073709551616) :
  yyF pP 88 #[.pointer (some ⟨C, 0, none⟩)] (fun x : Nat × Bool => #[.int .u8 (x.1 : Nat), .bool x.2]) C 10 (.cells #[.int .u64 (n : Nat)] 71) (yqX n) := fun l J W hset hdrew hY h0 hC => by
 have hro : Fence.wide.round = none := rfl
 refine callsIn_of_wp Tryz.func88 rfl trivial ?_ hro
 simp only [Tryz.ntmps88, List.size_toArray, List.length_cons, List.length_nil, Nat.reduceAdd, Nat.reduceSub, Array.replicate_succ, Array.replicate_zero, List.push_toArray, List.append_toArray, List.nil_append, List.cons_append]
 have hcellOf : ∀ {wr : World} {m : Nat}, wr.heap[C]? = some (.cells #[.int .u64 (m : Nat)] 71) → wr.cell? ⟨C, 0, none⟩ = some (.int .u64 (m : Nat)) ∧ wr.frozen? ⟨C, 0, none⟩ = false := fun h => ⟨by rw [yaZ h]; rfl, ypK h⟩
 gi_wp2
 gi_loopg [] n (fun k wr => ∃ pre, k < 18446744073709551616 ∧ yqX n = pre ++ yqX k ∧ wr.heap[C]? = some (.cells #[.int .u64 (k : Nat)] 71) ∧ J pre wr)
 case atStart => exact ⟨[], hn, rfl, hC, h0⟩
 case round =>
  obtain ⟨pre, hk, hs, hCw, hJ⟩ := hrel
  obtain ⟨hc, hf⟩ := hcellOf hCw
  have hlen := (yfP 9 n (by omega)).2
  rw [hs] at hlen
  have hk1 := (yfP 9 gk (by omega)).1
  rw [List.length_append] at hlen
  by_cases hb : gk < 128
  ·have hb' : ¬ (128 : Int) ≤ (gk : Int) := by omega
   obtain ⟨fn, tmps, assign, body, hy, hR⟩ := hY pre (gk, false) wr hJ (by omega)
   dsimp only at hy
   gi_wp2
   refine hR.mono ?_
   rintro e W3 ⟨rfl, hJ3, hC3⟩
   gi_wp2
   go_end0
   refine ⟨⟨_, rfl⟩, ?_⟩
   rw [hs, yc2 hb]
   exact hJ3
  ·have hb' : (128 : Int) ≤ (gk : Int) := by omega
   have e7 : bits .and .u64 (gk : Int) 127 % 256 = (gk : Int) % 128 := by
    have h := bits_and_u64_nat gk 127 (by omega) (by omega)
    have h2 : (gk &&& 127 : Nat) = gk % 128 := Nat.and_two_pow_sub_one_eq_mod gk 7
    rw [h2] at h
    have h3 : bits .and .u64 (gk : Int) 127 = ((gk % 128 : Nat) : Int) := h
    rw [h3]; omega
   obtain ⟨fn, tmps, assign, body, hy, hR⟩ := hY pre (gk % 128, true) wr hJ (by omega)
   dsimp only at hy
   have e8 : ((gk % 128 : Nat) : Int) = (gk : Int) % 128 := by omega
   rw [e8] at hy
   gi_wp2
   refine hR.mono ?_
   rintro e W3 ⟨rfl, hJ3, hC3⟩
   obtain ⟨hc3, hf3⟩ := hcellOf (hC3.trans hCw)
   gi_wp2
   gi_roundg (gk / 128)
   case rel =>
    refine ⟨pre ++ [(gk % 128, true)], by omega, by rw [hs, ygY hb]; simp, ?_, hset _ _ _ hJ3⟩
    rw [yiE (hC3.trans hCw)]
    rfl
   case measure => omega
theorem yyG (n : Int) (w : World) :
  CallsIn Fence.wide 1 pP 54 #[.int .u64 n] w fun e w' => e = .returned (.func (.func 88) #[] #[.pointer (some ⟨w.heap.size, 0, none⟩)]) ∧ w' = w.alloc (.cells #[.int .u64 n] 71) := by
 refine callsIn_of_wp Tryz.func54 rfl trivial ?_ rfl
 simp only [Tryz.ntmps54, List.size_toArray, List.length_cons, List.length_nil, Nat.reduceAdd, Nat.reduceSub, Array.replicate_succ, Array.replicate_zero, List.push_toArray, List.append_toArray, List.nil_append, List.cons_append]
 gi_wp2
 go_ret
 exact ⟨rfl, rfl⟩
def yGP (p : Nat × Bool) : Int := if p.2 then bits .or .u8 (p.1 : Nat) 128 else (p.1 : Nat)
def yaJ (n : Nat) : List UInt8 := (yqX n).map fun p => UInt8.ofNat (if p.2 then p.1 + 128 else p.1)
def yCf (n : Nat) : ByteArray := ⟨(yaJ n).toArray⟩
theorem yJY : ∀ x : Fin 128, bits .or .u8 ((x.val : Nat) : Int) 128 = ((x.val + 128 : Nat) : Int) := by decide
theorem yvM : ∀ (n : Nat), (yqX n).map (fun p => Value.int .u8 (yGP p)) = (yaJ n).map fun b => Value.int .u8 (b.toNat : Int) := by
 intro n
 induction n using Nat.strongRecOn with
 | ind n ih =>
  by_cases h : n < 128
  ·have e : (UInt8.ofNat n).toNat = n := by simp; omega
   simp [yaJ, yc2 h, yGP]; omega
  ·have e := yJY ⟨n % 128, by omega⟩
   have ih := ih (n / 128) (by omega)
   unfold yaJ at ih ⊢
   rw [ygY h, List.map_cons, List.map_cons, List.map_cons, ih]
   simp only [yGP, if_true]
   rw [e]
   simp; omega
theorem yDr : (Tryz.prog.info? 5).map (fun i => (i.zero, i.size, i.bytes)) = some (some (.int .u8 0), 1, 1) := by kernel_rfl
set_option maxRecDepth 100000 in
set_option maxHeartbeats 2000000 in
theorem yGQ (n : Nat) (hn : n < 18446744073709551616) (w : World) :
  CallsIn Fence.wide 2 pP 24 #[.int .u64 (n : Nat)] w fun e w' => e = .returned (.string (yCf n)) ∧ Below w.heap.size w w' := by
 have hro : Fence.wide.round = none := rfl
 obtain ⟨i0, hi, hz0, hz1, hz2⟩ := info_parts yDr
 refine callsIn_of_wp_marks Tryz.func24 rfl trivial ?_ hro
 simp only [Tryz.ntmps24, List.size_toArray, List.length_cons, List.length_nil, Nat.reduceAdd, Nat.reduceSub, Array.replicate_succ, Array.replicate_zero, List.push_toArray, List.append_toArray, List.nil_append, List.cons_append]
 have hmk : ∀ W : World, (Instr.makeSlice 40 (.int .i64 0) (.int .i64 10)).run pP W = .ok (.slice (some ⟨W.heap.size, 0, none⟩) 0 10) (W.alloc (.cells (madeCells #[Value.int .u8 0] 10) 5)) := fun W => by
  have h := run_makeSlice (P := pP) W 40 5 i0 (.int .u8 0) Tryz.underlying40 hi hz0 .i64 .i64 0 10 (by omega) (by omega) (by rw [hz1]; decide) (by rw [hz2]; decide) (by decide)
  rw [hz1] at h
  exact h
 gi_wp2_with (refine ⟨trivial, ?_⟩; gi_at_call 54; refine (yyG _ _).mono ?_; rintro e w' ⟨rfl, rfl⟩)
 obtain ⟨W0, hW0⟩ : ∃ W0, (((w.alloc (Obj.cells (madeCells #[Value.int IntKind.u8 0] 10) 5)).alloc (Obj.cells #[Value.slice (some { block := w.heap.size, off := 0 }) 0 10] 40)).alloc (Obj.cells #[Value.int IntKind.u64 (n : Nat)] 71)) = W0 := ⟨_, rfl⟩
 have hsz : W0.heap.size = w.heap.size + 3 := by rw [← hW0]; simp
 have bO : Boxed W0 (w.heap.size + 1) 40 (.slice (some ⟨w.heap.size, 0, none⟩) 0 10) := by
  rw [← hW0]
  have := (Boxed.new (w.alloc (Obj.cells (madeCells #[Value.int IntKind.u8 0] 10) 5)) 40 (.slice (some ⟨w.heap.size, 0, none⟩) 0 10)).alloc (Obj.cells #[Value.int IntKind.u64 (n : Nat)] 71)
  rwa [World.size_alloc] at this
 have bN : Boxed W0 (w.heap.size + 1 + 1) 71 (.int .u64 (n : Nat)) := by
  rw [← hW0]
  have := Boxed.new ((w.alloc (Obj.cells (madeCells #[Value.int IntKind.u8 0] 10) 5)).alloc (Obj.cells #[Value.slice (some { block := w.heap.size, off := 0 }) 0 10] 40)) 71 (.int .u64 (n : Nat))
  rwa [World.size_alloc, World.size_alloc] at this
 have hR0 : W0.ownsRow w.heap.size 5 1 (.slice (some ⟨w.heap.size, 0, none⟩) 0 10) 0 [] := by
  rw [← hW0]
  exact ((World.ownsRow_made w _ 10 (Nat.le_refl _) (by unfold maxLen; decide) (by simp [size_madeCells])).alloc _).alloc _
 have hB0 : Below w.heap.size w W0 := by
  rw [← hW0]
  exact (((Below.refl _ w).alloc (Nat.le_refl _) _).alloc (by simp) _).alloc (by simp; omega) _
 rw [hW0]
 clear hW0
 refine yjU (C := w.heap.size + 1 + 1) (N := 10) (xs := yqX n) rfl (enters_of Tryz.func88 (by kernel_rfl) rfl) (by omega) bN rfl (yvL _ n hn) (fun _ => rfl)
  (fun pre W => ∃ v u, Boxed W (w.heap.size + 1) 40 v ∧ Boxed W (w.heap.size + 1 + 1) 71 u ∧ W.ownsRow w.heap.size 5 1 v pre.length (pre.map fun p => Value.int .u8 (yGP p)) ∧ Below w.heap.size w W)
  ?ia ?ip ?ic ?idr ⟨_, _, bO, bN, hR0, hB0⟩
  (fun x => { tmps := #[.int .u64 (n : Nat), undef, .string { data := #[] }, .pointer (some ⟨w.heap.size + 1, 0, none⟩), .int .u8 (x.1 : Nat), .bool x.2, .slice (some ⟨w.heap.size, 0, none⟩) 0 10, .int .u64 (n : Nat), .func (.func 88) #[] #[.pointer (some ⟨w.heap.size + 1 + 1, 0, none⟩)], .int .u8 (x.1 : Nat), .bool x.2, undef, undef, undef, undef, undef, undef, undef, undef, undef], defers := [] }) ?assign ?body ?done
 case ia =>
  rintro s W o ⟨v, u, h1, h2, h3, h4⟩
  exact ⟨v, u, h1.alloc o, h2.alloc o, h3.alloc o, h4.alloc h4.size o⟩
 case ip =>
  rintro s W l o o' hl ho hc ⟨v, u, h1, h2, h3, h4⟩
  have hne : ∀ {B t u}, Boxed W B t u → some B ≠ some l := fun h e => by cases e; rw [show W.heap[l]? = _ from h] at ho; cases ho; cases hc
  exact ⟨v, u, h1.kept (grownBy_putObj' W l o') (hne h1), h2.kept (grownBy_putObj' W l o') (hne h2), ownsRow_putObj h3 o' ho hc, h4.trans ⟨rfl, rfl, rfl, by simp [World.putObj], fun k hk => World.putObj_heap_other (by omega)⟩⟩
 case ic =>
  rintro s W v' ⟨v, u, h1, h2, h3, h4⟩
  exact ⟨v, v', h1.other (by omega) _, h2.set _, h3.kept (grownBy_setCell' W _ _) (.inr (h2.not_row (by decide) h3).symm), h4.setCell (p := ⟨w.heap.size + 1 + 1, 0, none⟩) (by show w.heap.size ≤ w.heap.size + 1 + 1; omega) _⟩
 case idr =>
  rintro s W ⟨v, u, h1, h2, h3, h4⟩
  exact ⟨v, u, h1, h2, h3, h4.drew⟩
 case assign =>
  intro l x W K hK
  gi_wp2
  exact hK
 case body =>
  rintro l pre x W ⟨v, u, hv, hu, hrow, hB⟩ hlen hCl
  have hc := hv.cell
  obtain ⟨x, f⟩ := x
  cases f
  all_goals
   gi_wp2_with (gi_at_builtin; refine wpListIn_append_own _ rfl _ _ 40 rfl w.heap.size 5 i0 (.int .u8 0) 1 1 Tryz.underlying40 hi hz0 hz1 hz2 rfl (by decide) _ _ _ rfl (hrow.alloc _) ⟨W.heap.size, 0, none⟩ 1 1 [_] rfl rfl (cell_one_new _ _ _) (by simp [Value.oneCell']) (by unfold maxLen; omega) (by omega) (by have := hB.size; simp; omega) ?_; intro v' w1 hown' hgrow _; obtain ⟨g', cap', rfl⟩ := ownsRow_succ hown'; have hu1 := (hu.alloc _).kept hgrow (hu.not_row (by decide) hrow); obtain ⟨hv1, hv2, hr2, hk2, hb2⟩ := hv.appended (by decide) hrow hB.size (Nat.le_add_right _ _) hown' hgrow; have hc1 := hv1.cell; have hf1 := hv1.frozen)
   have hu2 := hu1.other (B' := w.heap.size + 1) (by omega) (Value.slice (some { block := g', off := 0 }) (pre.length + 1) cap')
   refine ⟨hk2.from _, (show _ = _ from hu2).trans ((show _ = _ from hu).symm.trans (by simp [hCl])), _, hv2, ⟨_, hu2⟩, ?_, hB.trans hb2⟩
   simpa [yGP] using hr2
 case done =>
  rintro D W hD ⟨v, u, hv, hu, hrow, hB⟩ hK
  have hc := hv.cell
  rw [yvM, show (yqX n).length = (yaJ n).length by simp [yaJ]] at hrow
  have hl1 : 1 ≤ (yaJ n).length := by have := (yfP 9 n (by omega)).1; simp [yaJ]; omega
  obtain ⟨g, cap, rfl⟩ : ∃ g cap, v = .slice (some ⟨g, 0, none⟩) (yaJ n).length cap := by
   obtain ⟨m, hm⟩ : ∃ m, (yaJ n).length = m + 1 := ⟨(yaJ n).length - 1, by omega⟩
   have h' := hrow
   rw [hm] at h'
   rw [hm]
   exact ownsRow_succ h'
  have hcv : (convert 40 9 (.slice (some ⟨g, 0, none⟩) (yaJ n).length cap)).run pP W = .ok (.string (yCf n)) W :=
   run_convert_bytes_back W _ _ 5 ⟨g, 0, none⟩ cap (yaJ n) Tryz.underlying40 Tryz.underlying5 Tryz.underlying9 fun j hj => by
    rw [ya3, Nat.zero_add, World.ownsRow.cellAt hrow j (by omega)]
    simp [hj]
  gi_wp2
  refine ⟨by simp, .inl ⟨_, _, rfl, run_takeDeferred hK, ?_⟩⟩
  exact ⟨_, results_tmp rfl _ _ _, rfl, hB.trans ⟨rfl, rfl, rfl, by simp [World.putObj], fun k hk => World.putObj_heap_other (by omega)⟩⟩
theorem yjV (n : Nat) (hn : n < 18446744073709551616) (w : World) :
  Calls pP 24 #[.int .u64 (n : Nat)] w fun e w' => e = .returned (.string (yCf n)) ∧ Mod [] w w' :=
 (callsIn_wide.1 (yGQ n hn w)).mono fun e w' ⟨h1, h2⟩ => ⟨h1, Mod.of_below h2⟩
theorem yyH (n : Nat) (hn : n < 18446744073709551616) : 1 ≤ (yCf n).size ∧ (yCf n).size ≤ 10 := by
 have := yfP 9 n (by omega)
 have e : (yCf n).size = (yqX n).length := by simp [yCf, yaJ, ByteArray.size]
 omega
end Go.Proofs.YtkbcmppbjfpjmaaGreat
namespace Go.Proofs.YtkbcmppbjfpjmaaGreat
open Go Go.RowKit
set_option linter.all false
structure PRec where
 hk : Bool
 key : ByteArray
 tomb : Bool
 val : ByteArray
 deriving DecidableEq
structure PFound where
 off : Int
 r : PRec
 deriving DecidableEq
structure PPart where
 t : ByteArray
 n : Int
 deriving DecidableEq
structure PRep where
 e : Int
 off : Int
 n : Int
 gen : Int
 found : List PFound
 parts : List PPart
 deriving DecidableEq
structure Sl where
 a : Option Addr
 n : Nat
 c : Nat
def PRec.v (r : PRec) : Value := .agg #[.bool r.hk, .string r.key, .bool r.tomb, .string r.val]
def PFound.v (x : PFound) : Value := .agg #[.int .i64 x.off, .bool x.r.hk, .string x.r.key, .bool x.r.tomb, .string x.r.val]
def PPart.v (x : PPart) : Value := .agg #[.string x.t, .int .i64 x.n]
def yiM (x : PFound) : List Value := [.int .i64 x.off, .bool x.r.hk, .string x.r.key, .bool x.r.tomb, .string x.r.val]
def yjW (x : PPart) : List Value := [.string x.t, .int .i64 x.n]
theorem yiW (x : PFound) : (yiM x).length = 5 := rfl
theorem yiX (x : PPart) : (yjW x).length = 2 := rfl
def PRep.cs (r : PRep) (f p : Sl) : List Value := [.int .i64 r.e, .int .i64 r.off, .int .i64 r.n, .int .i64 r.gen, .slice f.a f.n f.c, .slice p.a p.n p.c]
def PRep.v (r : PRep) (f p : Sl) : Value := .agg #[.int .i64 r.e, .int .i64 r.off, .int .i64 r.n, .int .i64 r.gen, .slice f.a f.n f.c, .slice p.a p.n p.c]
structure RepAt (w : World) (r : PRep) (f p : Sl) : Prop where
 found : yb3 w 5 yiM f.a f.n r.found
 parts : yb3 w 2 yjW p.a p.n r.parts
 lf : r.found.length ≤ 1000000
 lp : r.parts.length ≤ 1000000
structure RepOwn (w : World) (base : Nat) (r : PRep) (f p : Sl) : Prop where
 found : Row w base 55 5 yiM f.a f.n f.c r.found
 parts : Row w base 43 2 yjW p.a p.n p.c r.parts
 lf : r.found.length ≤ 1000000
 lp : r.parts.length ≤ 1000000
theorem RepOwn.at {w : World} {base : Nat} {r : PRep} {f p : Sl} (h : RepOwn w base r f p) : RepAt w r f p := ⟨h.found.sl yiW, h.parts.sl yiX, h.lf, h.lp⟩
theorem RepAt.keep0 {w w' : World} {r : PRep} {f p : Sl} (h : RepAt w r f p) (M : Mod [] w w') : RepAt w' r f p := ⟨h.found.keep0 M, h.parts.keep0 M, h.lf, h.lp⟩
structure RepAtW (w : World) (r : PRep) (f p : Sl) : Prop where
 found : yb3 w 5 yiM f.a f.n r.found
 parts : yb3 w 2 yjW p.a p.n r.parts
 lf : r.found.length ≤ 9223372036854775807
 lp : r.parts.length ≤ 9223372036854775807
theorem RepAtW.keep0 {w w' : World} {r : PRep} {f p : Sl} (h : RepAtW w r f p) (M : Mod [] w w') : RepAtW w' r f p := ⟨h.found.keep0 M, h.parts.keep0 M, h.lf, h.lp⟩
theorem RepAt.wide {w : World} {r : PRep} {f p : Sl} (h : RepAt w r f p) : RepAtW w r f p := ⟨h.found, h.parts, by have := h.lf; omega, by have := h.lp; omega⟩
theorem RepOwn.keep0 {w w' : World} {base : Nat} {r : PRep} {f p : Sl} (h : RepOwn w base r f p) (M : Mod [] w w') : RepOwn w' base r f p := ⟨h.found.keep0 M, h.parts.keep0 M, h.lf, h.lp⟩
theorem RepOwn.rebase {w : World} {base base' : Nat} {r : PRep} {f p : Sl} (h : RepOwn w base r f p) (hb : base' ≤ base) : RepOwn w base' r f p := ⟨h.found.rebase hb, h.parts.rebase hb, h.lf, h.lp⟩
theorem neF (x y : PFound) (o1 o2 : Operand) (w : World) : Sem.run pP (do eqGuard .neq 55 o1 o2 x.v y.v; Go.binOp .neq 55 x.v y.v) w = .ok (.bool (decide (x ≠ y))) w := by
 obtain ⟨a, b, c, d, e⟩ := x
 obtain ⟨a', b', c', d', e'⟩ := y
 simp [go_sem, Sem.run_bind, PFound.v]
 by_cases h1 : a = a' <;> by_cases h2 : b = b' <;> by_cases h3 : c = c' <;> by_cases h4 : d = d' <;> by_cases h5 : e = e' <;> simp [h1, h2, h3, h4, h5, ydM]
theorem neP (x y : PPart) (o1 o2 : Operand) (w : World) : Sem.run pP (do eqGuard .neq 43 o1 o2 x.v y.v; Go.binOp .neq 43 x.v y.v) w = .ok (.bool (decide (x ≠ y))) w := by
 obtain ⟨a, b⟩ := x
 obtain ⟨a', b'⟩ := y
 simp [go_sem, Sem.run_bind, PPart.v]
 by_cases h1 : a = a' <;> by_cases h2 : b = b' <;> simp [h1, h2, ydM]
section
set_option maxRecDepth 100000
variable {R : VWP} {w w0 : World} {m : Nat} {i0 i1 i2 i3 i4 i5 i6 i7 i8 i9 j0 j1 j2 j3 j4 j5 j6 j7 j8 j9 k0 k1 k2 k3 k4 k5 k6 k7 k8 k9 l0 l1 l2 l3 l4 l5 l6 l7 l8 l9 : Int} {s0 s1 s2 s3 s4 s5 s6 s7 s8 s9 t0 t1 t2 t3 t4 t5 t6 t7 t8 t9 : BA} {n0 n1 n2 n3 n4 n5 n6 n7 n8 n9 o0 o1 o2 o3 o4 o5 o6 o7 o8 o9 p0 p1 p2 p3 p4 p5 p6 p7 p8 p9 : Nat} {q0 q1 q2 q3 q4 q5 q6 q7 q8 q9 r0 r1 r2 r3 r4 r5 r6 r7 r8 r9 : OA} {B0 B1 B2 B3 B4 B5 B6 B7 B8 B9 : Bool} {M0 M1 M2 M3 : Option Nat} {V0 V1 V2 V3 V4 V5 : Value} {A0 A1 A2 : Addr}
abbrev hpC (w : World) (b : Nat) (c : Array Value) (T : TypeId) : Prop := w.heap[b]? = some (.cells c T)
abbrev Z0 (x0 x1 x2 x3 x4 x5 x6 x7 x8 x9 : Int) (x10 : OA) (x11 x12 : Nat) (x13 x14 x15 x16 : Int) (x17 : OA) (x18 x19 : Nat) (x20 : OA) (x21 x22 : Nat) : Array Value := #[.int .i64 x0, .int .i64 x1, .int .i64 x2, .int .i64 x3, .int .i64 x4, .int .i64 x5, .int .i64 x6, .int .i64 x7, .int .i64 x8, .int .i64 x9, .slice x10 x11 x12, .int .i64 x13, .int .i64 x14, .int .i64 x15, .int .i64 x16, .slice x17 x18 x19, .slice x20 x21 x22]
abbrev Z1 (x0 : Int) (x1 : BA) (x2 x3 x4 x5 x6 x7 : Int) (x8 : OA) (x9 x10 : Nat) (x11 x12 : BA) (x13 : Int) (x14 : Bool) (x15 : OA) (x16 x17 : Nat) : Array Value := #[.int .i64 x0, .string x1, .int .i64 x2, .int .i64 x3, .int .i64 x4, .int .i64 x5, .int .i64 x6, .int .i64 x7, .slice x8 x9 x10, .string x11, .string x12, .int .i64 x13, .bool x14, .slice x15 x16 x17]
abbrev Z2 (x0 : BA) (x1 x2 : Int) : Array Value := #[.string x0, .int .i64 x1, .int .i64 x2]
abbrev Z3 (x0 x1 x2 x3 : Int) (x4 : OA) (x5 x6 : Nat) (x7 : OA) (x8 x9 : Nat) : Array Value := #[.int .i64 x0, .int .i64 x1, .int .i64 x2, .int .i64 x3, .slice x4 x5 x6, .slice x7 x8 x9]
abbrev Z4 (x0 x1 x2 x3 x4 x5 x6 x7 x8 x9 : OA) : Array Value := #[.pointer x0, .pointer x1, .pointer x2, .pointer x3, .pointer x4, .pointer x5, .pointer x6, .pointer x7, .pointer x8, .pointer x9]
abbrev Z5 (x0 x1 x2 : Int) (x3 : BA) (x4 x5 x6 x7 x8 x9 : Int) (x10 : OA) (x11 x12 : Nat) (x13 x14 : BA) (x15 : Int) (x16 : Bool) (x17 : OA) (x18 x19 : Nat) : Array Value := #[.int .i64 x0, .int .i64 x1, .int .i64 x2, .string x3, .int .i64 x4, .int .i64 x5, .int .i64 x6, .int .i64 x7, .int .i64 x8, .int .i64 x9, .slice x10 x11 x12, .string x13, .string x14, .int .i64 x15, .bool x16, .slice x17 x18 x19]
abbrev Z6 (x0 : Int) (x1 : Bool) (x2 : BA) (x3 : Bool) (x4 : BA) : Array Value := #[.int .i64 x0, .bool x1, .string x2, .bool x3, .string x4]
abbrev Z7 (x0 : Bool) (x1 : BA) (x2 : Bool) (x3 : BA) : Array Value := #[.bool x0, .string x1, .bool x2, .string x3]
abbrev Z8 (x0 x1 x2 : Int) (x3 : OA) (x4 x5 : Nat) : Array Value := #[.int .i64 x0, .int .i64 x1, .int .i64 x2, .slice x3 x4 x5]
abbrev Z9 (x0 x1 x2 x3 : Int) : Array Value := #[.int .i64 x0, .int .i64 x1, .int .i64 x2, .int .i64 x3]
abbrev Z10 (x0 : OA) (x1 x2 : Int) : Array Value := #[.pointer x0, .int .i64 x1, .int .i64 x2]
theorem yJZ (h :
 brB (decide (i0 ≥ 0)) (
 R (.bool (decide (i0 ≤ 1099511627776))) w)
 (
 R (.bool false) w)) :
 CR pP 94 #[.int .i64 i0] w R :=
 yaA Tryz.wide_mixed (an := []) Tryz.func94 rfl rfl (by kernel_rfl) rfl (Eq.mpr (by kernel_rfl) h)
theorem yJ0 (h :
 ∀ b1, w.heap.size ≤ b1 →
 brB (!B0) (
 brB (!(s0.toList == (⟨#[]⟩ : BA).toList)) (
 brB (!(s0.toList == (⟨#[]⟩ : BA).toList)) (
 ∀ w2, Adv [] [b1] w w2 →
 R (.int .i64 30) w2)
 (
 brB (decide ((s0.size : Int) > 64)) (
 brB (decide ((s0.size : Int) > 64)) (
 ∀ w3, Adv [] [b1] w w3 →
 R (.int .i64 2) w3)
 (
 ∀ w4, Adv [] [b1] w w4 →
 R (.int .i64 0) w4))
 (
 brB (decide ((s1.size : Int) > 512)) (
 ∀ w5, Adv [] [b1] w w5 →
 R (.int .i64 2) w5)
 (
 ∀ w6, Adv [] [b1] w w6 →
 R (.int .i64 0) w6))))
 (
 brB B1 (
 brB (!B0) (
 ∀ w7, Adv [] [b1] w w7 →
 R (.int .i64 30) w7)
 (
 brB (!(s1.toList == (⟨#[]⟩ : BA).toList)) (
 ∀ w8, Adv [] [b1] w w8 →
 R (.int .i64 30) w8)
 (
 brB (decide ((s0.size : Int) > 64)) (
 brB (decide ((s0.size : Int) > 64)) (
 ∀ w9, Adv [] [b1] w w9 →
 R (.int .i64 2) w9)
 (
 ∀ a4, Adv [] [b1] w a4 →
 R (.int .i64 0) a4))
 (
 brB (decide ((s1.size : Int) > 512)) (
 ∀ a5, Adv [] [b1] w a5 →
 R (.int .i64 2) a5)
 (
 ∀ a6, Adv [] [b1] w a6 →
 R (.int .i64 0) a6)))))
 (
 brB (decide ((s0.size : Int) > 64)) (
 brB (decide ((s0.size : Int) > 64)) (
 ∀ a7, Adv [] [b1] w a7 →
 R (.int .i64 2) a7)
 (
 ∀ a8, Adv [] [b1] w a8 →
 R (.int .i64 0) a8))
 (
 brB (decide ((s1.size : Int) > 512)) (
 ∀ a9, Adv [] [b1] w a9 →
 R (.int .i64 2) a9)
 (
 ∀ b0, Adv [] [b1] w b0 →
 R (.int .i64 0) b0)))))
 (
 brB B1 (
 brB (!B0) (
 ∀ b2, Adv [] [b1] w b2 →
 R (.int .i64 30) b2)
 (
 brB (!(s1.toList == (⟨#[]⟩ : BA).toList)) (
 ∀ b3, Adv [] [b1] w b3 →
 R (.int .i64 30) b3)
 (
 brB (decide ((s0.size : Int) > 64)) (
 brB (decide ((s0.size : Int) > 64)) (
 ∀ b4, Adv [] [b1] w b4 →
 R (.int .i64 2) b4)
 (
 ∀ b5, Adv [] [b1] w b5 →
 R (.int .i64 0) b5))
 (
 brB (decide ((s1.size : Int) > 512)) (
 ∀ b6, Adv [] [b1] w b6 →
 R (.int .i64 2) b6)
 (
 ∀ b7, Adv [] [b1] w b7 →
 R (.int .i64 0) b7)))))
 (
 brB (decide ((s0.size : Int) > 64)) (
 brB (decide ((s0.size : Int) > 64)) (
 ∀ b8, Adv [] [b1] w b8 →
 R (.int .i64 2) b8)
 (
 ∀ b9, Adv [] [b1] w b9 →
 R (.int .i64 0) b9))
 (
 brB (decide ((s1.size : Int) > 512)) (
 ∀ c0, Adv [] [b1] w c0 →
 R (.int .i64 2) c0)
 (
 ∀ c1, Adv [] [b1] w c1 →
 R (.int .i64 0) c1))))) :
 CR pP 95 #[(.agg (Z7 B0 s0 B1 s1))] w R :=
 yaA Tryz.wide_mixed (an := []) Tryz.func95 rfl rfl (by kernel_rfl) rfl (Eq.mpr (by kernel_rfl) h)
theorem yJ1 (h :
 ∀ b1, w.heap.size ≤ b1 →
 brB B1 (
 ∀ w2, Adv [] [b1] w w2 →
 R (.int .u8 (IntKind.wrap .u8 ((IntKind.wrap .u8 (0 + 2)) + 1))) w2)
 (
 brB B0 (
 ∀ w3, Adv [] [b1] w w3 →
 R (.int .u8 (IntKind.wrap .u8 (0 + 1))) w3)
 (
 ∀ w4, Adv [] [b1] w w4 →
 R (.int .u8 0) w4))) :
 CR pP 121 #[(.agg (Z7 B0 s0 B1 s1))] w R :=
 yaA Tryz.wide_mixed (an := []) Tryz.func121 rfl rfl (by kernel_rfl) rfl (Eq.mpr (by kernel_rfl) h)
theorem yJ2 (h :
 brB (decide (i0 ≥ 0)) (
 R (.bool (decide (i0 ≤ 1099511627776))) w)
 (
 R (.bool false) w)) :
 CR pP 36 #[.int .i64 i0] w R :=
 yaA Tryz.wide_mixed (an := []) Tryz.func36 rfl rfl (by kernel_rfl) rfl (Eq.mpr (by kernel_rfl) h)
theorem yJ3 (h :
 ∀ b1, w.heap.size ≤ b1 →
 brB (!B0) (
 brB (decide ((s0.size : Int) > 0)) (
 ∀ w2, Adv [] [b1] w w2 →
 R (.int .i64 30) w2)
 (
 brB B1 (
 brB (!B0) (
 ∀ w3, Adv [] [b1] w w3 →
 R (.int .i64 30) w3)
 (
 brB B1 (
 brB (decide ((s1.size : Int) > 0)) (
 ∀ w4, Adv [] [b1] w w4 →
 R (.int .i64 30) w4)
 (
 brB (decide ((s0.size : Int) > 64)) (
 ∀ w5, Adv [] [b1] w w5 →
 R (.int .i64 2) w5)
 (
 brB (decide ((s1.size : Int) > 512)) (
 ∀ w6, Adv [] [b1] w w6 →
 R (.int .i64 2) w6)
 (
 ∀ w7, Adv [] [b1] w w7 →
 R (.int .i64 0) w7))))
 (
 brB (decide ((s0.size : Int) > 64)) (
 ∀ w8, Adv [] [b1] w w8 →
 R (.int .i64 2) w8)
 (
 brB (decide ((s1.size : Int) > 512)) (
 ∀ w9, Adv [] [b1] w w9 →
 R (.int .i64 2) w9)
 (
 ∀ a4, Adv [] [b1] w a4 →
 R (.int .i64 0) a4)))))
 (
 brB B1 (
 brB (decide ((s1.size : Int) > 0)) (
 ∀ a5, Adv [] [b1] w a5 →
 R (.int .i64 30) a5)
 (
 brB (decide ((s0.size : Int) > 64)) (
 ∀ a6, Adv [] [b1] w a6 →
 R (.int .i64 2) a6)
 (
 brB (decide ((s1.size : Int) > 512)) (
 ∀ a7, Adv [] [b1] w a7 →
 R (.int .i64 2) a7)
 (
 ∀ a8, Adv [] [b1] w a8 →
 R (.int .i64 0) a8))))
 (
 brB (decide ((s0.size : Int) > 64)) (
 ∀ a9, Adv [] [b1] w a9 →
 R (.int .i64 2) a9)
 (
 brB (decide ((s1.size : Int) > 512)) (
 ∀ b0, Adv [] [b1] w b0 →
 R (.int .i64 2) b0)
 (
 ∀ b2, Adv [] [b1] w b2 →
 R (.int .i64 0) b2))))))
 (
 brB B1 (
 brB (!B0) (
 ∀ b3, Adv [] [b1] w b3 →
 R (.int .i64 30) b3)
 (
 brB B1 (
 brB (decide ((s1.size : Int) > 0)) (
 ∀ b4, Adv [] [b1] w b4 →
 R (.int .i64 30) b4)
 (
 brB (decide ((s0.size : Int) > 64)) (
 ∀ b5, Adv [] [b1] w b5 →
 R (.int .i64 2) b5)
 (
 brB (decide ((s1.size : Int) > 512)) (
 ∀ b6, Adv [] [b1] w b6 →
 R (.int .i64 2) b6)
 (
 ∀ b7, Adv [] [b1] w b7 →
 R (.int .i64 0) b7))))
 (
 brB (decide ((s0.size : Int) > 64)) (
 ∀ b8, Adv [] [b1] w b8 →
 R (.int .i64 2) b8)
 (
 brB (decide ((s1.size : Int) > 512)) (
 ∀ b9, Adv [] [b1] w b9 →
 R (.int .i64 2) b9)
 (
 ∀ c0, Adv [] [b1] w c0 →
 R (.int .i64 0) c0)))))
 (
 brB B1 (
 brB (decide ((s1.size : Int) > 0)) (
 ∀ c1, Adv [] [b1] w c1 →
 R (.int .i64 30) c1)
 (
 brB (decide ((s0.size : Int) > 64)) (
 ∀ c2, Adv [] [b1] w c2 →
 R (.int .i64 2) c2)
 (
 brB (decide ((s1.size : Int) > 512)) (
 ∀ c3, Adv [] [b1] w c3 →
 R (.int .i64 2) c3)
 (
 ∀ c4, Adv [] [b1] w c4 →
 R (.int .i64 0) c4))))
 (
 brB (decide ((s0.size : Int) > 64)) (
 ∀ c5, Adv [] [b1] w c5 →
 R (.int .i64 2) c5)
 (
 brB (decide ((s1.size : Int) > 512)) (
 ∀ c6, Adv [] [b1] w c6 →
 R (.int .i64 2) c6)
 (
 ∀ c7, Adv [] [b1] w c7 →
 R (.int .i64 0) c7)))))) :
 CR pP 103 #[(.agg (Z7 B0 s0 B1 s1))] w R :=
 yaA Tryz.wide_mixed (an := []) Tryz.func103 rfl rfl (by kernel_rfl) rfl (Eq.mpr (by kernel_rfl) h)
def yyI : LA := ⟨[0, 0, 1, 0, 1, 1], [0, 3], [], 0, []⟩
def yCg : List LA := [yyI]
abbrev yKq := dnF pP yCg (code Tryz.f104)
abbrev yLz := yaO pP yCg (code Tryz.f104)
abbrev yKr (p : List Nat) (K : List Kh) (R : VWP) := yaO pP yCg (code Tryz.f104) p K (ya4 pP Tryz.f104 [] R)
def yiN (a0 : BA) : Int → List Value × List TB := fun a1 => ([.string a0, .int .i64 a1], [])
abbrev ypV (a0 : BA) (I : Nat → Int → World → Prop) (m : Nat) : Kh := KG (yiN a0) (U1 I) m
theorem yCh {I : Nat → Int → World → Prop} (m' : Nat) (h1 : m' < m) (h2 : I m' i0 w) : KS (ypV s0 I m) (yiN s0 i0) w := ⟨m', h1, _, rfl, rfl, h2⟩
theorem yCi (I : Nat → Int → World → Prop) (m0 : Nat) (h0 : I m0 i0 w0)
 (hr : ∀ m a1 w, I m a1 w →
 brB (decide (a1 < (s0.size : Int))) (
 ixS s0 a1 fun x1 =>
 brB (decide (x1 ≥ 97)) (
 brB (decide (x1 ≤ 122)) (
 KS (ypV s0 I m) (yiN s0 (IntKind.wrap .i64 (a1 + 1))) w)
 (
 brB (decide (x1 ≥ 48)) (
 brB (decide (x1 ≤ 57)) (
 KS (ypV s0 I m) (yiN s0 (IntKind.wrap .i64 (a1 + 1))) w)
 (
 brB (!(x1 == 45)) (
 R (.bool false) w)
 (
 KS (ypV s0 I m) (yiN s0 (IntKind.wrap .i64 (a1 + 1))) w)))
 (
 brB (!(x1 == 45)) (
 R (.bool false) w)
 (
 KS (ypV s0 I m) (yiN s0 (IntKind.wrap .i64 (a1 + 1))) w))))
 (
 brB (decide (x1 ≥ 48)) (
 brB (decide (x1 ≤ 57)) (
 KS (ypV s0 I m) (yiN s0 (IntKind.wrap .i64 (a1 + 1))) w)
 (
 brB (!(x1 == 45)) (
 R (.bool false) w)
 (
 KS (ypV s0 I m) (yiN s0 (IntKind.wrap .i64 (a1 + 1))) w)))
 (
 brB (!(x1 == 45)) (
 R (.bool false) w)
 (
 KS (ypV s0 I m) (yiN s0 (IntKind.wrap .i64 (a1 + 1))) w))))
 (
 R (.bool true) w)) :
 yaK yyI (yKq 396 [0, 0, 1, 0, 1, 1]) (yKr [1, 1, 0, 1, 0] [] R) (yiN s0 i0) w0 :=
 lrule (yiN s0) (U1 I) h0 (by rintro m a1 w h; exact ⟨by kernel_rfl, by kernel_rfl, fun js => Eq.mpr (by kernel_rfl) (hr m a1 w h)⟩)
theorem yJ4 (h :
 brB (decide ((s0.size : Int) < 1)) (
 R (.bool false) w)
 (
 brB (decide ((s0.size : Int) > 16)) (
 R (.bool false) w)
 (
 yaK yyI (yKq 396 [0, 0, 1, 0, 1, 1]) (yKr [1, 1, 0, 1, 0] [] R) (yiN s0 0) w))) :
 CR pP 104 #[.string s0] w R :=
 yaA Tryz.wide_mixed (an := yCg) Tryz.func104 rfl rfl (by kernel_rfl) rfl (Eq.mpr (by kernel_rfl) h)
def yyJ : LA := ⟨[0, 0, 1, 0, 1, 1], [0, 1, 5], [], 0, []⟩
def yCj : List LA := [yyJ]
abbrev yKs := dnF pP yCj (code Tryz.f76)
abbrev yLA := yaO pP yCj (code Tryz.f76)
abbrev yKt (p : List Nat) (K : List Kh) (R : VWP) := yaO pP yCj (code Tryz.f76) p K (ya4 pP Tryz.f76 [] R)
def yvN (a0 : OA) (a4 a2 : Nat) (a1 : OA) (a5 a3 : Nat) : Int → List Value × List TB := fun a6 => ([.slice a0 a4 a2, .slice a1 a5 a3, .int .i64 a6], [])
abbrev yGR (a0 : OA) (a4 a2 : Nat) (a1 : OA) (a5 a3 : Nat) (I : Nat → Int → World → Prop) (m : Nat) : Kh := KG (yvN a0 a4 a2 a1 a5 a3) (U1 I) m
theorem yCk {I : Nat → Int → World → Prop} (m' : Nat) (h1 : m' < m) (h2 : I m' i0 w) : KS (yGR q0 n0 n1 q1 n2 n3 I m) (yvN q0 n0 n1 q1 n2 n3 i0) w := ⟨m', h1, _, rfl, rfl, h2⟩
theorem yCl {a2 : OA} {a3 : OA} (I : Nat → Int → World → Prop) (m0 : Nat) (h0 : I m0 i0 w0)
 (hr : ∀ m a0 w, I m a0 w →
 brB (decide (a0 < (n0 : Int))) (
 ixA a2 n0 a0 5 fun q1 =>
 yaI .i64 w q1 fun x2 => yaT w (Addr.add q1 1) fun t3 => yaQ w (Addr.add q1 2) fun s4 => yaT w (Addr.add q1 3) fun t5 => yaQ w (Addr.add q1 4) fun s6 =>
 ixA a3 n2 a0 5 fun q7 =>
 yaI .i64 w q7 fun x8 => yaT w (Addr.add q7 1) fun t9 => yaQ w (Addr.add q7 2) fun a8 => yaT w (Addr.add q7 3) fun b0 => yaQ w (Addr.add q7 4) fun a9 =>
 ∃ b1, (∀ w', Mod [] w w' → Sem.run pP (do eqGuard .neq 55 (.tmp 20) (.tmp 24) (.agg (Z6 x2 t3 s4 t5 s6)) (.agg (Z6 x8 t9 a8 b0 a9)); Go.binOp .neq 55 (.agg (Z6 x2 t3 s4 t5 s6)) (.agg (Z6 x8 t9 a8 b0 a9))) w' = .ok (.bool b1) w') ∧
 brB b1 (
 ∀ b2, Adv [] [] w b2 →
 R (.bool false) b2)
 (
 ∀ b3, Adv [] [] w b3 →
 KS (yGR a2 n0 n1 a3 n2 n3 I m) (yvN a2 n0 n1 a3 n2 n3 (IntKind.wrap .i64 (a0 + 1))) b3))
 (
 R (.bool true) w)) :
 yaK yyJ (yKs 396 [0, 0, 1, 0, 1, 1]) (yKt [1, 1, 0, 1, 0] [] R) (yvN a2 n0 n1 a3 n2 n3 i0) w0 :=
 lrule (yvN a2 n0 n1 a3 n2 n3) (U1 I) h0 (by rintro m a0 w h; exact ⟨by kernel_rfl, by kernel_rfl, fun js => Eq.mpr (by kernel_rfl) (hr m a0 w h)⟩)
theorem yJ5 (h :
 brB ((n0 : Int) != (n2 : Int)) (
 R (.bool false) w)
 (
 yaK yyJ (yKs 396 [0, 0, 1, 0, 1, 1]) (yKt [1, 1, 0, 1, 0] [] R) (yvN q0 n0 n1 q1 n2 n3 0) w)) :
 CR pP 76 #[.slice q0 n0 n1, .slice q1 n2 n3] w R :=
 yaA Tryz.wide_mixed (an := yCj) Tryz.func76 rfl rfl (by kernel_rfl) rfl (Eq.mpr (by kernel_rfl) h)
def yyK : LA := ⟨[0, 0, 1, 0, 1, 1], [0, 1, 5], [], 0, []⟩
def yCm : List LA := [yyK]
abbrev yKu := dnF pP yCm (code Tryz.f77)
abbrev yLB := yaO pP yCm (code Tryz.f77)
abbrev yKv (p : List Nat) (K : List Kh) (R : VWP) := yaO pP yCm (code Tryz.f77) p K (ya4 pP Tryz.f77 [] R)
def yvO (a0 : OA) (a4 a2 : Nat) (a1 : OA) (a5 a3 : Nat) : Int → List Value × List TB := fun a6 => ([.slice a0 a4 a2, .slice a1 a5 a3, .int .i64 a6], [])
abbrev yGS (a0 : OA) (a4 a2 : Nat) (a1 : OA) (a5 a3 : Nat) (I : Nat → Int → World → Prop) (m : Nat) : Kh := KG (yvO a0 a4 a2 a1 a5 a3) (U1 I) m
theorem yCn {I : Nat → Int → World → Prop} (m' : Nat) (h1 : m' < m) (h2 : I m' i0 w) : KS (yGS q0 n0 n1 q1 n2 n3 I m) (yvO q0 n0 n1 q1 n2 n3 i0) w := ⟨m', h1, _, rfl, rfl, h2⟩
theorem yCo {a2 : OA} {a3 : OA} (I : Nat → Int → World → Prop) (m0 : Nat) (h0 : I m0 i0 w0)
 (hr : ∀ m a0 w, I m a0 w →
 brB (decide (a0 < (n0 : Int))) (
 ixA a2 n0 a0 2 fun q1 =>
 yaQ w q1 fun s2 => yaI .i64 w (Addr.add q1 1) fun x3 =>
 ixA a3 n2 a0 2 fun q4 =>
 yaQ w q4 fun s5 => yaI .i64 w (Addr.add q4 1) fun x6 =>
 ∃ t7, (∀ w', Mod [] w w' → Sem.run pP (do eqGuard .neq 43 (.tmp 20) (.tmp 24) (.agg #[.string s2, .int .i64 x3]) (.agg #[.string s5, .int .i64 x6]); Go.binOp .neq 43 (.agg #[.string s2, .int .i64 x3]) (.agg #[.string s5, .int .i64 x6])) w' = .ok (.bool t7) w') ∧
 brB t7 (
 ∀ w8, Adv [] [] w w8 →
 R (.bool false) w8)
 (
 ∀ w9, Adv [] [] w w9 →
 KS (yGS a2 n0 n1 a3 n2 n3 I m) (yvO a2 n0 n1 a3 n2 n3 (IntKind.wrap .i64 (a0 + 1))) w9))
 (
 R (.bool true) w)) :
 yaK yyK (yKu 396 [0, 0, 1, 0, 1, 1]) (yKv [1, 1, 0, 1, 0] [] R) (yvO a2 n0 n1 a3 n2 n3 i0) w0 :=
 lrule (yvO a2 n0 n1 a3 n2 n3) (U1 I) h0 (by rintro m a0 w h; exact ⟨by kernel_rfl, by kernel_rfl, fun js => Eq.mpr (by kernel_rfl) (hr m a0 w h)⟩)
theorem yJ6 (h :
 brB ((n0 : Int) != (n2 : Int)) (
 R (.bool false) w)
 (
 yaK yyK (yKu 396 [0, 0, 1, 0, 1, 1]) (yKv [1, 1, 0, 1, 0] [] R) (yvO q0 n0 n1 q1 n2 n3 0) w)) :
 CR pP 77 #[.slice q0 n0 n1, .slice q1 n2 n3] w R :=
 yaA Tryz.wide_mixed (an := yCm) Tryz.func77 rfl rfl (by kernel_rfl) rfl (Eq.mpr (by kernel_rfl) h)
theorem yJ7 (h :
 ∀ b1, w.heap.size ≤ b1 →
 ∀ b2, w.heap.size ≤ b2 →
 brB (i0 == i4) (
 brB (i1 == i5) (
 brB (i2 == i6) (
 brB (i3 == i7) (
 ∀ w3, Adv [] [b2, b1] w w3 →
 Calls pP 76 #[.slice q0 n0 n1, .slice q2 n4 n5] w3 fun e w4 => ∃ t5, e = .returned (.bool t5) ∧ yaE [b1, b2] w3 w4 ∧
 brB t5 (
 Calls pP 77 #[.slice q1 n2 n3, .slice q3 n6 n7] w4 fun e w6 => ∃ t7, e = .returned (.bool t7) ∧ yaE [b1, b2] w4 w6 ∧
 R (.bool t7) w6)
 (
 R (.bool false) w4))
 (
 ∀ w8, Adv [] [b2, b1] w w8 →
 R (.bool false) w8))
 (
 ∀ w9, Adv [] [b2, b1] w w9 →
 R (.bool false) w9))
 (
 ∀ c2, Adv [] [b2, b1] w c2 →
 R (.bool false) c2))
 (
 ∀ c3, Adv [] [b2, b1] w c3 →
 R (.bool false) c3)) :
 CR pP 40 #[(.agg (Z3 i0 i1 i2 i3 q0 n0 n1 q1 n2 n3)), (.agg (Z3 i4 i5 i6 i7 q2 n4 n5 q3 n6 n7))] w R :=
 yaA Tryz.wide_mixed (an := []) Tryz.func40 rfl rfl (by kernel_rfl) rfl (Eq.mpr (by kernel_rfl) h)
def yyL : LA := ⟨[0, 0, 1, 0, 1, 1], [0, 1, 12, 13], [], 0, []⟩
def yCp : List LA := [yyL]
abbrev yKw := dnF pP yCp (code Tryz.f73)
abbrev yLC := yaO pP yCp (code Tryz.f73)
abbrev yKx (p : List Nat) (K : List Kh) (R : VWP) := yaO pP yCp (code Tryz.f73) p K (ya4 pP Tryz.f73 [] R)
def yvP (a2 : OA) (a6 a4 : Nat) (a3 : OA) (a7 a5 : Nat) (a0 : Int) : Int → List Value × List TB := fun a1 => ([.slice a2 a6 a4, .slice a3 a7 a5, .int .i64 a0, .int .i64 a1], [])
abbrev yGT (a1 : OA) (a5 a3 : Nat) (a2 : OA) (a6 a4 : Nat) (a0 : Int) (I : Nat → Int → World → Prop) (m : Nat) : Kh := KG (yvP a1 a5 a3 a2 a6 a4 a0) (U1 I) m
theorem yCq {I : Nat → Int → World → Prop} (m' : Nat) (h1 : m' < m) (h2 : I m' i1 w) : KS (yGT q0 n0 n1 q1 n2 n3 i0 I m) (yvP q0 n0 n1 q1 n2 n3 i0 i1) w := ⟨m', h1, _, rfl, rfl, h2⟩
theorem yCr {a2 : OA} {a3 : OA} (I : Nat → Int → World → Prop) (m0 : Nat) (h0 : I m0 i1 w0)
 (hr : ∀ m a0 w, I m a0 w →
 brB (decide (a0 < i0)) (
 ixA a2 n0 a0 5 fun q1 =>
 yaI .i64 w q1 fun x2 => yaT w (Addr.add q1 1) fun t3 => yaQ w (Addr.add q1 2) fun s4 => yaT w (Addr.add q1 3) fun t5 => yaQ w (Addr.add q1 4) fun s6 =>
 ixA a3 n2 a0 5 fun q7 =>
 yaI .i64 w q7 fun x8 => yaT w (Addr.add q7 1) fun t9 => yaQ w (Addr.add q7 2) fun a9 => yaT w (Addr.add q7 3) fun b1 => yaQ w (Addr.add q7 4) fun b0 =>
 ∃ b2, (∀ w', Mod [] w w' → Sem.run pP (do eqGuard .neq 55 (.tmp 19) (.tmp 23) (.agg (Z6 x2 t3 s4 t5 s6)) (.agg (Z6 x8 t9 a9 b1 b0)); Go.binOp .neq 55 (.agg (Z6 x2 t3 s4 t5 s6)) (.agg (Z6 x8 t9 a9 b1 b0))) w' = .ok (.bool b2) w') ∧
 brB b2 (
 ∀ b3, Adv [] [] w b3 →
 R (.bool false) b3)
 (
 ∀ b4, Adv [] [] w b4 →
 KS (yGT a2 n0 n1 a3 n2 n3 i0 I m) (yvP a2 n0 n1 a3 n2 n3 i0 (IntKind.wrap .i64 (a0 + 1))) b4))
 (
 R (.bool true) w)) :
 yaK yyL (yKw 396 [0, 0, 1, 0, 1, 1]) (yKx [1, 1, 0, 1, 0] [] R) (yvP a2 n0 n1 a3 n2 n3 i0 i1) w0 :=
 lrule (yvP a2 n0 n1 a3 n2 n3 i0) (U1 I) h0 (by rintro m a0 w h; exact ⟨by kernel_rfl, by kernel_rfl, fun js => Eq.mpr (by kernel_rfl) (hr m a0 w h)⟩)
theorem yJ8 (h :
 brB ((n0 : Int) != (n2 : Int)) (
 R (.bool false) w)
 (
 yaK yyL (yKw 396 [0, 0, 1, 0, 1, 1]) (yKx [1, 1, 0, 1, 0] [] R) (yvP q0 n0 n1 q1 n2 n3 (n0 : Int) 0) w)) :
 CR pP 73 #[.slice q0 n0 n1, .slice q1 n2 n3] w R :=
 yaA Tryz.wide_mixed (an := yCp) Tryz.func73 rfl rfl (by kernel_rfl) rfl (Eq.mpr (by kernel_rfl) h)
def yrD : LA := ⟨[0, 0, 1, 0, 1, 1], [0, 1, 12, 13], [], 0, []⟩
def ys8 : List LA := [yrD]
abbrev yGU := dnF pP ys8 (code Tryz.f74)
abbrev yKW := yaO pP ys8 (code Tryz.f74)
abbrev yGV (p : List Nat) (K : List Kh) (R : VWP) := yaO pP ys8 (code Tryz.f74) p K (ya4 pP Tryz.f74 [] R)
def yk8 (a2 : OA) (a6 a4 : Nat) (a3 : OA) (a7 a5 : Nat) (a0 : Int) : Int → List Value × List TB := fun a1 => ([.slice a2 a6 a4, .slice a3 a7 a5, .int .i64 a0, .int .i64 a1], [])
abbrev yDs (a1 : OA) (a5 a3 : Nat) (a2 : OA) (a6 a4 : Nat) (a0 : Int) (I : Nat → Int → World → Prop) (m : Nat) : Kh := KG (yk8 a1 a5 a3 a2 a6 a4 a0) (U1 I) m
theorem yyM {I : Nat → Int → World → Prop} (m' : Nat) (h1 : m' < m) (h2 : I m' i1 w) : KS (yDs q0 n0 n1 q1 n2 n3 i0 I m) (yk8 q0 n0 n1 q1 n2 n3 i0 i1) w := ⟨m', h1, _, rfl, rfl, h2⟩
theorem yyN {a2 : OA} {a3 : OA} (I : Nat → Int → World → Prop) (m0 : Nat) (h0 : I m0 i1 w0)
 (hr : ∀ m a0 w, I m a0 w →
 brB (decide (a0 < i0)) (
 ixA a2 n0 a0 2 fun q1 =>
 yaQ w q1 fun s2 => yaI .i64 w (Addr.add q1 1) fun x3 =>
 ixA a3 n2 a0 2 fun q4 =>
 yaQ w q4 fun s5 => yaI .i64 w (Addr.add q4 1) fun x6 =>
 ∃ t7, (∀ w', Mod [] w w' → Sem.run pP (do eqGuard .neq 43 (.tmp 19) (.tmp 23) (.agg #[.string s2, .int .i64 x3]) (.agg #[.string s5, .int .i64 x6]); Go.binOp .neq 43 (.agg #[.string s2, .int .i64 x3]) (.agg #[.string s5, .int .i64 x6])) w' = .ok (.bool t7) w') ∧
 brB t7 (
 ∀ w8, Adv [] [] w w8 →
 R (.bool false) w8)
 (
 ∀ w9, Adv [] [] w w9 →
 KS (yDs a2 n0 n1 a3 n2 n3 i0 I m) (yk8 a2 n0 n1 a3 n2 n3 i0 (IntKind.wrap .i64 (a0 + 1))) w9))
 (
 R (.bool true) w)) :
 yaK yrD (yGU 396 [0, 0, 1, 0, 1, 1]) (yGV [1, 1, 0, 1, 0] [] R) (yk8 a2 n0 n1 a3 n2 n3 i0 i1) w0 :=
 lrule (yk8 a2 n0 n1 a3 n2 n3 i0) (U1 I) h0 (by rintro m a0 w h; exact ⟨by kernel_rfl, by kernel_rfl, fun js => Eq.mpr (by kernel_rfl) (hr m a0 w h)⟩)
theorem yGW (h :
 brB ((n0 : Int) != (n2 : Int)) (
 R (.bool false) w)
 (
 yaK yrD (yGU 396 [0, 0, 1, 0, 1, 1]) (yGV [1, 1, 0, 1, 0] [] R) (yk8 q0 n0 n1 q1 n2 n3 (n0 : Int) 0) w)) :
 CR pP 74 #[.slice q0 n0 n1, .slice q1 n2 n3] w R :=
 yaA Tryz.wide_mixed (an := ys8) Tryz.func74 rfl rfl (by kernel_rfl) rfl (Eq.mpr (by kernel_rfl) h)
theorem yGX (h :
 ∀ b1, w.heap.size ≤ b1 →
 ∀ b2, w.heap.size ≤ b2 →
 brB (i0 == i4) (
 brB (i1 == i5) (
 brB (i2 == i6) (
 brB (i3 == i7) (
 ∀ w3, Adv [] [b2, b1] w w3 →
 Calls pP 73 #[.slice q0 n0 n1, .slice q2 n4 n5] w3 fun e w4 => ∃ t5, e = .returned (.bool t5) ∧ yaE [b1, b2] w3 w4 ∧
 brB t5 (
 Calls pP 74 #[.slice q1 n2 n3, .slice q3 n6 n7] w4 fun e w6 => ∃ t7, e = .returned (.bool t7) ∧ yaE [b1, b2] w4 w6 ∧
 R (.bool t7) w6)
 (
 R (.bool false) w4))
 (
 ∀ w8, Adv [] [b2, b1] w w8 →
 R (.bool false) w8))
 (
 ∀ w9, Adv [] [b2, b1] w w9 →
 R (.bool false) w9))
 (
 ∀ c2, Adv [] [b2, b1] w c2 →
 R (.bool false) c2))
 (
 ∀ c3, Adv [] [b2, b1] w c3 →
 R (.bool false) c3)) :
 CR pP 38 #[(.agg (Z3 i0 i1 i2 i3 q0 n0 n1 q1 n2 n3)), (.agg (Z3 i4 i5 i6 i7 q2 n4 n5 q3 n6 n7))] w R :=
 yaA Tryz.wide_mixed (an := []) Tryz.func38 rfl rfl (by kernel_rfl) rfl (Eq.mpr (by kernel_rfl) h)
theorem yGY {a2 a1 : Nat} (h :
 brB (Option.isNone q0) (
 R (.slice none 0 0) w)
 (
 al w (.cells #[] 55) fun b1 w2 =>
 yc6 pP (Builtin.append_ #[24, 24] 24 #[(.slice (some ⟨b1, 0, none⟩) 0 0), .slice q0 a2 a1]) w2 fun a4 n5 c6 w3 =>
 R (.slice a4 n5 c6) w3)) :
 CR pP 50 #[.slice q0 a2 a1] w R :=
 yaA Tryz.wide_mixed (an := []) Tryz.func50 rfl rfl (by kernel_rfl) rfl (Eq.mpr (by kernel_rfl) h)
theorem yGZ {a2 a1 : Nat} (h :
 brB (Option.isNone q0) (
 R (.slice none 0 0) w)
 (
 al w (.cells #[] 43) fun b1 w2 =>
 yc6 pP (Builtin.append_ #[25, 25] 25 #[(.slice (some ⟨b1, 0, none⟩) 0 0), .slice q0 a2 a1]) w2 fun a4 n5 c6 w3 =>
 R (.slice a4 n5 c6) w3)) :
 CR pP 51 #[.slice q0 a2 a1] w R :=
 yaA Tryz.wide_mixed (an := []) Tryz.func51 rfl rfl (by kernel_rfl) rfl (Eq.mpr (by kernel_rfl) h)
theorem yG0 {a0 : BA} (h :
 brB (!(a0.toList == (⟨#[]⟩ : BA).toList)) (
 brB (decide ((a0.size : Int) ≤ 16)) (
 Calls pP 120 #[.string a0, (.func (.func 119) #[] #[])] w fun e w1 => ∃ t2, e = .returned (.bool t2) ∧
 R (.bool (!t2)) w1)
 (
 R (.bool false) w))
 (
 R (.bool false) w)) :
 CR pP 96 #[.string a0] w R :=
 yaA Tryz.wide_mixed (an := []) Tryz.func96 rfl rfl (by kernel_rfl) rfl (Eq.mpr (by kernel_rfl) h)
theorem yG1 (h :
 brB (decide (i0 < 97)) (
 brB (decide (i0 < 48)) (
 R (.bool (i0 != 45)) w)
 (
 brB (decide (i0 > 57)) (
 R (.bool (i0 != 45)) w)
 (
 R (.bool false) w)))
 (
 brB (decide (i0 > 122)) (
 brB (decide (i0 < 48)) (
 R (.bool (i0 != 45)) w)
 (
 brB (decide (i0 > 57)) (
 R (.bool (i0 != 45)) w)
 (
 R (.bool false) w)))
 (
 R (.bool false) w))) :
 CR pP 119 #[.int .i32 i0] w R :=
 yaA Tryz.wide_mixed (an := []) Tryz.func119 rfl rfl (by kernel_rfl) rfl (Eq.mpr (by kernel_rfl) h)
def yhG : LA := ⟨[1, 1], [1, 3], [(1, 0, 0)], 1, []⟩
def yrE : LA := ⟨[0, 0, 1, 0, 1, 1, 1], [1, 3, 4, 28, 29, 30], [(1, 0, 0)], 1, []⟩
def ynA : LA := ⟨[0, 0, 1, 0, 1, 1, 1, 1], [1, 3, 4, 49, 50, 51], [(1, 0, 0)], 1, []⟩
def ys9 : List LA := [yhG, yrE, ynA]
abbrev ykW := dnF pP ys9 (code Tryz.f57)
abbrev yJ9 := yaO pP ys9 (code Tryz.f57)
abbrev ynB (p : List Nat) (K : List Kh) (R : VWP) := yaO pP ys9 (code Tryz.f57) p K (ya4 pP Tryz.f57 [] R)
def yk9 : Bool × Nat × Int × Int × Int × Int × (Option Addr) × Nat × Nat × (Option Addr) × Nat × Nat → List Value × List TB := fun (b0, bm0, a6, a7, a8, a9, a0, a4, a2, a1, a5, a3) => ([(.pointer (some ⟨bm0, 0, none⟩)), .bool b0], [⟨bm0, 27, [.int .i64 a6, .int .i64 a7, .int .i64 a8, .int .i64 a9, .slice a0 a4 a2, .slice a1 a5 a3], false⟩])
def ygZ (b0 : OA) (b2 b1 : Nat) (b3 : Int) (bm0 : Nat) (a6 a7 a8 a9 : Int) (a0 : OA) (a4 a2 : Nat) (a1 : OA) (a5 a3 : Nat) : Bool × Bool × Int → List Value × List TB := fun (b5, b6, b4) => ([(.pointer (some ⟨bm0, 0, none⟩)), .bool b5, .bool b6, .slice b0 b2 b1, .int .i64 b3, .int .i64 b4], [⟨bm0, 27, [.int .i64 a6, .int .i64 a7, .int .i64 a8, .int .i64 a9, .slice a0 a4 a2, .slice a1 a5 a3], false⟩])
def yf6 (b0 : OA) (b2 b1 : Nat) (b3 : Int) (bm0 : Nat) (a6 a7 a8 a9 : Int) (a0 : OA) (a4 a2 : Nat) (a1 : OA) (a5 a3 : Nat) : Bool × Bool × Int → List Value × List TB := fun (b5, b6, b4) => ([(.pointer (some ⟨bm0, 0, none⟩)), .bool b5, .bool b6, .slice b0 b2 b1, .int .i64 b3, .int .i64 b4], [⟨bm0, 27, [.int .i64 a6, .int .i64 a7, .int .i64 a8, .int .i64 a9, .slice a0 a4 a2, .slice a1 a5 a3], false⟩])
def yDt (b0 : Bool) (bm0 : Nat) (a6 a7 a8 a9 : Int) (a1 : OA) (a0 a2 : Nat) (a3 : OA) (a5 a4 : Nat) (R : VWP) (w : World) : Prop :=
 yaK yrE (ykW 395 [0, 0, 1, 0, 1, 1, 1]) (ynB [1, 1, 1, 0, 1, 0] [] R) (ygZ a1 a0 a2 (a0 : Int) bm0 a6 a7 a8 a9 a1 a0 a2 a3 a5 a4 (b0, false, 0)) w
theorem yiY (J : Bool → Nat → Int → Int → Int → Int → Option Addr → Nat → Nat → Option Addr → Nat → Nat → World → Prop) (h0 : J B0 n0 i0 i1 i2 i3 q0 n1 n2 q1 n3 n4 w0)
 (hr : ∀ c0 bm0 a6 a7 a8 a9 a0 a4 a2 a1 a5 a3 w, J c0 bm0 a6 a7 a8 a9 a0 a4 a2 a1 a5 a3 w → yDt c0 bm0 a6 a7 a8 a9 a0 a4 a2 a1 a5 a3 R w) :
 yaS yhG ((ykW 398 [1, 1]) (ynB [1] [] R)) (yk9 (B0, n0, i0, i1, i2, i3, q0, n1, n2, q1, n3, n4)) w0 :=
 crule (yk9) (V12 J) h0 (by rintro ⟨c0, bm0, a6, a7, a8, a9, a0, a4, a2, a1, a5, a3⟩ w h; exact ⟨by kernel_rfl, by kernel_rfl, fun js => Eq.mpr (by kernel_rfl) (hr c0 bm0 a6 a7 a8 a9 a0 a4 a2 a1 a5 a3 w h)⟩)
abbrev ypW (b0 : OA) (b2 b1 : Nat) (b3 : Int) (bm0 : Nat) (a6 a7 a8 a9 : Int) (a0 : OA) (a4 a2 : Nat) (a1 : OA) (a5 a3 : Nat) (I : Nat → Bool → Bool → Int → World → Prop) (m : Nat) : Kh := KG (ygZ b0 b2 b1 b3 bm0 a6 a7 a8 a9 a0 a4 a2 a1 a5 a3) (U3 I) m
theorem yg0 {I : Nat → Bool → Bool → Int → World → Prop} (m' : Nat) (h1 : m' < m) (h2 : I m' B0 B1 i5 w) : KS (ypW q0 n0 n1 i0 n2 i1 i2 i3 i4 q1 n3 n4 q2 n5 n6 I m) (ygZ q0 n0 n1 i0 n2 i1 i2 i3 i4 q1 n3 n4 q2 n5 n6 (B0, B1, i5)) w := ⟨m', h1, _, rfl, rfl, h2⟩
theorem yyO (I : Nat → Bool → Bool → Int → World → Prop) (m0 : Nat) (h0 : I m0 B0 B1 i5 w0)
 (hr : ∀ m b8 b6 b4 w, I m b8 b6 b4 w →
 brB (decide (b4 < i0)) (
 ixA q0 n0 b4 5 fun b7 =>
 yaI .i64 w b7 fun d5 => yaT w (Addr.add b7 1) fun c8 => yaQ w (Addr.add b7 2) fun c6 => yaT w (Addr.add b7 3) fun c9 => yaQ w (Addr.add b7 4) fun c7 =>
 ∀ b5, w.heap.size ≤ b5 →
 brB b8 (
 ∀ c4, Adv [] [b5] w c4 →
 Calls pP 94 #[.int .i64 d5] c4 fun e b9 => ∃ c1, e = .returned (.bool c1) ∧ yaE [n2, b5] c4 b9 ∧
 brB b6 (
 KS (ypW q0 n0 n1 i0 n2 i1 i2 i3 i4 q1 n3 n4 q2 n5 n6 I m) (ygZ q0 n0 n1 i0 n2 i1 i2 i3 i4 q1 n3 n4 q2 n5 n6 (c1, true, (IntKind.wrap .i64 (b4 + 1)))) b9)
 (
 Calls pP 95 #[(.agg (Z7 c8 c6 c9 c7))] b9 fun e d0 => ∃ d3, e = .returned (.int .i64 d3) ∧ yaE [n2, b5] b9 d0 ∧
 KS (ypW q0 n0 n1 i0 n2 i1 i2 i3 i4 q1 n3 n4 q2 n5 n6 I m) (ygZ q0 n0 n1 i0 n2 i1 i2 i3 i4 q1 n3 n4 q2 n5 n6 (c1, (d3 != 0), (IntKind.wrap .i64 (b4 + 1)))) d0))
 (
 brB b6 (
 ∀ d1, Adv [] [b5] w d1 →
 KS (ypW q0 n0 n1 i0 n2 i1 i2 i3 i4 q1 n3 n4 q2 n5 n6 I m) (ygZ q0 n0 n1 i0 n2 i1 i2 i3 i4 q1 n3 n4 q2 n5 n6 (false, true, (IntKind.wrap .i64 (b4 + 1)))) d1)
 (
 ∀ c5, Adv [] [b5] w c5 →
 Calls pP 95 #[(.agg (Z7 c8 c6 c9 c7))] c5 fun e d2 => ∃ d4, e = .returned (.int .i64 d4) ∧ yaE [n2, b5] c5 d2 ∧
 KS (ypW q0 n0 n1 i0 n2 i1 i2 i3 i4 q1 n3 n4 q2 n5 n6 I m) (ygZ q0 n0 n1 i0 n2 i1 i2 i3 i4 q1 n3 n4 q2 n5 n6 (false, (d4 != 0), (IntKind.wrap .i64 (b4 + 1)))) d2)))
 (
 yaK ynA (ykW 394 [0, 0, 1, 0, 1, 1, 1, 1]) (ynB [1, 1, 1, 1, 0, 1, 0] [] R) (yf6 q2 n5 n6 (n5 : Int) n2 i1 i2 i3 i4 q1 n3 n4 q2 n5 n6 (b8, b6, 0)) w)) :
 yaK yrE (ykW 395 [0, 0, 1, 0, 1, 1, 1]) (ynB [1, 1, 1, 0, 1, 0] [] R) (ygZ q0 n0 n1 i0 n2 i1 i2 i3 i4 q1 n3 n4 q2 n5 n6 (B0, B1, i5)) w0 :=
 lrule (ygZ q0 n0 n1 i0 n2 i1 i2 i3 i4 q1 n3 n4 q2 n5 n6) (U3 I) h0 (by rintro m ⟨b8, b6, b4⟩ w h; exact ⟨by kernel_rfl, by kernel_rfl, fun js => Eq.mpr (by kernel_rfl) (hr m b8 b6 b4 w h)⟩)
abbrev ypX (b0 : OA) (b2 b1 : Nat) (b3 : Int) (bm0 : Nat) (a6 a7 a8 a9 : Int) (a0 : OA) (a4 a2 : Nat) (a1 : OA) (a5 a3 : Nat) (I : Nat → Bool → Bool → Int → World → Prop) (m : Nat) : Kh := KG (yf6 b0 b2 b1 b3 bm0 a6 a7 a8 a9 a0 a4 a2 a1 a5 a3) (U3 I) m
theorem yg1 {I : Nat → Bool → Bool → Int → World → Prop} (m' : Nat) (h1 : m' < m) (h2 : I m' B0 B1 i5 w) : KS (ypX q0 n0 n1 i0 n2 i1 i2 i3 i4 q1 n3 n4 q2 n5 n6 I m) (yf6 q0 n0 n1 i0 n2 i1 i2 i3 i4 q1 n3 n4 q2 n5 n6 (B0, B1, i5)) w := ⟨m', h1, _, rfl, rfl, h2⟩
theorem yyP (I : Nat → Bool → Bool → Int → World → Prop) (m0 : Nat) (h0 : I m0 B0 B1 i5 w0)
 (hr : ∀ m b7 b6 b4 w, I m b7 b6 b4 w →
 brB (decide (b4 < i0)) (
 ixA q0 n0 b4 2 fun c5 =>
 yaQ w c5 fun c6 => yaI .i64 w (Addr.add c5 1) fun d2 =>
 ∀ b5, w.heap.size ≤ b5 →
 brB b7 (
 ∀ c3, Adv [] [b5] w c3 →
 Calls pP 94 #[.int .i64 d2] c3 fun e b8 => ∃ c0, e = .returned (.bool c0) ∧ yaE [n2, b5] c3 b8 ∧
 brB b6 (
 KS (ypX q0 n0 n1 i0 n2 i1 i2 i3 i4 q1 n3 n4 q2 n5 n6 I m) (yf6 q0 n0 n1 i0 n2 i1 i2 i3 i4 q1 n3 n4 q2 n5 n6 (c0, true, (IntKind.wrap .i64 (b4 + 1)))) b8)
 (
 Calls pP 96 #[.string c6] b8 fun e c9 => ∃ c7, e = .returned (.bool c7) ∧ yaE [n2, b5] b8 c9 ∧
 KS (ypX q0 n0 n1 i0 n2 i1 i2 i3 i4 q1 n3 n4 q2 n5 n6 I m) (yf6 q0 n0 n1 i0 n2 i1 i2 i3 i4 q1 n3 n4 q2 n5 n6 (c0, (!c7), (IntKind.wrap .i64 (b4 + 1)))) c9))
 (
 brB b6 (
 ∀ d0, Adv [] [b5] w d0 →
 KS (ypX q0 n0 n1 i0 n2 i1 i2 i3 i4 q1 n3 n4 q2 n5 n6 I m) (yf6 q0 n0 n1 i0 n2 i1 i2 i3 i4 q1 n3 n4 q2 n5 n6 (false, true, (IntKind.wrap .i64 (b4 + 1)))) d0)
 (
 ∀ c4, Adv [] [b5] w c4 →
 Calls pP 96 #[.string c6] c4 fun e d1 => ∃ c8, e = .returned (.bool c8) ∧ yaE [n2, b5] c4 d1 ∧
 KS (ypX q0 n0 n1 i0 n2 i1 i2 i3 i4 q1 n3 n4 q2 n5 n6 I m) (yf6 q0 n0 n1 i0 n2 i1 i2 i3 i4 q1 n3 n4 q2 n5 n6 (false, (!c8), (IntKind.wrap .i64 (b4 + 1)))) d1)))
 (
 brB (!b7) (
 R (.int .i64 1) w)
 (
 brB (decide ((n3 : Int) > 64)) (
 R (.int .i64 2) w)
 (
 brB (decide ((n5 : Int) > 64)) (
 R (.int .i64 2) w)
 (
 brB b6 (
 R (.int .i64 40) w)
 (
 R (.int .i64 0) w)))))) :
 yaK ynA (ykW 394 [0, 0, 1, 0, 1, 1, 1, 1]) (ynB [1, 1, 1, 1, 0, 1, 0] [] R) (yf6 q0 n0 n1 i0 n2 i1 i2 i3 i4 q1 n3 n4 q2 n5 n6 (B0, B1, i5)) w0 :=
 lrule (yf6 q0 n0 n1 i0 n2 i1 i2 i3 i4 q1 n3 n4 q2 n5 n6) (U3 I) h0 (by rintro m ⟨b7, b6, b4⟩ w h; exact ⟨by kernel_rfl, by kernel_rfl, fun js => Eq.mpr (by kernel_rfl) (hr m b7 b6 b4 w h)⟩)
theorem yG2 (h :
 ∀ b1, w.heap.size ≤ b1 →
 ∀ w2, Adv [] [b1] w w2 →
 Calls pP 94 #[.int .i64 i0] w2 fun e w3 => ∃ t4, e = .returned (.bool t4) ∧ yaE [b1] w2 w3 ∧
 brB t4 (
 Calls pP 94 #[.int .i64 i1] w3 fun e w5 => ∃ t6, e = .returned (.bool t6) ∧ yaE [b1] w3 w5 ∧
 brB t6 (
 Calls pP 94 #[.int .i64 i2] w5 fun e w7 => ∃ t8, e = .returned (.bool t8) ∧ yaE [b1] w5 w7 ∧
 brB t8 (
 Calls pP 94 #[.int .i64 i3] w7 fun e w9 => ∃ b0, e = .returned (.bool b0) ∧ yaE [b1] w7 w9 ∧
 yaS yhG ((ykW 398 [1, 1]) (ynB [1] [] R)) (yk9 (b0, b1, i0, i1, i2, i3, q0, n0, n1, q1, n2, n3)) w9)
 (
 yaS yhG ((ykW 398 [1, 1]) (ynB [1] [] R)) (yk9 (false, b1, i0, i1, i2, i3, q0, n0, n1, q1, n2, n3)) w7))
 (
 yaS yhG ((ykW 398 [1, 1]) (ynB [1] [] R)) (yk9 (false, b1, i0, i1, i2, i3, q0, n0, n1, q1, n2, n3)) w5))
 (
 yaS yhG ((ykW 398 [1, 1]) (ynB [1] [] R)) (yk9 (false, b1, i0, i1, i2, i3, q0, n0, n1, q1, n2, n3)) w3)) :
 CR pP 57 #[(.agg (Z3 i0 i1 i2 i3 q0 n0 n1 q1 n2 n3))] w R :=
 yaA Tryz.wide_mixed (an := ys9) Tryz.func57 rfl rfl (by kernel_rfl) rfl (Eq.mpr (by kernel_rfl) h)
def yhH : LA := ⟨[1, 1], [1, 3], [(1, 0, 0)], 1, []⟩
def yrF : LA := ⟨[0, 0, 1, 0, 1, 1], [1, 3, 4], [(1, 0, 0)], 1, []⟩
def ynC : LA := ⟨[0, 0, 1, 0, 1, 1, 1], [1, 3, 5], [(1, 0, 0)], 1, []⟩
def yrG : LA := ⟨[0, 0, 1, 0, 1, 1, 1, 1, 1, 1], [1, 6], [(1, 0, 0)], 1, []⟩
def ynD : LA := ⟨[0, 0, 1, 0, 1, 1, 1, 1, 1, 1, 1], [1, 7], [(1, 0, 0)], 1, []⟩
def ytA : List LA := [yhH, yrF, ynC, yrG, ynD]
abbrev ygE := dnF pP ytA (code Tryz.f65)
abbrev yG3 := yaO pP ytA (code Tryz.f65)
abbrev yhI (p : List Nat) (K : List Kh) (R : VWP) := yaO pP ytA (code Tryz.f65) p K (ya4 pP Tryz.f65 [] R)
def ylA : Bool × Nat × Int × Int × Int × Int × (Option Addr) × Nat × Nat × (Option Addr) × Nat × Nat → List Value × List TB := fun (b0, bm0, a6, a7, a8, a9, a0, a4, a2, a1, a5, a3) => ([(.pointer (some ⟨bm0, 0, none⟩)), .bool b0], [⟨bm0, 27, [.int .i64 a6, .int .i64 a7, .int .i64 a8, .int .i64 a9, .slice a0 a4 a2, .slice a1 a5 a3], false⟩])
def yjX (bm0 : Nat) (a6 a7 a8 a9 : Int) (a0 : OA) (a4 a2 : Nat) (a1 : OA) (a5 a3 : Nat) : Bool × Int → List Value × List TB := fun (b0, b1) => ([(.pointer (some ⟨bm0, 0, none⟩)), .bool b0, .int .i64 b1], [⟨bm0, 27, [.int .i64 a6, .int .i64 a7, .int .i64 a8, .int .i64 a9, .slice a0 a4 a2, .slice a1 a5 a3], false⟩])
def yiG (bm0 : Nat) (a6 a7 a8 a9 : Int) (a0 : OA) (a4 a2 : Nat) (a1 : OA) (a5 a3 : Nat) : Bool × Int → List Value × List TB := fun (b0, b1) => ([(.pointer (some ⟨bm0, 0, none⟩)), .bool b0, .int .i64 b1], [⟨bm0, 27, [.int .i64 a6, .int .i64 a7, .int .i64 a8, .int .i64 a9, .slice a0 a4 a2, .slice a1 a5 a3], false⟩])
def ylB (bm0 : Nat) (a6 a7 a8 a9 : Int) (a0 : OA) (a4 a2 : Nat) (a1 : OA) (a5 a3 : Nat) : Int → List Value × List TB := fun b0 => ([(.pointer (some ⟨bm0, 0, none⟩)), .int .i64 b0], [⟨bm0, 27, [.int .i64 a6, .int .i64 a7, .int .i64 a8, .int .i64 a9, .slice a0 a4 a2, .slice a1 a5 a3], false⟩])
def yjY (bm0 : Nat) (a6 a7 a8 a9 : Int) (a0 : OA) (a4 a2 : Nat) (a1 : OA) (a5 a3 : Nat) : Int → List Value × List TB := fun b0 => ([(.pointer (some ⟨bm0, 0, none⟩)), .int .i64 b0], [⟨bm0, 27, [.int .i64 a6, .int .i64 a7, .int .i64 a8, .int .i64 a9, .slice a0 a4 a2, .slice a1 a5 a3], false⟩])
def yyQ (b0 : Bool) (bm0 : Nat) (a6 a7 a8 a9 : Int) (a0 : OA) (a4 a2 : Nat) (a1 : OA) (a5 a3 : Nat) (R : VWP) (w : World) : Prop :=
 yaK yrF (ygE 396 [0, 0, 1, 0, 1, 1]) (yhI [1, 1, 0, 1, 0] [] R) (yjX bm0 a6 a7 a8 a9 a0 a4 a2 a1 a5 a3 (b0, 0)) w
theorem yiZ (J : Bool → Nat → Int → Int → Int → Int → Option Addr → Nat → Nat → Option Addr → Nat → Nat → World → Prop) (h0 : J B0 n0 i0 i1 i2 i3 q0 n1 n2 q1 n3 n4 w0)
 (hr : ∀ c0 bm0 a6 a7 a8 a9 a0 a4 a2 a1 a5 a3 w, J c0 bm0 a6 a7 a8 a9 a0 a4 a2 a1 a5 a3 w → yyQ c0 bm0 a6 a7 a8 a9 a0 a4 a2 a1 a5 a3 R w) :
 yaS yhH ((ygE 398 [1, 1]) (yhI [1] [] R)) (ylA (B0, n0, i0, i1, i2, i3, q0, n1, n2, q1, n3, n4)) w0 :=
 crule (ylA) (V12 J) h0 (by rintro ⟨c0, bm0, a6, a7, a8, a9, a0, a4, a2, a1, a5, a3⟩ w h; exact ⟨by kernel_rfl, by kernel_rfl, fun js => Eq.mpr (by kernel_rfl) (hr c0 bm0 a6 a7 a8 a9 a0 a4 a2 a1 a5 a3 w h)⟩)
abbrev yyR (bm0 : Nat) (a6 a7 a8 a9 : Int) (a0 : OA) (a4 a2 : Nat) (a1 : OA) (a5 a3 : Nat) (I : Nat → Bool → Int → World → Prop) (m : Nat) : Kh := KG (yjX bm0 a6 a7 a8 a9 a0 a4 a2 a1 a5 a3) (U2 I) m
theorem ypY {I : Nat → Bool → Int → World → Prop} (m' : Nat) (h1 : m' < m) (h2 : I m' B0 i4 w) : KS (yyR n0 i0 i1 i2 i3 q0 n1 n2 q1 n3 n4 I m) (yjX n0 i0 i1 i2 i3 q0 n1 n2 q1 n3 n4 (B0, i4)) w := ⟨m', h1, _, rfl, rfl, h2⟩
theorem yyS (I : Nat → Bool → Int → World → Prop) (m0 : Nat) (h0 : I m0 B0 i4 w0)
 (hr : ∀ m b1 b0 w, I m b1 b0 w →
 brB (decide (b0 < (n1 : Int))) (
 brB b1 (
 ixA q0 n1 b0 5 fun b6 =>
 yaI .i64 w b6 fun b7 =>
 Calls pP 36 #[.int .i64 b7] w fun e b5 => ∃ b4, e = .returned (.bool b4) ∧ yaE [n0] w b5 ∧
 KS (yyR n0 i0 i1 i2 i3 q0 n1 n2 q1 n3 n4 I m) (yjX n0 i0 i1 i2 i3 q0 n1 n2 q1 n3 n4 (b4, (IntKind.wrap .i64 (b0 + 1)))) b5)
 (
 KS (yyR n0 i0 i1 i2 i3 q0 n1 n2 q1 n3 n4 I m) (yjX n0 i0 i1 i2 i3 q0 n1 n2 q1 n3 n4 (false, (IntKind.wrap .i64 (b0 + 1)))) w))
 (
 yaK ynC (ygE 395 [0, 0, 1, 0, 1, 1, 1]) (yhI [1, 1, 1, 0, 1, 0] [] R) (yiG n0 i0 i1 i2 i3 q0 n1 n2 q1 n3 n4 (b1, 0)) w)) :
 yaK yrF (ygE 396 [0, 0, 1, 0, 1, 1]) (yhI [1, 1, 0, 1, 0] [] R) (yjX n0 i0 i1 i2 i3 q0 n1 n2 q1 n3 n4 (B0, i4)) w0 :=
 lrule (yjX n0 i0 i1 i2 i3 q0 n1 n2 q1 n3 n4) (U2 I) h0 (by rintro m ⟨b1, b0⟩ w h; exact ⟨by kernel_rfl, by kernel_rfl, fun js => Eq.mpr (by kernel_rfl) (hr m b1 b0 w h)⟩)
abbrev yyT (bm0 : Nat) (a6 a7 a8 a9 : Int) (a0 : OA) (a4 a2 : Nat) (a1 : OA) (a5 a3 : Nat) (I : Nat → Bool → Int → World → Prop) (m : Nat) : Kh := KG (yiG bm0 a6 a7 a8 a9 a0 a4 a2 a1 a5 a3) (U2 I) m
theorem ypZ {I : Nat → Bool → Int → World → Prop} (m' : Nat) (h1 : m' < m) (h2 : I m' B0 i4 w) : KS (yyT n0 i0 i1 i2 i3 q0 n1 n2 q1 n3 n4 I m) (yiG n0 i0 i1 i2 i3 q0 n1 n2 q1 n3 n4 (B0, i4)) w := ⟨m', h1, _, rfl, rfl, h2⟩
theorem yyU (I : Nat → Bool → Int → World → Prop) (m0 : Nat) (h0 : I m0 B0 i4 w0)
 (hr : ∀ m b1 b0 w, I m b1 b0 w →
 brB (decide (b0 < (n3 : Int))) (
 brB b1 (
 ixA q1 n3 b0 2 fun b6 =>
 yaI .i64 w (Addr.add b6 1) fun b7 =>
 Calls pP 36 #[.int .i64 b7] w fun e b5 => ∃ b4, e = .returned (.bool b4) ∧ yaE [n0] w b5 ∧
 KS (yyT n0 i0 i1 i2 i3 q0 n1 n2 q1 n3 n4 I m) (yiG n0 i0 i1 i2 i3 q0 n1 n2 q1 n3 n4 (b4, (IntKind.wrap .i64 (b0 + 1)))) b5)
 (
 KS (yyT n0 i0 i1 i2 i3 q0 n1 n2 q1 n3 n4 I m) (yiG n0 i0 i1 i2 i3 q0 n1 n2 q1 n3 n4 (false, (IntKind.wrap .i64 (b0 + 1)))) w))
 (
 brB (!b1) (
 R (.int .i64 1) w)
 (
 brB (decide ((n1 : Int) > 64)) (
 R (.int .i64 2) w)
 (
 brB (decide ((n3 : Int) > 64)) (
 R (.int .i64 2) w)
 (
 yaK yrG (ygE 392 [0, 0, 1, 0, 1, 1, 1, 1, 1, 1]) (yhI [1, 1, 1, 1, 1, 1, 0, 1, 0] [] R) (ylB n0 i0 i1 i2 i3 q0 n1 n2 q1 n3 n4 0) w))))) :
 yaK ynC (ygE 395 [0, 0, 1, 0, 1, 1, 1]) (yhI [1, 1, 1, 0, 1, 0] [] R) (yiG n0 i0 i1 i2 i3 q0 n1 n2 q1 n3 n4 (B0, i4)) w0 :=
 lrule (yiG n0 i0 i1 i2 i3 q0 n1 n2 q1 n3 n4) (U2 I) h0 (by rintro m ⟨b1, b0⟩ w h; exact ⟨by kernel_rfl, by kernel_rfl, fun js => Eq.mpr (by kernel_rfl) (hr m b1 b0 w h)⟩)
abbrev yDu (bm0 : Nat) (a6 a7 a8 a9 : Int) (a0 : OA) (a4 a2 : Nat) (a1 : OA) (a5 a3 : Nat) (I : Nat → Int → World → Prop) (m : Nat) : Kh := KG (ylB bm0 a6 a7 a8 a9 a0 a4 a2 a1 a5 a3) (U1 I) m
theorem yyV {I : Nat → Int → World → Prop} (m' : Nat) (h1 : m' < m) (h2 : I m' i4 w) : KS (yDu n0 i0 i1 i2 i3 q0 n1 n2 q1 n3 n4 I m) (ylB n0 i0 i1 i2 i3 q0 n1 n2 q1 n3 n4 i4) w := ⟨m', h1, _, rfl, rfl, h2⟩
theorem yyW (I : Nat → Int → World → Prop) (m0 : Nat) (h0 : I m0 i4 w0)
 (hr : ∀ m b0 w, I m b0 w →
 brB (decide (b0 < (n1 : Int))) (
 ixA q0 n1 b0 5 fun b1 =>
 yaT w (Addr.add b1 1) fun b7 => yaQ w (Addr.add (Addr.add b1 1) 1) fun b5 => yaT w (Addr.add (Addr.add b1 1) 2) fun b8 => yaQ w (Addr.add (Addr.add b1 1) 3) fun b6 =>
 Calls pP 103 #[(.agg (Z7 b7 b5 b8 b6))] w fun e b2 => ∃ b4, e = .returned (.int .i64 b4) ∧ yaE [n0] w b2 ∧
 brB (b4 != 0) (
 R (.int .i64 40) b2)
 (
 KS (yDu n0 i0 i1 i2 i3 q0 n1 n2 q1 n3 n4 I m) (ylB n0 i0 i1 i2 i3 q0 n1 n2 q1 n3 n4 (IntKind.wrap .i64 (b0 + 1))) b2))
 (
 yaK ynD (ygE 391 [0, 0, 1, 0, 1, 1, 1, 1, 1, 1, 1]) (yhI [1, 1, 1, 1, 1, 1, 1, 0, 1, 0] [] R) (yjY n0 i0 i1 i2 i3 q0 n1 n2 q1 n3 n4 0) w)) :
 yaK yrG (ygE 392 [0, 0, 1, 0, 1, 1, 1, 1, 1, 1]) (yhI [1, 1, 1, 1, 1, 1, 0, 1, 0] [] R) (ylB n0 i0 i1 i2 i3 q0 n1 n2 q1 n3 n4 i4) w0 :=
 lrule (ylB n0 i0 i1 i2 i3 q0 n1 n2 q1 n3 n4) (U1 I) h0 (by rintro m b0 w h; exact ⟨by kernel_rfl, by kernel_rfl, fun js => Eq.mpr (by kernel_rfl) (hr m b0 w h)⟩)
abbrev yDv (bm0 : Nat) (a6 a7 a8 a9 : Int) (a0 : OA) (a4 a2 : Nat) (a1 : OA) (a5 a3 : Nat) (I : Nat → Int → World → Prop) (m : Nat) : Kh := KG (yjY bm0 a6 a7 a8 a9 a0 a4 a2 a1 a5 a3) (U1 I) m
theorem yyX {I : Nat → Int → World → Prop} (m' : Nat) (h1 : m' < m) (h2 : I m' i4 w) : KS (yDv n0 i0 i1 i2 i3 q0 n1 n2 q1 n3 n4 I m) (yjY n0 i0 i1 i2 i3 q0 n1 n2 q1 n3 n4 i4) w := ⟨m', h1, _, rfl, rfl, h2⟩
theorem yyY (I : Nat → Int → World → Prop) (m0 : Nat) (h0 : I m0 i4 w0)
 (hr : ∀ m b0 w, I m b0 w →
 brB (decide (b0 < (n3 : Int))) (
 ixA q1 n3 b0 2 fun b4 =>
 yaQ w b4 fun b5 =>
 Calls pP 104 #[.string b5] w fun e b1 => ∃ b3, e = .returned (.bool b3) ∧ yaE [n0] w b1 ∧
 brB (!b3) (
 R (.int .i64 40) b1)
 (
 KS (yDv n0 i0 i1 i2 i3 q0 n1 n2 q1 n3 n4 I m) (yjY n0 i0 i1 i2 i3 q0 n1 n2 q1 n3 n4 (IntKind.wrap .i64 (b0 + 1))) b1))
 (
 R (.int .i64 0) w)) :
 yaK ynD (ygE 391 [0, 0, 1, 0, 1, 1, 1, 1, 1, 1, 1]) (yhI [1, 1, 1, 1, 1, 1, 1, 0, 1, 0] [] R) (yjY n0 i0 i1 i2 i3 q0 n1 n2 q1 n3 n4 i4) w0 :=
 lrule (yjY n0 i0 i1 i2 i3 q0 n1 n2 q1 n3 n4) (U1 I) h0 (by rintro m b0 w h; exact ⟨by kernel_rfl, by kernel_rfl, fun js => Eq.mpr (by kernel_rfl) (hr m b0 w h)⟩)
theorem yG4 (h :
 ∀ b1, w.heap.size ≤ b1 →
 ∀ w2, Adv [] [b1] w w2 →
 Calls pP 36 #[.int .i64 i0] w2 fun e w3 => ∃ t4, e = .returned (.bool t4) ∧ yaE [b1] w2 w3 ∧
 brB t4 (
 Calls pP 36 #[.int .i64 i1] w3 fun e w5 => ∃ t6, e = .returned (.bool t6) ∧ yaE [b1] w3 w5 ∧
 brB t6 (
 Calls pP 36 #[.int .i64 i2] w5 fun e w7 => ∃ t8, e = .returned (.bool t8) ∧ yaE [b1] w5 w7 ∧
 brB t8 (
 Calls pP 36 #[.int .i64 i3] w7 fun e w9 => ∃ b0, e = .returned (.bool b0) ∧ yaE [b1] w7 w9 ∧
 yaS yhH ((ygE 398 [1, 1]) (yhI [1] [] R)) (ylA (b0, b1, i0, i1, i2, i3, q0, n0, n1, q1, n2, n3)) w9)
 (
 yaS yhH ((ygE 398 [1, 1]) (yhI [1] [] R)) (ylA (false, b1, i0, i1, i2, i3, q0, n0, n1, q1, n2, n3)) w7))
 (
 yaS yhH ((ygE 398 [1, 1]) (yhI [1] [] R)) (ylA (false, b1, i0, i1, i2, i3, q0, n0, n1, q1, n2, n3)) w5))
 (
 yaS yhH ((ygE 398 [1, 1]) (yhI [1] [] R)) (ylA (false, b1, i0, i1, i2, i3, q0, n0, n1, q1, n2, n3)) w3)) :
 CR pP 65 #[(.agg (Z3 i0 i1 i2 i3 q0 n0 n1 q1 n2 n3))] w R :=
 yaA Tryz.wide_mixed (an := ytA) Tryz.func65 rfl rfl (by kernel_rfl) rfl (Eq.mpr (by kernel_rfl) h)
end
def num (n : Int) : Bool := decide (0 ≤ n ∧ n ≤ 1099511627776)
def yKy (n : Int) : Bool := decide (1 ≤ n ∧ n ≤ 1099511627776)
theorem yc3 (n : Int) (w : World) : Calls pP 94 #[.int .i64 n] w fun e w' => e = .returned (.bool (num n)) ∧ w' = w :=
 yaP (yJZ (yaC (fun h => ⟨by simp [num]; omega, rfl⟩) (fun h => ⟨by simp [num]; omega, rfl⟩)))
theorem ycM (n : Int) (w : World) : Calls pP 36 #[.int .i64 n] w fun e w' => e = .returned (.bool (num n)) ∧ w' = w :=
 yaP (yJ2 (yaC (fun h => ⟨by simp [num]; omega, rfl⟩) (fun h => ⟨by simp [num]; omega, rfl⟩)))
def yGt (hk tomb : Bool) (k v : Nat) : Int :=
 if (!hk && decide (k ≠ 0)) || (tomb && (!hk || decide (v ≠ 0))) then 30 else if k > 64 ∨ v > 512 then 2 else 0
def yfQ (r : PRec) : Int := yGt r.hk r.tomb r.key.size r.val.size
theorem yeZ (r : PRec) (w : World) : Calls pP 95 #[r.v] w fun e w' => e = .returned (.int .i64 (yfQ r)) ∧ Mod [] w w' := by
 obtain ⟨hk, key, tomb, val⟩ := r
 refine yaP (yJ0 ?_)
 intro b1 f1
 have e1 : (!(key.toList == (⟨#[]⟩ : ByteArray).toList)) = decide (key.size ≠ 0) := by rw [yf2]; simp [ym9]
 have e2 : (!(val.toList == (⟨#[]⟩ : ByteArray).toList)) = decide (val.size ≠ 0) := by rw [yf2]; simp [ym9]
 rw [e1, e2]
 clear e1 e2
 unfold yfQ
 generalize key.size = k
 generalize val.size = v
 repeat' (first | refine yaB (fun _ => ?_) (fun _ => ?_) | (intro w' A))
 all_goals
  refine ⟨congrArg (Value.int .i64) ?_, Adv.mod (by assumption)⟩
  unfold yGt
  cases hk <;> cases tomb <;> simp at * <;> (repeat' split) <;> omega
theorem yjZ (r : PRec) (w : World) : Calls pP 103 #[r.v] w fun e w' => e = .returned (.int .i64 (yfQ r)) ∧ Mod [] w w' := by
 obtain ⟨hk, key, tomb, val⟩ := r
 refine yaP (yJ3 ?_)
 intro b1 f1
 unfold yfQ
 generalize key.size = k
 generalize val.size = v
 repeat' (first | refine yaB (fun _ => ?_) (fun _ => ?_) | (intro w' A))
 all_goals
  refine ⟨congrArg (Value.int .i64) ?_, Adv.mod (by assumption)⟩
  unfold yGt
  cases hk <;> cases tomb <;> simp at * <;> (repeat' split) <;> omega
def okC (c : Int) : Bool := decide (97 ≤ c ∧ c ≤ 122) || decide (48 ≤ c ∧ c ≤ 57) || decide (c = 45)
def ybO (s : ByteArray) : Bool := decide (1 ≤ s.size ∧ s.size ≤ 16) && s.data.toList.all fun b => okC b.toNat
theorem ycN {s : ByteArray} {k : Nat} (h : k < s.size) : ∃ b : UInt8, s.data.toList[k]? = some b ∧ yk0 s k = b.toNat := by
 have h' : k < s.data.toList.length := by simpa using h
 exact ⟨s.data.toList[k], List.getElem?_eq_getElem h', by rw [yk0, List.getD_eq_getElem?_getD, List.getElem?_eq_getElem h']; rfl⟩
theorem yg2 (s : ByteArray) (w : World) : Calls pP 104 #[.string s] w fun e w' => e = .returned (.bool (ybO s)) ∧ w' = w := by
  refine yaP (yJ4 ?_)
  refine yaC (fun h => ⟨by simp [ybO]; omega, rfl⟩) fun g1 => ?_
  refine yaC (fun h => ⟨by simp [ybO]; omega, rfl⟩) fun g2 => ?_
  refine yCi (fun mm x w' => ∃ k : Nat, x = k ∧ k ≤ s.size ∧ ((s.data.toList.take k).all fun b => okC b.toNat) = true ∧ w' = w ∧ mm = s.size - k) s.size ⟨0, rfl, by omega, by simp, rfl, rfl⟩ ?_
  rintro mm x w' ⟨k, rfl, hk, ha, rfl, rfl⟩
  refine yaC (fun hlt => ?_) fun hge => ?_
  · have hk' : k < s.size := by omega
    obtain ⟨b, hb, hv⟩ := ycN hk'
    refine ⟨by omega, by omega, ?_⟩
    rw [Int.toNat_natCast, hv]
    have bad : okC b.toNat = false → ybO s = false := fun h => by
      have : (s.data.toList.all fun b => okC b.toNat) = false := by
        rw [List.all_eq_false]
        exact ⟨b, List.mem_of_getElem? hb, by simp [h]⟩
      simp only [ybO, this, Bool.and_false]
    have good : okC b.toNat = true → ((s.data.toList.take (k + 1)).all fun b => okC b.toNat) = true := fun h => by
      rw [List.take_add_one, hb]
      simp at ha ⊢
      exact ⟨ha, h⟩
    repeat' (first | refine yaB (fun _ => ?_) (fun _ => ?_) | (intro w' A))
    all_goals first
      | (refine yCh (s.size - (k + 1)) (by omega) ⟨k + 1, by rw [yaH (by omega) (by omega)]; omega, by omega, good ?_, rfl, rfl⟩
         simp [okC] at *
         omega)
      | (refine ⟨congrArg Value.bool (bad ?_).symm, rfl⟩
         simp [okC] at *
         omega)
  · have hk : k = s.size := by omega
    subst hk
    refine ⟨?_, rfl⟩
    rw [List.take_of_length_le (by simp)] at ha
    simp only [ybO, ha, Bool.and_true]
    rw [decide_eq_true (by omega)]
theorem ycB {α : Type} {l1 l2 : List α} {k : Nat} {x : α} (ht : l1.take k = l2.take k) (h1 : l1[k]? = some x) (h2 : l2[k]? = some x) : l1.take (k + 1) = l2.take (k + 1) := by
 rw [List.take_add_one, List.take_add_one, ht, h1, h2]
theorem yG5 {w : World} {a1 a2 : Option Addr} {n1 c1 n2 c2 : Nat} {l1 l2 : List PFound} (h1 : yb3 w 5 yiM a1 n1 l1) (h2 : yb3 w 5 yiM a2 n2 l2) (hl : l1.length ≤ 1000000) :
  Calls pP 73 #[.slice a1 n1 c1, .slice a2 n2 c2] w fun e w' => e = .returned (.bool (decide (l1 = l2))) ∧ Mod [] w w' := by
 refine yaP (yJ8 ?_)
 have e1 := h1.1
 have e2 := h2.1
 refine yaB (fun h => ⟨congrArg Value.bool (decide_eq_false fun e => ?_).symm, Mod.refl _⟩) fun h => ?_
 ·subst e
  rw [e1, e2] at h
  simp at h
 have hlen : l1.length = l2.length := by
  simp at h
  omega
 refine yCr (fun mm x w' => ∃ k : Nat, x = k ∧ k ≤ l1.length ∧ l1.take k = l2.take k ∧ Mod [] w w' ∧ mm = l1.length - k) l1.length ⟨0, rfl, by omega, by simp, Mod.refl _, rfl⟩ ?_
 rintro mm x w1 ⟨k, rfl, hk, ht, M, rfl⟩
 refine yaC (fun hlt => ?_) fun hge => ?_
 ·have g1 : k < l1.length := by omega
  have g2 : k < l2.length := by omega
  obtain ⟨x, hx⟩ : ∃ x, l1[k]? = some x := ⟨_, List.getElem?_eq_getElem g1⟩
  obtain ⟨y, hy⟩ : ∃ y, l2[k]? = some y := ⟨_, List.getElem?_eq_getElem g2⟩
  refine (h1.keep0 M).ix hx fun q hq => yaF (by simpa [add_zero] using hq 0 _ rfl) (yaN (hq 1 _ rfl) (yaG (hq 2 _ rfl) (yaN (hq 3 _ rfl) (yaG (hq 4 _ rfl) ?_))))
  refine (h2.keep0 M).ix hy fun q hq => yaF (by simpa [add_zero] using hq 0 _ rfl) (yaN (hq 1 _ rfl) (yaG (hq 2 _ rfl) (yaN (hq 3 _ rfl) (yaG (hq 4 _ rfl) ?_))))
  refine ⟨_, fun w' _ => neF x y _ _ w', ?_⟩
  refine yaC (fun hne => ?_) fun heq => ?_
  ·intro w2 A2
   refine ⟨congrArg Value.bool (decide_eq_false fun e => hne ?_).symm, M.go0 A2.mod (by simp)⟩
   subst e
   rw [hx] at hy
   exact Option.some.inj hy
  ·intro w2 A2
   have he : x = y := Decidable.not_not.1 heq
   subst he
   exact yCq (l1.length - (k + 1)) (by omega) ⟨k + 1, by rw [yaH (by omega) (by omega)]; omega, by omega, ycB ht hx hy, M.go0 A2.mod (by simp), rfl⟩
 ·have hk : k = l1.length := by omega
  subst hk
  rw [List.take_length, hlen, List.take_length] at ht
  exact ⟨congrArg Value.bool (decide_eq_true ht).symm, M⟩
theorem yyZ {w : World} {a1 a2 : Option Addr} {n1 c1 n2 c2 : Nat} {l1 l2 : List PFound} (h1 : yb3 w 5 yiM a1 n1 l1) (h2 : yb3 w 5 yiM a2 n2 l2) (hl : l1.length ≤ 1000000) :
  Calls pP 76 #[.slice a1 n1 c1, .slice a2 n2 c2] w fun e w' => e = .returned (.bool (decide (l1 = l2))) ∧ Mod [] w w' := by
 refine yaP (yJ5 ?_)
 have e1 := h1.1
 have e2 := h2.1
 refine yaB (fun h => ⟨congrArg Value.bool (decide_eq_false fun e => ?_).symm, Mod.refl _⟩) fun h => ?_
 ·subst e
  rw [e1, e2] at h
  simp at h
 have hlen : l1.length = l2.length := by
  simp at h
  omega
 refine yCl (fun mm x w' => ∃ k : Nat, x = k ∧ k ≤ l1.length ∧ l1.take k = l2.take k ∧ Mod [] w w' ∧ mm = l1.length - k) l1.length ⟨0, rfl, by omega, by simp, Mod.refl _, rfl⟩ ?_
 rintro mm x w1 ⟨k, rfl, hk, ht, M, rfl⟩
 refine yaC (fun hlt => ?_) fun hge => ?_
 ·have g1 : k < l1.length := by omega
  have g2 : k < l2.length := by omega
  obtain ⟨x, hx⟩ : ∃ x, l1[k]? = some x := ⟨_, List.getElem?_eq_getElem g1⟩
  obtain ⟨y, hy⟩ : ∃ y, l2[k]? = some y := ⟨_, List.getElem?_eq_getElem g2⟩
  refine (h1.keep0 M).ix hx fun q hq => yaF (by simpa [add_zero] using hq 0 _ rfl) (yaN (hq 1 _ rfl) (yaG (hq 2 _ rfl) (yaN (hq 3 _ rfl) (yaG (hq 4 _ rfl) ?_))))
  refine (h2.keep0 M).ix hy fun q hq => yaF (by simpa [add_zero] using hq 0 _ rfl) (yaN (hq 1 _ rfl) (yaG (hq 2 _ rfl) (yaN (hq 3 _ rfl) (yaG (hq 4 _ rfl) ?_))))
  refine ⟨_, fun w' _ => neF x y _ _ w', ?_⟩
  refine yaC (fun hne => ?_) fun heq => ?_
  ·intro w2 A2
   refine ⟨congrArg Value.bool (decide_eq_false fun e => hne ?_).symm, M.go0 A2.mod (by simp)⟩
   subst e
   rw [hx] at hy
   exact Option.some.inj hy
  ·intro w2 A2
   have he : x = y := Decidable.not_not.1 heq
   subst he
   exact yCk (l1.length - (k + 1)) (by omega) ⟨k + 1, by rw [yaH (by omega) (by omega)]; omega, by omega, ycB ht hx hy, M.go0 A2.mod (by simp), rfl⟩
 ·have hk : k = l1.length := by omega
  subst hk
  rw [List.take_length, hlen, List.take_length] at ht
  exact ⟨congrArg Value.bool (decide_eq_true ht).symm, M⟩
theorem yG6 {w : World} {a1 a2 : Option Addr} {n1 c1 n2 c2 : Nat} {l1 l2 : List PPart} (h1 : yb3 w 2 yjW a1 n1 l1) (h2 : yb3 w 2 yjW a2 n2 l2) (hl : l1.length ≤ 1000000) :
  Calls pP 74 #[.slice a1 n1 c1, .slice a2 n2 c2] w fun e w' => e = .returned (.bool (decide (l1 = l2))) ∧ Mod [] w w' := by
 refine yaP (yGW ?_)
 have e1 := h1.1
 have e2 := h2.1
 refine yaB (fun h => ⟨congrArg Value.bool (decide_eq_false fun e => ?_).symm, Mod.refl _⟩) fun h => ?_
 ·subst e
  rw [e1, e2] at h
  simp at h
 have hlen : l1.length = l2.length := by
  simp at h
  omega
 refine yyN (fun mm x w' => ∃ k : Nat, x = k ∧ k ≤ l1.length ∧ l1.take k = l2.take k ∧ Mod [] w w' ∧ mm = l1.length - k) l1.length ⟨0, rfl, by omega, by simp, Mod.refl _, rfl⟩ ?_
 rintro mm x w1 ⟨k, rfl, hk, ht, M, rfl⟩
 refine yaC (fun hlt => ?_) fun hge => ?_
 ·have g1 : k < l1.length := by omega
  have g2 : k < l2.length := by omega
  obtain ⟨x, hx⟩ : ∃ x, l1[k]? = some x := ⟨_, List.getElem?_eq_getElem g1⟩
  obtain ⟨y, hy⟩ : ∃ y, l2[k]? = some y := ⟨_, List.getElem?_eq_getElem g2⟩
  refine (h1.keep0 M).ix hx fun q hq => yaG (by simpa [add_zero] using hq 0 _ rfl) (yaF (hq 1 _ rfl) ?_)
  refine (h2.keep0 M).ix hy fun q hq => yaG (by simpa [add_zero] using hq 0 _ rfl) (yaF (hq 1 _ rfl) ?_)
  refine ⟨_, fun w' _ => neP x y _ _ w', ?_⟩
  refine yaC (fun hne => ?_) fun heq => ?_
  ·intro w2 A2
   refine ⟨congrArg Value.bool (decide_eq_false fun e => hne ?_).symm, M.go0 A2.mod (by simp)⟩
   subst e
   rw [hx] at hy
   exact Option.some.inj hy
  ·intro w2 A2
   have he : x = y := Decidable.not_not.1 heq
   subst he
   exact yyM (l1.length - (k + 1)) (by omega) ⟨k + 1, by rw [yaH (by omega) (by omega)]; omega, by omega, ycB ht hx hy, M.go0 A2.mod (by simp), rfl⟩
 ·have hk : k = l1.length := by omega
  subst hk
  rw [List.take_length, hlen, List.take_length] at ht
  exact ⟨congrArg Value.bool (decide_eq_true ht).symm, M⟩
theorem yy0 {w : World} {a1 a2 : Option Addr} {n1 c1 n2 c2 : Nat} {l1 l2 : List PPart} (h1 : yb3 w 2 yjW a1 n1 l1) (h2 : yb3 w 2 yjW a2 n2 l2) (hl : l1.length ≤ 1000000) :
  Calls pP 77 #[.slice a1 n1 c1, .slice a2 n2 c2] w fun e w' => e = .returned (.bool (decide (l1 = l2))) ∧ Mod [] w w' := by
 refine yaP (yJ6 ?_)
 have e1 := h1.1
 have e2 := h2.1
 refine yaB (fun h => ⟨congrArg Value.bool (decide_eq_false fun e => ?_).symm, Mod.refl _⟩) fun h => ?_
 ·subst e
  rw [e1, e2] at h
  simp at h
 have hlen : l1.length = l2.length := by
  simp at h
  omega
 refine yCo (fun mm x w' => ∃ k : Nat, x = k ∧ k ≤ l1.length ∧ l1.take k = l2.take k ∧ Mod [] w w' ∧ mm = l1.length - k) l1.length ⟨0, rfl, by omega, by simp, Mod.refl _, rfl⟩ ?_
 rintro mm x w1 ⟨k, rfl, hk, ht, M, rfl⟩
 refine yaC (fun hlt => ?_) fun hge => ?_
 ·have g1 : k < l1.length := by omega
  have g2 : k < l2.length := by omega
  obtain ⟨x, hx⟩ : ∃ x, l1[k]? = some x := ⟨_, List.getElem?_eq_getElem g1⟩
  obtain ⟨y, hy⟩ : ∃ y, l2[k]? = some y := ⟨_, List.getElem?_eq_getElem g2⟩
  refine (h1.keep0 M).ix hx fun q hq => yaG (by simpa [add_zero] using hq 0 _ rfl) (yaF (hq 1 _ rfl) ?_)
  refine (h2.keep0 M).ix hy fun q hq => yaG (by simpa [add_zero] using hq 0 _ rfl) (yaF (hq 1 _ rfl) ?_)
  refine ⟨_, fun w' _ => neP x y _ _ w', ?_⟩
  refine yaC (fun hne => ?_) fun heq => ?_
  ·intro w2 A2
   refine ⟨congrArg Value.bool (decide_eq_false fun e => hne ?_).symm, M.go0 A2.mod (by simp)⟩
   subst e
   rw [hx] at hy
   exact Option.some.inj hy
  ·intro w2 A2
   have he : x = y := Decidable.not_not.1 heq
   subst he
   exact yCn (l1.length - (k + 1)) (by omega) ⟨k + 1, by rw [yaH (by omega) (by omega)]; omega, by omega, ycB ht hx hy, M.go0 A2.mod (by simp), rfl⟩
 ·have hk : k = l1.length := by omega
  subst hk
  rw [List.take_length, hlen, List.take_length] at ht
  exact ⟨congrArg Value.bool (decide_eq_true ht).symm, M⟩
theorem yG7 (r r' : PRep) : decide (r = r') = (decide (r.e = r'.e) && decide (r.off = r'.off) && decide (r.n = r'.n) && decide (r.gen = r'.gen) && decide (r.found = r'.found) && decide (r.parts = r'.parts)) := by
 obtain ⟨a, b, c, d, e, f⟩ := r
 obtain ⟨a', b', c', d', e', f'⟩ := r'
 rw [Bool.eq_iff_iff]
 simp [and_assoc]
theorem yCs {w : World} {r r' : PRep} {f p f' p' : Sl} (h : RepAt w r f p) (h' : RepAt w r' f' p') :
  Calls pP 38 #[r.v f p, r'.v f' p'] w fun e w' => e = .returned (.bool (decide (r = r'))) ∧ Mod [] w w' := by
 rw [yG7]
 refine yaP (yGX ?_)
 intro b1 f1 b2 f2
 refine yaB (fun g1 => ?_) (fun g1 => ?_)
 rotate_left
 ·intro w1 A1; simp at g1; exact ⟨by simp [g1], A1.mod⟩
 refine yaB (fun g2 => ?_) (fun g2 => ?_)
 rotate_left
 ·intro w1 A1; simp at g2; exact ⟨by simp [g2], A1.mod⟩
 refine yaB (fun g3 => ?_) (fun g3 => ?_)
 rotate_left
 ·intro w1 A1; simp at g3; exact ⟨by simp [g3], A1.mod⟩
 refine yaB (fun g4 => ?_) (fun g4 => ?_)
 rotate_left
 ·intro w1 A1; simp at g4; exact ⟨by simp [g4], A1.mod⟩
 simp at g1 g2 g3 g4
 intro w1 A1
 refine (yG5 (h.keep0 A1.mod).found (h'.keep0 A1.mod).found h.lf).mono ?_
 rintro e w2 ⟨rfl, M2⟩
 refine ⟨_, rfl, yaE.of0 M2, ?_⟩
 have M := A1.mod.go0 M2 (by simp)
 refine yaB (fun g5 => ?_) (fun g5 => ?_)
 ·refine (yG6 (h.keep0 M).parts (h'.keep0 M).parts h.lp).mono ?_
  rintro e w3 ⟨rfl, M3⟩
  refine ⟨_, rfl, yaE.of0 M3, ?_, M.go0 M3 (by simp)⟩
  simp at g5
  simp [g1, g2, g3, g4, g5]
 ·refine ⟨?_, M⟩
  simp at g5
  simp [g5]
theorem yy1 {w : World} {r r' : PRep} {f p f' p' : Sl} (h : RepAt w r f p) (h' : RepAt w r' f' p') :
  Calls pP 40 #[r.v f p, r'.v f' p'] w fun e w' => e = .returned (.bool (decide (r = r'))) ∧ Mod [] w w' := by
 rw [yG7]
 refine yaP (yJ7 ?_)
 intro b1 f1 b2 f2
 refine yaB (fun g1 => ?_) (fun g1 => ?_)
 rotate_left
 ·intro w1 A1; simp at g1; exact ⟨by simp [g1], A1.mod⟩
 refine yaB (fun g2 => ?_) (fun g2 => ?_)
 rotate_left
 ·intro w1 A1; simp at g2; exact ⟨by simp [g2], A1.mod⟩
 refine yaB (fun g3 => ?_) (fun g3 => ?_)
 rotate_left
 ·intro w1 A1; simp at g3; exact ⟨by simp [g3], A1.mod⟩
 refine yaB (fun g4 => ?_) (fun g4 => ?_)
 rotate_left
 ·intro w1 A1; simp at g4; exact ⟨by simp [g4], A1.mod⟩
 simp at g1 g2 g3 g4
 intro w1 A1
 refine (yyZ (h.keep0 A1.mod).found (h'.keep0 A1.mod).found h.lf).mono ?_
 rintro e w2 ⟨rfl, M2⟩
 refine ⟨_, rfl, yaE.of0 M2, ?_⟩
 have M := A1.mod.go0 M2 (by simp)
 refine yaB (fun g5 => ?_) (fun g5 => ?_)
 ·refine (yy0 (h.keep0 M).parts (h'.keep0 M).parts h.lp).mono ?_
  rintro e w3 ⟨rfl, M3⟩
  refine ⟨_, rfl, yaE.of0 M3, ?_, M.go0 M3 (by simp)⟩
  simp at g5
  simp [g1, g2, g3, g4, g5]
 ·refine ⟨?_, M⟩
  simp at g5
  simp [g5]
theorem yEX : (Tryz.prog.info? 55).map (fun i => (i.zero, i.size, i.bytes)) = some (some (.agg #[.int .i64 0, .bool false, .string ByteArray.empty, .bool false, .string ByteArray.empty]), 5, 56) := by kernel_rfl
theorem yCt : (Tryz.prog.info? 43).map (fun i => (i.zero, i.size, i.bytes)) = some (some (.agg #[.string ByteArray.empty, .int .i64 0]), 2, 24) := by kernel_rfl
theorem ynE (x : PFound) : ∀ u ∈ yiM x, u.oneCell' = true := by simp [yiM, Value.oneCell']
theorem yi0 (x : PPart) : ∀ u ∈ yjW x, u.oneCell' = true := by simp [yjW, Value.oneCell']
theorem yy2 {w : World} {s : Sl} {l : List PFound} (h : yb3 w 5 yiM s.a s.n l) (hl : l.length ≤ 1000000) :
  Calls pP 50 #[.slice s.a s.n s.c] w fun e w' => ∃ v, e = .returned v ∧ ∃ s' : Sl, v = .slice s'.a s'.n s'.c ∧ Row w' w.heap.size 55 5 yiM s'.a s'.n s'.c l ∧ Mod [] w w' := by
 refine yGY ?_
 refine yaB (fun h0 => ?_) fun _ => ?_
 ·have hl0 : l = [] := by
   cases l with
   | nil => rfl
   | cons x r => obtain ⟨ad, ha, _⟩ := h.2 0 x rfl; rw [ha] at h0; cases h0
  subst hl0
  exact ⟨⟨none, 0, 0⟩, rfl, Row.nil .., Mod.refl _⟩
 ·refine ydB fun b w1 c1 M1 f1 => ?_
  obtain ⟨i0, hi, hz0, hz1, hz2⟩ := info_parts yEX
  refine yd3 (Row.fresh c1 f1) Tryz.underlying24 hi hz0 hz1 hz2 rfl (by decide) (h.keep0 M1) yiW ynE (by simp; omega) (by simp; unfold maxLen; omega) M1.size fun a' n' c' w2 hR hM => ?_
  exact ⟨⟨a', n', c'⟩, rfl, by simpa using hR, M1.go0 (hM [b] (by simp)) (by simpa using f1)⟩
theorem yy3 {w : World} {s : Sl} {l : List PPart} (h : yb3 w 2 yjW s.a s.n l) (hl : l.length ≤ 1000000) :
  Calls pP 51 #[.slice s.a s.n s.c] w fun e w' => ∃ v, e = .returned v ∧ ∃ s' : Sl, v = .slice s'.a s'.n s'.c ∧ Row w' w.heap.size 43 2 yjW s'.a s'.n s'.c l ∧ Mod [] w w' := by
 refine yGZ ?_
 refine yaB (fun h0 => ?_) fun _ => ?_
 ·have hl0 : l = [] := by
   cases l with
   | nil => rfl
   | cons x r => obtain ⟨ad, ha, _⟩ := h.2 0 x rfl; rw [ha] at h0; cases h0
  subst hl0
  exact ⟨⟨none, 0, 0⟩, rfl, Row.nil .., Mod.refl _⟩
 ·refine ydB fun b w1 c1 M1 f1 => ?_
  obtain ⟨i0, hi, hz0, hz1, hz2⟩ := info_parts yCt
  refine yd3 (Row.fresh c1 f1) Tryz.underlying25 hi hz0 hz1 hz2 rfl (by decide) (h.keep0 M1) yiX yi0 (by simp; omega) (by simp; unfold maxLen; omega) M1.size fun a' n' c' w2 hR hM => ?_
  exact ⟨⟨a', n', c'⟩, rfl, by simpa using hR, M1.go0 (hM [b] (by simp)) (by simpa using f1)⟩
def ok0 (r : PRep) : Bool := num r.e && num r.off && num r.n && num r.gen
def okF (x : PFound) : Bool := num x.off
def yy4 (x : PFound) : Bool := yfQ x.r != 0
def okP (x : PPart) : Bool := num x.n
def yEY (x : PPart) : Bool := !ybO x.t
def yfR (r : PRep) : Int :=
 if (ok0 r && r.found.all okF && r.parts.all okP) = false then 1 else if r.found.length > 64 then 2 else if r.parts.length > 64 then 2 else if (r.found.any yy4 || r.parts.any yEY) = true then 40 else 0
theorem yb6 {α : Type} {p : α → Bool} {l : List α} {k : Nat} {x : α} (hx : l[k]? = some x) : (l.take (k + 1)).all p = ((l.take k).all p && p x) := by
 rw [List.take_add_one, hx]; simp
theorem yd4 {α : Type} {p : α → Bool} {l : List α} {k : Nat} {x : α} (hx : l[k]? = some x) : (l.take (k + 1)).any p = ((l.take k).any p || p x) := by
 rw [List.take_add_one, hx]; simp
theorem yi1 {b : Bool} (h : (!b) = true) : b = false := by cases b <;> simp_all
theorem yhJ {b : Bool} (h : (!b) = false) : b = true := by cases b <;> simp_all
def ytB : Prop := ∀ (s : ByteArray) (w : World), Calls pP 96 #[.string s] w fun e w' => e = .returned (.bool (ybO s)) ∧ Mod [] w w'
theorem yrH (hN : ytB) {w0 w : World} {bm : Nat} {r : PRep} {f p : Sl} (h : RepAtW w0 r f p) (M : Mod [] w0 w) (hb : bm < w.heap.size) {t3 t4 : Bool} (h3 : t3 = (ok0 r && r.found.all okF)) (h4 : t4 = r.found.any yy4) :
  yaK ynA (ykW 394 [0, 0, 1, 0, 1, 1, 1, 1]) (yJ9 [1, 1, 1, 1, 0, 1, 0] [] (ya4 pP Tryz.f57 [] fun v w' => v = .int .i64 (yfR r) ∧ Mod [] w0 w'))
   (yf6 p.a p.n p.c (p.n : Int) bm r.e r.off r.n r.gen f.a f.n f.c p.a p.n p.c (t3, t4, 0)) w := by
 have e5 := h.parts.1
 have e4 := h.found.1
 have hl := h.lp
 refine yyP (fun mm t3 t4 x w' => ∃ k : Nat, x = k ∧ k ≤ r.parts.length ∧ t3 = (ok0 r && r.found.all okF && (r.parts.take k).all okP) ∧ t4 = (r.found.any yy4 || (r.parts.take k).any yEY) ∧ Mod [] w0 w' ∧ mm = r.parts.length - k) r.parts.length ⟨0, rfl, by omega, by simp [h3], by simp [h4], M, rfl⟩ ?_
 rintro mm t3 t4 x w1 ⟨k, rfl, hk, rfl, rfl, M1, rfl⟩
 refine yaC (fun hlt => ?_) fun hge => ?_
 ·have g1 : k < r.parts.length := by omega
  obtain ⟨x, hx⟩ : ∃ x, r.parts[k]? = some x := ⟨_, List.getElem?_eq_getElem g1⟩
  have ek : IntKind.wrap .i64 ((k : Int) + 1) = ((k + 1 : Nat) : Int) := by rw [yaH (by omega) (by omega)]; omega
  refine (h.keep0 M1).parts.ix hx fun q hq => yaG (by simpa [add_zero] using hq 0 _ rfl) (yaF (hq 1 _ rfl) ?_)
  intro b2 f2
  refine yaB (fun g3 => ?_) (fun g3 => ?_)
  ·intro w2 A2
   refine (yc3 x.n w2).mono ?_
   rintro e w3 ⟨rfl, rfl⟩
   refine ⟨_, rfl, yaE.of0 (Mod.refl _), ?_⟩
   refine yaB (fun g4 => ?_) (fun g4 => ?_)
   ·exact yg1 (r.parts.length - (k + 1)) (by omega) ⟨k + 1, ek, by omega, by rw [yb6 hx, ← Bool.and_assoc, g3]; rfl, by rw [yd4 hx, ← Bool.or_assoc, g4]; rfl, M1.go0 A2.mod (by simp), rfl⟩
   ·refine (hN x.t w3).mono ?_
    rintro e w4 ⟨rfl, M4⟩
    refine ⟨_, rfl, yaE.of0 M4, ?_⟩
    exact yg1 (r.parts.length - (k + 1)) (by omega) ⟨k + 1, ek, by omega, by rw [yb6 hx, ← Bool.and_assoc, g3]; rfl, by rw [yd4 hx, ← Bool.or_assoc, g4]; rfl, (M1.go0 A2.mod (by simp)).go0 M4 (by simp), rfl⟩
  ·refine yaB (fun g4 => ?_) (fun g4 => ?_)
   ·intro w2 A2
    exact yg1 (r.parts.length - (k + 1)) (by omega) ⟨k + 1, ek, by omega, by rw [yb6 hx, ← Bool.and_assoc, g3]; rfl, by rw [yd4 hx, ← Bool.or_assoc, g4]; rfl, M1.go0 A2.mod (by simp), rfl⟩
   ·intro w2 A2
    refine (hN x.t w2).mono ?_
    rintro e w4 ⟨rfl, M4⟩
    refine ⟨_, rfl, yaE.of0 M4, ?_⟩
    exact yg1 (r.parts.length - (k + 1)) (by omega) ⟨k + 1, ek, by omega, by rw [yb6 hx, ← Bool.and_assoc, g3]; rfl, by rw [yd4 hx, ← Bool.or_assoc, g4]; rfl, (M1.go0 A2.mod (by simp)).go0 M4 (by simp), rfl⟩
 ·have hk : k = r.parts.length := by omega
  subst hk
  rw [List.take_length]
  unfold yfR
  refine yaB (fun g1 => ⟨by rw [if_pos (yi1 g1)], M1⟩) fun g1 => ?_
  rw [if_neg (by rw [yhJ g1]; decide)]
  refine yaC (fun g2 => ⟨by rw [if_pos (by omega)], M1⟩) fun g2 => ?_
  rw [if_neg (by omega)]
  refine yaC (fun g3 => ⟨by rw [if_pos (by omega)], M1⟩) fun g3 => ?_
  rw [if_neg (by omega)]
  refine yaB (fun g4 => ⟨by rw [if_pos g4], M1⟩) fun g4 => ?_
  exact ⟨by rw [if_neg (by rw [g4]; decide)], M1⟩
theorem yfS (hN : ytB) {w0 w : World} {bm : Nat} {r : PRep} {f p : Sl} (h : RepAtW w0 r f p) (M : Mod [] w0 w) (hb : bm < w.heap.size) {t : Bool} (ht : t = ok0 r) :
  yDt t bm r.e r.off r.n r.gen f.a f.n f.c p.a p.n p.c (fun v w' => v = .int .i64 (yfR r) ∧ Mod [] w0 w') w := by
 have e4 := h.found.1
 have hl := h.lf
 refine yyO (fun mm t3 t4 x w' => ∃ k : Nat, x = k ∧ k ≤ r.found.length ∧ t3 = (ok0 r && (r.found.take k).all okF) ∧ t4 = (r.found.take k).any yy4 ∧ Mod [] w0 w' ∧ bm < w'.heap.size ∧ mm = r.found.length - k) r.found.length ⟨0, rfl, by omega, by simp [ht], by simp, M, hb, rfl⟩ ?_
 rintro mm t3 t4 x w1 ⟨k, rfl, hk, rfl, rfl, M1, hb1, rfl⟩
 refine yaC (fun hlt => ?_) fun hge => ?_
 ·have g1 : k < r.found.length := by omega
  obtain ⟨x, hx⟩ : ∃ x, r.found[k]? = some x := ⟨_, List.getElem?_eq_getElem g1⟩
  have ek : IntKind.wrap .i64 ((k : Int) + 1) = ((k + 1 : Nat) : Int) := by rw [yaH (by omega) (by omega)]; omega
  refine (h.keep0 M1).found.ix hx fun q hq => yaF (by simpa [add_zero] using hq 0 _ rfl) (yaN (hq 1 _ rfl) (yaG (hq 2 _ rfl) (yaN (hq 3 _ rfl) (yaG (hq 4 _ rfl) ?_))))
  intro b2 f2
  have fin : ∀ {w'}, Mod [] w0 w' → w1.heap.size ≤ w'.heap.size → ∃ k' : Nat, IntKind.wrap .i64 ((k : Int) + 1) = k' ∧ k' ≤ r.found.length ∧ (ok0 r && (r.found.take k).all okF && okF x) = (ok0 r && (r.found.take k').all okF) ∧ ((r.found.take k).any yy4 || yy4 x) = (r.found.take k').any yy4 ∧ Mod [] w0 w' ∧ bm < w'.heap.size ∧ r.found.length - (k + 1) = r.found.length - k' :=
   fun {w'} hM hs => ⟨k + 1, ek, by omega, by rw [yb6 hx, ← Bool.and_assoc], by rw [yd4 hx], hM, by omega, rfl⟩
  refine yaB (fun g3 => ?_) (fun g3 => ?_)
  ·intro w2 A2
   have s2 := A2.mod.size
   refine (yc3 x.off w2).mono ?_
   rintro e w3 ⟨rfl, rfl⟩
   refine ⟨_, rfl, yaE.of0 (Mod.refl _), ?_⟩
   refine yaB (fun g4 => ?_) (fun g4 => ?_)
   ·have := fin (M1.go0 A2.mod (by simp)) s2
    rw [g3, g4, Bool.true_and, Bool.true_or] at this
    exact yg0 (r.found.length - (k + 1)) (by omega) this
   ·refine (yeZ x.r w3).mono ?_
    rintro e w4 ⟨rfl, M4⟩
    have s4 := M4.size
    refine ⟨_, rfl, yaE.of0 M4, ?_⟩
    have := fin ((M1.go0 A2.mod (by simp)).go0 M4 (by simp)) (by omega)
    rw [g3, g4, Bool.true_and, Bool.false_or] at this
    exact yg0 (r.found.length - (k + 1)) (by omega) this
  ·refine yaB (fun g4 => ?_) (fun g4 => ?_)
   ·intro w2 A2
    have := fin (M1.go0 A2.mod (by simp)) A2.mod.size
    rw [g3, g4, Bool.false_and, Bool.true_or] at this
    exact yg0 (r.found.length - (k + 1)) (by omega) this
   ·intro w2 A2
    have s2 := A2.mod.size
    refine (yeZ x.r w2).mono ?_
    rintro e w4 ⟨rfl, M4⟩
    have s4 := M4.size
    refine ⟨_, rfl, yaE.of0 M4, ?_⟩
    have := fin ((M1.go0 A2.mod (by simp)).go0 M4 (by simp)) (by omega)
    rw [g3, g4, Bool.false_and, Bool.false_or] at this
    exact yg0 (r.found.length - (k + 1)) (by omega) this
 ·have hk : k = r.found.length := by omega
  subst hk
  rw [List.take_length]
  exact yrH hN h M1 hb1 rfl rfl
theorem yy5 (hN : ytB) {w : World} {r : PRep} {f p : Sl} (h : RepAtW w r f p) :
  Calls pP 57 #[r.v f p] w fun e w' => e = .returned (.int .i64 (yfR r)) ∧ Mod [] w w' := by
 refine yaP (yG2 ?_)
 intro b1 f1 w1 A1
 have l1 := A1.lt b1 (by simp)
 refine (yc3 _ _).mono ?_
 rintro e w2 ⟨rfl, rfl⟩
 refine ⟨_, rfl, yaE.of0 (Mod.refl _), yaB (fun g1 => ?_) (fun g1 => ?_)⟩
 rotate_left
 ·refine yiY (fun t bm x0 x1 x2 x3 a4 n4 c4 a5 n5 c5 w' => t = ok0 r ∧ bm < w'.heap.size ∧ x0 = r.e ∧ x1 = r.off ∧ x2 = r.n ∧ x3 = r.gen ∧ a4 = f.a ∧ n4 = f.n ∧ c4 = f.c ∧ a5 = p.a ∧ n5 = p.n ∧ c5 = p.c ∧ Mod [] w w') ⟨by simp [ok0, g1], l1, rfl, rfl, rfl, rfl, rfl, rfl, rfl, rfl, rfl, rfl, A1.mod⟩ ?_
  rintro t bm x0 x1 x2 x3 a4 n4 c4 a5 n5 c5 w' ⟨ht, hb, rfl, rfl, rfl, rfl, rfl, rfl, rfl, rfl, rfl, rfl, M⟩
  exact yfS hN h M hb ht
 refine (yc3 _ _).mono ?_
 rintro e w2 ⟨rfl, rfl⟩
 refine ⟨_, rfl, yaE.of0 (Mod.refl _), yaB (fun g2 => ?_) (fun g2 => ?_)⟩
 rotate_left
 ·refine yiY (fun t bm x0 x1 x2 x3 a4 n4 c4 a5 n5 c5 w' => t = ok0 r ∧ bm < w'.heap.size ∧ x0 = r.e ∧ x1 = r.off ∧ x2 = r.n ∧ x3 = r.gen ∧ a4 = f.a ∧ n4 = f.n ∧ c4 = f.c ∧ a5 = p.a ∧ n5 = p.n ∧ c5 = p.c ∧ Mod [] w w') ⟨by simp [ok0, g2], l1, rfl, rfl, rfl, rfl, rfl, rfl, rfl, rfl, rfl, rfl, A1.mod⟩ ?_
  rintro t bm x0 x1 x2 x3 a4 n4 c4 a5 n5 c5 w' ⟨ht, hb, rfl, rfl, rfl, rfl, rfl, rfl, rfl, rfl, rfl, rfl, M⟩
  exact yfS hN h M hb ht
 refine (yc3 _ _).mono ?_
 rintro e w2 ⟨rfl, rfl⟩
 refine ⟨_, rfl, yaE.of0 (Mod.refl _), yaB (fun g3 => ?_) (fun g3 => ?_)⟩
 rotate_left
 ·refine yiY (fun t bm x0 x1 x2 x3 a4 n4 c4 a5 n5 c5 w' => t = ok0 r ∧ bm < w'.heap.size ∧ x0 = r.e ∧ x1 = r.off ∧ x2 = r.n ∧ x3 = r.gen ∧ a4 = f.a ∧ n4 = f.n ∧ c4 = f.c ∧ a5 = p.a ∧ n5 = p.n ∧ c5 = p.c ∧ Mod [] w w') ⟨by simp [ok0, g3], l1, rfl, rfl, rfl, rfl, rfl, rfl, rfl, rfl, rfl, rfl, A1.mod⟩ ?_
  rintro t bm x0 x1 x2 x3 a4 n4 c4 a5 n5 c5 w' ⟨ht, hb, rfl, rfl, rfl, rfl, rfl, rfl, rfl, rfl, rfl, rfl, M⟩
  exact yfS hN h M hb ht
 refine (yc3 _ _).mono ?_
 rintro e w2 ⟨rfl, rfl⟩
 refine ⟨_, rfl, yaE.of0 (Mod.refl _), ?_⟩
 refine yiY (fun t bm x0 x1 x2 x3 a4 n4 c4 a5 n5 c5 w' => t = ok0 r ∧ bm < w'.heap.size ∧ x0 = r.e ∧ x1 = r.off ∧ x2 = r.n ∧ x3 = r.gen ∧ a4 = f.a ∧ n4 = f.n ∧ c4 = f.c ∧ a5 = p.a ∧ n5 = p.n ∧ c5 = p.c ∧ Mod [] w w') ⟨by simp [ok0, g1, g2, g3], l1, rfl, rfl, rfl, rfl, rfl, rfl, rfl, rfl, rfl, rfl, A1.mod⟩ ?_
 rintro t bm x0 x1 x2 x3 a4 n4 c4 a5 n5 c5 w' ⟨ht, hb, rfl, rfl, rfl, rfl, rfl, rfl, rfl, rfl, rfl, rfl, M⟩
 exact yfS hN h M hb ht
end Go.Proofs.YtkbcmppbjfpjmaaGreat
namespace Go.Proofs
open Go.Shelf
shelf_lay LaysGw.n17 Ggw 17 at Tryz as Tryz.layCF
end Go.Proofs
namespace Go.Proofs.YtkbcmppbjfpjmaaGreat
open Go Go.RowKit
set_option linter.unusedVariables false
set_option linter.unusedSimpArgs false
theorem yG8 (c : Int) (w : World) : Calls pP 119 #[.int .i32 c] w fun e w' => e = .returned (.bool (!okC c)) ∧ w' = w := by
 refine yaP (yG1 ?_)
 repeat' (first | refine yaB (fun _ => ?_) (fun _ => ?_) | (intro w' A))
 all_goals
  refine ⟨congrArg Value.bool ?_, rfl⟩
  rw [Bool.eq_iff_iff]
  simp [okC] at *
  try omega
theorem ytC (s : ByteArray) : ∀ (f pos : Nat), s.size ≤ pos + f → (0 ≤ Lib.idxFuncFrom (fun x => !okC x) true s f pos ↔ ∃ i b, pos ≤ i ∧ s.data.toList[i]? = some b ∧ okC (b.toNat : Int) = false)
 | 0, pos, h => by
  constructor
  ·intro h; simp [Lib.idxFuncFrom] at h
  ·rintro ⟨i, b, h1, h2, _⟩
   have := (List.getElem?_eq_some_iff.1 h2).1
   simp at this; omega
 | f + 1, pos, h => by
  unfold Lib.idxFuncFrom
  split
  ·rename_i hp
   have hd : s.data.toList[pos]? = some s[pos] := by
    rw [List.getElem?_eq_getElem (by simpa using hp)]; rfl
   by_cases ha : (s[pos]).toNat < 128
   ·rw [decode_ascii s pos hp ha]
    have ih := ytC s f (pos + 1) (by omega)
    by_cases ho : okC ((s[pos]).toNat : Int) = true
    ·simp only [ho, Bool.not_true]
     rw [if_neg (by decide), ih]
     constructor
     ·rintro ⟨i, b, h1, h2, h3⟩; exact ⟨i, b, by omega, h2, h3⟩
     ·rintro ⟨i, b, h1, h2, h3⟩
      refine ⟨i, b, ?_, h2, h3⟩
      rcases Nat.lt_or_ge pos i with h4 | h4
      ·exact h4
      ·have : i = pos := by omega
       subst this
       rw [hd] at h2; cases h2
       rw [ho] at h3; cases h3
    ·have ho' : okC ((s[pos]).toNat : Int) = false := by simpa using ho
     simp only [ho', Bool.not_false]
     rw [if_pos trivial]
     exact ⟨fun _ => ⟨pos, _, Nat.le_refl _, hd, ho'⟩, fun _ => by omega⟩
   ·have h1 := decode_high s pos hp (by omega)
    have ho : okC ((Utf8.decode s pos).1 : Int) = false := by simp [okC]; omega
    have ho' : okC ((s[pos]).toNat : Int) = false := by simp [okC]; omega
    simp only [ho, Bool.not_false]
    rw [if_pos trivial]
    exact ⟨fun _ => ⟨pos, _, Nat.le_refl _, hd, ho'⟩, fun _ => by omega⟩
  ·rename_i hp
   constructor
   ·intro h; simp at h
   ·rintro ⟨i, b, h1, h2, _⟩
    have := (List.getElem?_eq_some_iff.1 h2).1
    simp at this; omega
theorem yrI : ytB := by
 intro s w
 refine yaP (yG0 ?_)
 rw [yf2]
 refine yaB (fun g1 => ?_) (fun g1 => ⟨?_, Mod.refl _⟩)
 rotate_left
 ·have g1 := yhJ g1
  have h0 := (ym9 s).1 (of_decide_eq_true g1)
  simp [ybO, h0]
 have h1 : s.size ≠ 0 := fun e => by rw [decide_eq_true ((ym9 s).2 e)] at g1; cases g1
 refine yaC (fun g2 => ?_) (fun g2 => ⟨by simp [ybO]; omega, Mod.refl _⟩)
 have hC := Any.strings_ContainsFunc_grows Tryz.layCF 119 #[] (enters_of Tryz.func119 (by kernel_rfl) rfl) (fun x => !okC x) s w
  (fun W x _ _ => (yG8 (x : Int) W).mono fun e w' ⟨h, h'⟩ => ⟨h, by rw [h']; exact Below.refl _ _⟩)
 refine hC.mono ?_
 rintro e w1 ⟨rfl, hb⟩
 refine ⟨_, rfl, ?_, Mod.of_below hb⟩
 refine congrArg Value.bool ?_
 have ho := ytC s s.size 0 (by omega)
 rw [Bool.eq_iff_iff]
 simp only [ybO, Bool.not_eq_true', decide_eq_false_iff_not, Bool.and_eq_true, decide_eq_true_eq, List.all_eq_true]
 unfold Lib.idxFunc
 rw [ho]
 constructor
 ·intro h
  refine ⟨by omega, fun b hb => ?_⟩
  obtain ⟨i, hi⟩ := List.getElem?_of_mem hb
  by_cases hk : okC (b.toNat : Int) = true
  ·exact hk
  ·exact absurd ⟨i, b, Nat.zero_le _, hi, by simpa using hk⟩ h
 ·rintro ⟨_, h⟩ ⟨i, b, _, hi, hk⟩
  rw [h b (List.mem_of_getElem? hi)] at hk; cases hk
end Go.Proofs.YtkbcmppbjfpjmaaGreat
namespace Go.Proofs.YtkbcmppbjfpjmaaGreat
open Go Go.RowKit
set_option linter.all false
section
set_option maxRecDepth 100000
variable {R : VWP} {w w0 : World} {m : Nat} {i0 i1 i2 i3 i4 i5 i6 i7 i8 i9 j0 j1 j2 j3 j4 j5 j6 j7 j8 j9 k0 k1 k2 k3 k4 k5 k6 k7 k8 k9 l0 l1 l2 l3 l4 l5 l6 l7 l8 l9 : Int} {s0 s1 s2 s3 s4 s5 s6 s7 s8 s9 t0 t1 t2 t3 t4 t5 t6 t7 t8 t9 : BA} {n0 n1 n2 n3 n4 n5 n6 n7 n8 n9 o0 o1 o2 o3 o4 o5 o6 o7 o8 o9 p0 p1 p2 p3 p4 p5 p6 p7 p8 p9 : Nat} {q0 q1 q2 q3 q4 q5 q6 q7 q8 q9 r0 r1 r2 r3 r4 r5 r6 r7 r8 r9 : OA} {B0 B1 B2 B3 B4 B5 B6 B7 B8 B9 : Bool} {M0 M1 M2 M3 : Option Nat} {V0 V1 V2 V3 V4 V5 : Value} {A0 A1 A2 : Addr}
theorem yG9 {a0 : BA} (h :
 Calls pP 24 #[(.int .u64 (IntKind.wrap .u64 (a0.size : Int)))] w fun e w1 => ∃ s2, e = .returned (.string s2) ∧
 yeS s2 a0 fun s3 =>
 R (.string s3) w1) :
 CR pP 28 #[.string a0] w R :=
 yaA Tryz.wide_mixed (an := []) Tryz.func28 rfl rfl (by kernel_rfl) rfl (Eq.mpr (by kernel_rfl) h)
theorem yHa {a3 : BA} {a1 : BA} (h :
 ∀ b1, w.heap.size ≤ b1 →
 ∀ w2, Adv [] [b1] w w2 →
 Calls pP 121 #[(.agg (Z7 B0 a3 B1 a1))] w2 fun e w3 => ∃ x4, e = .returned (.int .u8 x4) ∧ yaE [b1] w2 w3 ∧
 al w3 (.cells #[.int .u8 x4] 5) fun b5 w6 =>
 ∃ s7 w8, Sem.run pP (Go.convert 40 9 (.slice (some ⟨b5, 0, none⟩) 1 1)) w6 = .ok (.string s7) w8 ∧ yaE [b1] w6 w8 ∧
 brB B0 (
 Calls pP 28 #[.string a3] w8 fun e w9 => ∃ a4, e = .returned (.string a4) ∧ yaE [b1] w8 w9 ∧
 yeS s7 a4 fun a5 =>
 brB (!B1) (
 Calls pP 28 #[.string a1] w9 fun e a8 => ∃ a6, e = .returned (.string a6) ∧ yaE [b1] w9 a8 ∧
 yeS a5 a6 fun b0 =>
 R (.string b0) a8)
 (
 R (.string a5) w9))
 (
 brB (!B1) (
 Calls pP 28 #[.string a1] w8 fun e a9 => ∃ a7, e = .returned (.string a7) ∧ yaE [b1] w8 a9 ∧
 yeS s7 a7 fun b2 =>
 R (.string b2) a9)
 (
 R (.string s7) w8))) :
 CR pP 97 #[(.agg (Z7 B0 a3 B1 a1))] w R :=
 yaA Tryz.wide_mixed (an := []) Tryz.func97 rfl rfl (by kernel_rfl) rfl (Eq.mpr (by kernel_rfl) h)
theorem yHb {a1 : BA} {a3 : BA} (h :
 ∀ b1, w.heap.size ≤ b1 →
 ∀ w2, Adv [] [b1] w w2 →
 Calls pP 95 #[(.agg (Z7 B0 a1 B1 a3))] w2 fun e w3 => ∃ x4, e = .returned (.int .i64 x4) ∧ yaE [b1] w2 w3 ∧
 brB (x4 != 0) (
 R (.tuple #[(.string (⟨#[]⟩ : BA)), .int .i64 x4]) w3)
 (
 Calls pP 97 #[(.agg (Z7 B0 a1 B1 a3))] w3 fun e w5 => ∃ s6, e = .returned (.string s6) ∧ yaE [b1] w3 w5 ∧
 R (.tuple #[.string s6, .int .i64 0]) w5)) :
 CR pP 59 #[(.agg (Z7 B0 a1 B1 a3))] w R :=
 yaA Tryz.wide_mixed (an := []) Tryz.func59 rfl rfl (by kernel_rfl) rfl (Eq.mpr (by kernel_rfl) h)
theorem yHc (h :
 ∀ w1, Adv [] [] w w1 →
 yaI .i64 w1 A1 fun x2 =>
 Calls pP 24 #[(.int .u64 (IntKind.wrap .u64 x2))] w1 fun e w3 => ∃ s4, e = .returned (.string s4) ∧
 Calls pP 23 #[(.pointer (some A0)), .string s4] w3 fun e w5 => ∃ x6 v7, e = .returned (.tuple #[.int .i64 x6, v7]) ∧
 R (.tuple #[]) w5) :
 CR pP 58 #[(.pointer (some A0)), (.pointer (some A1))] w R :=
 yaA Tryz.wide_mixed (an := []) Tryz.func58 rfl rfl (by kernel_rfl) rfl (Eq.mpr (by kernel_rfl) h)
theorem yHd (h :
 ∀ w1, Adv [] [] w w1 →
 yaQ w1 A1 fun s2 =>
 Calls pP 28 #[.string s2] w1 fun e w3 => ∃ s4, e = .returned (.string s4) ∧
 Calls pP 23 #[(.pointer (some A0)), .string s4] w3 fun e w5 => ∃ x6 v7, e = .returned (.tuple #[.int .i64 x6, v7]) ∧
 R (.tuple #[]) w5) :
 CR pP 160 #[(.pointer (some A0)), (.pointer (some A1))] w R :=
 yaA Tryz.wide_mixed (an := []) Tryz.func160 rfl rfl (by kernel_rfl) rfl (Eq.mpr (by kernel_rfl) h)
theorem yHe (h :
 ∀ w1, Adv [] [] w w1 →
 Calls pP 160 #[(.pointer (some A1)), (.pointer (some A0))] w1 fun e w2 => e = .returned (.tuple #[]) ∧
 ∀ w3, Adv [] [] w2 w3 →
 Calls pP 58 #[(.pointer (some A1)), (.pointer (some (Addr.add A0 1)))] w3 fun e w4 => e = .returned (.tuple #[]) ∧
 R (.tuple #[]) w4) :
 CR pP 60 #[(.iface 101 (.pointer (some A1))), (.pointer (some A0))] w R :=
 yaA Tryz.wide_mixed (an := []) Tryz.func60 rfl rfl (by kernel_rfl) rfl (Eq.mpr (by kernel_rfl) h)
def yrJ : LA := ⟨[0, 0, 1, 0, 1, 1, 1], [1, 5, 33, 34, 35], [(1, 0, 0), (5, 1, 0)], 2, [1]⟩
def yrK : LA := ⟨[0, 0, 1, 0, 1, 1, 1, 1], [1, 5, 43, 44, 45], [(1, 0, 0), (5, 1, 0)], 2, [1]⟩
def yrL : LA := ⟨[0, 0, 1, 0, 1, 1, 1, 1, 1, 1, 1], [5, 70, 71, 72], [(5, 1, 0)], 3, [1, 2]⟩
def ytD : List LA := [yrJ, yrK, yrL]
abbrev yvQ := dnF pP ytD (code Tryz.f26)
abbrev yKX := yaO pP ytD (code Tryz.f26)
abbrev yvR (p : List Nat) (K : List Kh) (R : VWP) := yaO pP ytD (code Tryz.f26) p K (ya4 pP Tryz.f26 [] R)
def ylC (b4 : OA) (b6 b5 bm0 : Nat) (b0 b1 b2 b3 : Int) (a0 : OA) (a6 a3 : Nat) (a1 : OA) (a7 a4 bm1 : Nat) : Int × (Option Addr) × (Option Addr) × Nat × Nat → List Value × List TB := fun (b7, a9, a2, a8, a5) => ([(.pointer (some ⟨bm0, 0, none⟩)), (.pointer (some ⟨bm1, 0, none⟩)), .slice b4 b6 b5, (.int .i64 (5 : Int)), .int .i64 b7], [⟨bm0, 27, [.int .i64 b0, .int .i64 b1, .int .i64 b2, .int .i64 b3, .slice a0 a6 a3, .slice a1 a7 a4], false⟩, ⟨bm1, 103, [.pointer a9, .slice a2 a8 a5], true⟩])
def ylD (b4 : OA) (b6 b5 : Nat) (b7 : Int) (bm0 : Nat) (b0 b1 b2 b3 : Int) (a0 : OA) (a6 a3 : Nat) (a1 : OA) (a7 a4 bm1 : Nat) : Int × (Option Addr) × (Option Addr) × Nat × Nat → List Value × List TB := fun (b8, a9, a2, a8, a5) => ([(.pointer (some ⟨bm0, 0, none⟩)), (.pointer (some ⟨bm1, 0, none⟩)), .slice b4 b6 b5, .int .i64 b7, .int .i64 b8], [⟨bm0, 27, [.int .i64 b0, .int .i64 b1, .int .i64 b2, .int .i64 b3, .slice a0 a6 a3, .slice a1 a7 a4], false⟩, ⟨bm1, 103, [.pointer a9, .slice a2 a8 a5], true⟩])
def ylE (b5 : OA) (b7 b6 : Nat) (b8 : Int) (bm0 : Nat) (b0 b1 b2 b3 : Int) (a0 : OA) (a6 a3 : Nat) (a1 : OA) (a7 a4 bm1 bm2 : Nat) : Int × (Option Addr) × (Option Addr) × Nat × Nat × Int → List Value × List TB := fun (b9, a9, a2, a8, a5, b4) => ([(.pointer (some ⟨bm1, 0, none⟩)), .slice b5 b7 b6, .int .i64 b8, .int .i64 b9], [⟨bm0, 27, [.int .i64 b0, .int .i64 b1, .int .i64 b2, .int .i64 b3, .slice a0 a6 a3, .slice a1 a7 a4], false⟩, ⟨bm1, 103, [.pointer a9, .slice a2 a8 a5], true⟩, ⟨bm2, 3, [.int .i64 b4], true⟩])
abbrev yDw (b0 : OA) (b2 b1 bm0 : Nat) (a6 a7 a8 a9 : Int) (a0 : OA) (a4 a2 : Nat) (a1 : OA) (a5 a3 bm1 : Nat) (I : Nat → Int → Option Addr → Option Addr → Nat → Nat → World → Prop) (m : Nat) : Kh := KG (ylC b0 b2 b1 bm0 a6 a7 a8 a9 a0 a4 a2 a1 a5 a3 bm1) (U5 I) m
theorem yy6 {I : Nat → Int → Option Addr → Option Addr → Nat → Nat → World → Prop} (m' : Nat) (h1 : m' < m) (h2 : I m' i4 q3 q4 n8 n9 w) : KS (yDw q0 n0 n1 n2 i0 i1 i2 i3 q1 n3 n4 q2 n5 n6 n7 I m) (ylC q0 n0 n1 n2 i0 i1 i2 i3 q1 n3 n4 q2 n5 n6 n7 (i4, q3, q4, n8, n9)) w := ⟨m', h1, _, rfl, rfl, h2⟩
theorem yy7 {b5 : OA} {a1 : OA} {a7 : OA} {c1 b7 : OA} (I : Nat → Int → Option Addr → Option Addr → Nat → Nat → World → Prop) (m0 : Nat) (h0 : I m0 i4 c1 b7 n8 n9 w0)
 (hr : ∀ m b4 a6 a2 a5 a4 w, I m b4 a6 a2 a5 a4 w →
 w.heap[n7]? = some (.cells #[.pointer a6, .slice a2 a5 a4] 103) →
 brB (decide (b4 < (5 : Int))) (
 ixA b5 n0 b4 1 fun q9 =>
 yaI .i64 w q9 fun d0 =>
 ∀ b8, w.heap.size ≤ b8 →
 ∀ c3, Adv [] [b8] w c3 → c3.heap[n7]? = some (.cells #[.pointer a6, .slice a2 a5 a4] 103) →
 c3.heap[b8]? = some (.cells #[.int .i64 d0] 3) →
 Calls pP 58 #[(.pointer (some ⟨n7, 0, none⟩)), (.pointer (some ⟨b8, 0, none⟩))] c3 fun e c4 => e = .returned (.tuple #[]) ∧ ya2 [n7, b8] [(n2, 27)] [n2] c3 c4 ∧ ∃ c9 c6 c8 c7, c4.heap[n7]? = some (.cells #[.pointer c9, .slice c6 c8 c7] 103) ∧ ∃ d1, c4.heap[b8]? = some (.cells #[.int .i64 d1] 3) ∧
 KS (yDw b5 n0 n1 n2 i0 i1 i2 i3 a1 n3 n4 a7 n5 n6 n7 I m) (ylC b5 n0 n1 n2 i0 i1 i2 i3 a1 n3 n4 a7 n5 n6 n7 ((IntKind.wrap .i64 (b4 + 1)), c9, c6, c8, c7)) c4)
 (
 yaK yrK (yvQ 394 [0, 0, 1, 0, 1, 1, 1, 1]) (yvR [1, 1, 1, 1, 0, 1, 0] [] R) (ylD a1 n3 n4 (n3 : Int) n2 i0 i1 i2 i3 a1 n3 n4 a7 n5 n6 n7 (0, a6, a2, a5, a4)) w)) :
 yaK yrJ (yvQ 395 [0, 0, 1, 0, 1, 1, 1]) (yvR [1, 1, 1, 0, 1, 0] [] R) (ylC b5 n0 n1 n2 i0 i1 i2 i3 a1 n3 n4 a7 n5 n6 n7 (i4, c1, b7, n8, n9)) w0 :=
 lrule (ylC b5 n0 n1 n2 i0 i1 i2 i3 a1 n3 n4 a7 n5 n6 n7) (U5 I) h0 (by rintro m ⟨b4, a6, a2, a5, a4⟩ w h; exact ⟨by kernel_rfl, by kernel_rfl, fun js => Eq.mpr (by kernel_rfl) (hr m b4 a6 a2 a5 a4 w h)⟩)
abbrev yDx (b0 : OA) (b2 b1 : Nat) (b3 : Int) (bm0 : Nat) (a6 a7 a8 a9 : Int) (a0 : OA) (a4 a2 : Nat) (a1 : OA) (a5 a3 bm1 : Nat) (I : Nat → Int → Option Addr → Option Addr → Nat → Nat → World → Prop) (m : Nat) : Kh := KG (ylD b0 b2 b1 b3 bm0 a6 a7 a8 a9 a0 a4 a2 a1 a5 a3 bm1) (U5 I) m
theorem yy8 {I : Nat → Int → Option Addr → Option Addr → Nat → Nat → World → Prop} (m' : Nat) (h1 : m' < m) (h2 : I m' i5 q3 q4 n8 n9 w) : KS (yDx q0 n0 n1 i0 n2 i1 i2 i3 i4 q1 n3 n4 q2 n5 n6 n7 I m) (ylD q0 n0 n1 i0 n2 i1 i2 i3 i4 q1 n3 n4 q2 n5 n6 n7 (i5, q3, q4, n8, n9)) w := ⟨m', h1, _, rfl, rfl, h2⟩
theorem yy9 (I : Nat → Int → Option Addr → Option Addr → Nat → Nat → World → Prop) (m0 : Nat) (h0 : I m0 i5 q3 q4 n8 n9 w0)
 (hr : ∀ m b5 a6 a2 a5 a4 w, I m b5 a6 a2 a5 a4 w →
 w.heap[n7]? = some (.cells #[.pointer a6, .slice a2 a5 a4] 103) →
 brB (decide (b5 < i0)) (
 ixA q0 n0 b5 5 fun c5 =>
 yaI .i64 w c5 fun g8 => yaT w (Addr.add c5 1) fun g1 => yaQ w (Addr.add c5 2) fun f5 => yaT w (Addr.add c5 3) fun g2 => yaQ w (Addr.add c5 4) fun f6 =>
 ∀ b4, w.heap.size ≤ b4 →
 ∀ c6, Adv [] [b4] w c6 → c6.heap[n7]? = some (.cells #[.pointer a6, .slice a2 a5 a4] 103) →
 c6.heap[b4]? = some (.cells (Z6 g8 g1 f5 g2 f6) 55) →
 Calls pP 58 #[(.pointer (some ⟨n7, 0, none⟩)), (.pointer (some ⟨b4, 0, none⟩))] c6 fun e c7 => e = .returned (.tuple #[]) ∧ ya2 [n7, b4] [(n2, 27)] [n2] c6 c7 ∧ ∃ f3 e7 f1 e9, c7.heap[n7]? = some (.cells #[.pointer f3, .slice e7 f1 e9] 103) ∧ ∃ g9 e4 e1 e5 e2, c7.heap[b4]? = some (.cells (Z6 g9 e4 e1 e5 e2) 55) ∧
 Calls pP 59 #[(.agg (Z7 e4 e1 e5 e2))] c7 fun e c8 => ∃ e3 h1, e = .returned (.tuple #[.string e3, .int .i64 h1]) ∧ ya2 [n7, b4] [(n2, 27)] [n2] c7 c8 ∧ ∃ f4 e8 f2 f0, c8.heap[n7]? = some (.cells #[.pointer f4, .slice e8 f2 f0] 103) ∧ ∃ h2 g3 f7 g4 f8, c8.heap[b4]? = some (.cells (Z6 h2 g3 f7 g4 f8) 55) ∧
 Calls pP 23 #[(.pointer (some ⟨n7, 0, none⟩)), .string e3] c8 fun e d0 => ∃ h3 g7, e = .returned (.tuple #[.int .i64 h3, g7]) ∧ ya2 [n7, b4] [(n2, 27)] [n2] c8 d0 ∧ ∃ d9 d3 d7 d5, d0.heap[n7]? = some (.cells #[.pointer d9, .slice d3 d7 d5] 103) ∧ ∃ h4 g5 f9 g6 g0, d0.heap[b4]? = some (.cells (Z6 h4 g5 f9 g6 g0) 55) ∧
 KS (yDx q0 n0 n1 i0 n2 i1 i2 i3 i4 q1 n3 n4 q2 n5 n6 n7 I m) (ylD q0 n0 n1 i0 n2 i1 i2 i3 i4 q1 n3 n4 q2 n5 n6 n7 ((IntKind.wrap .i64 (b5 + 1)), d9, d3, d7, d5)) d0)
 (
 ∀ b7, w.heap.size ≤ b7 →
 ∀ c9, Adv [] [b7] w c9 → c9.heap[n7]? = some (.cells #[.pointer a6, .slice a2 a5 a4] 103) →
 c9.heap[b7]? = some (.cells #[(.int .i64 (n5 : Int))] 3) →
 Calls pP 58 #[(.pointer (some ⟨n7, 0, none⟩)), (.pointer (some ⟨b7, 0, none⟩))] c9 fun e d1 => e = .returned (.tuple #[]) ∧ ya2 [n7, b7] [(n2, 27)] [n2] c9 d1 ∧ ∃ e0 d4 d8 d6, d1.heap[n7]? = some (.cells #[.pointer e0, .slice d4 d8 d6] 103) ∧ ∃ e6, d1.heap[b7]? = some (.cells #[.int .i64 e6] 3) ∧
 yaK yrL (yvQ 391 [0, 0, 1, 0, 1, 1, 1, 1, 1, 1, 1]) (yvR [1, 1, 1, 1, 1, 1, 1, 0, 1, 0] [] R) (ylE q2 n5 n6 (n5 : Int) n2 i1 i2 i3 i4 q1 n3 n4 q2 n5 n6 n7 b7 (0, e0, d4, d8, d6, e6)) d1)) :
 yaK yrK (yvQ 394 [0, 0, 1, 0, 1, 1, 1, 1]) (yvR [1, 1, 1, 1, 0, 1, 0] [] R) (ylD q0 n0 n1 i0 n2 i1 i2 i3 i4 q1 n3 n4 q2 n5 n6 n7 (i5, q3, q4, n8, n9)) w0 :=
 lrule (ylD q0 n0 n1 i0 n2 i1 i2 i3 i4 q1 n3 n4 q2 n5 n6 n7) (U5 I) h0 (by rintro m ⟨b5, a6, a2, a5, a4⟩ w h; exact ⟨by kernel_rfl, by kernel_rfl, fun js => Eq.mpr (by kernel_rfl) (hr m b5 a6 a2 a5 a4 w h)⟩)
abbrev yDy (b0 : OA) (b2 b1 : Nat) (b3 : Int) (bm0 : Nat) (a6 a7 a8 a9 : Int) (a0 : OA) (a4 a2 : Nat) (a1 : OA) (a5 a3 bm1 bm2 : Nat) (I : Nat → Int → Option Addr → Option Addr → Nat → Nat → Int → World → Prop) (m : Nat) : Kh := KG (ylE b0 b2 b1 b3 bm0 a6 a7 a8 a9 a0 a4 a2 a1 a5 a3 bm1 bm2) (U6 I) m
theorem yzA {I : Nat → Int → Option Addr → Option Addr → Nat → Nat → Int → World → Prop} (m' : Nat) (h1 : m' < m) (h2 : I m' i5 q3 q4 n9 o0 i6 w) : KS (yDy q0 n0 n1 i0 n2 i1 i2 i3 i4 q1 n3 n4 q2 n5 n6 n7 n8 I m) (ylE q0 n0 n1 i0 n2 i1 i2 i3 i4 q1 n3 n4 q2 n5 n6 n7 n8 (i5, q3, q4, n9, o0, i6)) w := ⟨m', h1, _, rfl, rfl, h2⟩
theorem yzB (I : Nat → Int → Option Addr → Option Addr → Nat → Nat → Int → World → Prop) (m0 : Nat) (h0 : I m0 i5 q3 q4 n9 o0 i6 w0)
 (hr : ∀ m b5 a3 a0 a2 a1 a4 w, I m b5 a3 a0 a2 a1 a4 w →
 w.heap[n7]? = some (.cells #[.pointer a3, .slice a0 a2 a1] 103) →
 w.heap[n8]? = some (.cells #[.int .i64 a4] 3) →
 brB (decide (b5 < i0)) (
 ixA q0 n0 b5 2 fun d4 =>
 yaQ w d4 fun e1 => yaI .i64 w (Addr.add d4 1) fun e3 =>
 ∀ c0, w.heap.size ≤ c0 →
 ∀ c4, Adv [] [c0] w c4 → c4.heap[n7]? = some (.cells #[.pointer a3, .slice a0 a2 a1] 103) →
 c4.heap[n8]? = some (.cells #[.int .i64 a4] 3) →
 c4.heap[c0]? = some (.cells #[.string e1, .int .i64 e3] 43) →
 Calls pP 60 #[(.iface 101 (.pointer (some ⟨n7, 0, none⟩))), (.pointer (some ⟨c0, 0, none⟩))] c4 fun e c7 => e = .returned (.tuple #[]) ∧ ya2 [n7, n8, c0] [(n2, 27)] [n2] c4 c7 ∧ ∃ d3 d0 d2 d1, c7.heap[n7]? = some (.cells #[.pointer d3, .slice d0 d2 d1] 103) ∧ ∃ d6, c7.heap[n8]? = some (.cells #[.int .i64 d6] 3) ∧ ∃ e2 e4, c7.heap[c0]? = some (.cells #[.string e2, .int .i64 e4] 43) ∧
 KS (yDy q0 n0 n1 i0 n2 i1 i2 i3 i4 q1 n3 n4 q2 n5 n6 n7 n8 I m) (ylE q0 n0 n1 i0 n2 i1 i2 i3 i4 q1 n3 n4 q2 n5 n6 n7 n8 ((IntKind.wrap .i64 (b5 + 1)), d3, d0, d2, d1, d6)) c7)
 (
 Calls pP 27 #[(.pointer (some ⟨n7, 0, none⟩))] w fun e c8 => ∃ d5, e = .returned (.string d5) ∧ ya2 [n7, n8] [(n2, 27)] [n2] w c8 ∧ ∃ e0 d7 d9 d8, c8.heap[n7]? = some (.cells #[.pointer e0, .slice d7 d9 d8] 103) ∧ ∃ e5, c8.heap[n8]? = some (.cells #[.int .i64 e5] 3) ∧
 R (.tuple #[.string d5, .int .i64 0]) c8)) :
 yaK yrL (yvQ 391 [0, 0, 1, 0, 1, 1, 1, 1, 1, 1, 1]) (yvR [1, 1, 1, 1, 1, 1, 1, 0, 1, 0] [] R) (ylE q0 n0 n1 i0 n2 i1 i2 i3 i4 q1 n3 n4 q2 n5 n6 n7 n8 (i5, q3, q4, n9, o0, i6)) w0 :=
 lrule (ylE q0 n0 n1 i0 n2 i1 i2 i3 i4 q1 n3 n4 q2 n5 n6 n7 n8) (U6 I) h0 (by rintro m ⟨b5, a3, a0, a2, a1, a4⟩ w h; exact ⟨by kernel_rfl, by kernel_rfl, fun js => Eq.mpr (by kernel_rfl) (hr m b5 a3 a0 a2 a1 a4 w h)⟩)
theorem yHf (h :
 ∀ b1, w.heap.size ≤ b1 →
 ∀ w2, Adv [] [b1] w w2 →
 Calls pP 57 #[(.agg (Z3 i0 i1 i2 i3 q0 n0 n1 q1 n2 n3))] w2 fun e w3 => ∃ x4, e = .returned (.int .i64 x4) ∧ yaE [b1] w2 w3 ∧
 brB (x4 != 0) (
 R (.tuple #[(.string (⟨#[]⟩ : BA)), .int .i64 x4]) w3)
 (
 ∀ b5, w3.heap.size ≤ b5 →
 ∀ w6, Adv [] [b5] w3 w6 →
 al w6 (.cells #[.int .i64 i0, .int .i64 i1, .int .i64 i2, .int .i64 i3, (.int .i64 (n0 : Int))] 3) fun b7 w8 =>
 ∀ b0, Adv [] [] w8 b0 → b0.heap[b5]? = some (.cells #[.pointer none, .slice none 0 0] 103) →
 yaK yrJ (yvQ 395 [0, 0, 1, 0, 1, 1, 1]) (yvR [1, 1, 1, 0, 1, 0] [] R) (ylC (some ⟨b7, 0, none⟩) 5 5 b1 i0 i1 i2 i3 q0 n0 n1 q1 n2 n3 b5 (0, none, none, 0, 0)) b0)) :
 CR pP 26 #[(.agg (Z3 i0 i1 i2 i3 q0 n0 n1 q1 n2 n3))] w R :=
 yaA Tryz.wide_mixed (an := ytD) Tryz.func26 rfl rfl (by kernel_rfl) rfl (Eq.mpr (by kernel_rfl) h)
end
def bs (l : List UInt8) : ByteArray := ⟨l.toArray⟩
theorem yaD (l : List UInt8) : (bs l).size = l.length := by simp [bs, ByteArray.size]
theorem yj0 (a : List UInt8) (s : ByteArray) : bs a ++ s = bs (a ++ s.data.toList) := by
 apply ByteArray.ext
 simp [bs, ByteArray.data_append]
theorem ya9 (a b : List UInt8) : bs a ++ bs b = bs (a ++ b) := by rw [yj0]; simp [bs]
theorem yaL (n : Nat) (hn : n < 18446744073709551616) : 1 ≤ (yaJ n).length ∧ (yaJ n).length ≤ 10 := by
 have := yfP 9 n (by omega)
 simp [yaJ]; omega
def ybU (s : ByteArray) : List UInt8 := yaJ s.size ++ s.data.toList
theorem yaW (s : ByteArray) (hs : s.size ≤ 4611686018427387904) : 1 ≤ (ybU s).length ∧ (ybU s).length ≤ s.size + 10 := by
 have h := yaL s.size (by omega)
 have e : (ybU s).length = (yaJ s.size).length + s.size := by rw [ybU, List.length_append, Array.length_toList]; rfl
 omega
theorem yd8 {n : Nat} (hn : n < 18446744073709551616) : IntKind.wrap .u64 (n : Int) = (n : Int) := by rw [IntKind.wrap_u64]; omega
theorem ycO (s : ByteArray) (hs : s.size ≤ 4611686018427387904) (w : World) : Calls pP 28 #[.string s] w fun e w' => e = .returned (.string (bs (ybU s))) ∧ Mod [] w w' := by
 refine yaP (yG9 ?_)
 rw [yd8 (by omega)]
 refine (yjV s.size (by omega) w).mono ?_
 rintro e w1 ⟨rfl, M1⟩
 have h2 := yyH s.size (by omega)
 exact ⟨_, rfl, by omega, congrArg Value.string (yj0 _ _), M1⟩
def ygF (r : PRec) : UInt8 := if r.tomb then 3 else if r.hk then 1 else 0
theorem yEZ (r : PRec) (w : World) : Calls pP 121 #[r.v] w fun e w' => e = .returned (.int .u8 ((ygF r).toNat : Int)) ∧ Mod [] w w' := by
 obtain ⟨hk, key, tomb, val⟩ := r
 refine yaP (yJ1 ?_)
 intro b1 f1
 refine yaB (fun h => ?_) fun h => ?_
 ·intro w1 A1; subst h; exact ⟨rfl, A1.mod⟩
 ·subst h
  refine yaB (fun h => ?_) fun h => ?_
  ·intro w1 A1; subst h; exact ⟨rfl, A1.mod⟩
  ·intro w1 A1; subst h; exact ⟨rfl, A1.mod⟩
def yf7 (r : PRec) : List UInt8 := [ygF r] ++ (if r.hk then ybU r.key else []) ++ (if r.tomb then [] else ybU r.val)
theorem yfT {r : PRec} (h : yfQ r = 0) : r.key.size ≤ 64 ∧ r.val.size ≤ 512 := by
 unfold yfQ yGt at h
 split at h
 ·omega
 ·split at h <;> omega
theorem yzC (r : PRec) (hr : yfQ r = 0) (w : World) : Calls pP 97 #[r.v] w fun e w' => e = .returned (.string (bs (yf7 r))) ∧ Mod [] w w' := by
 obtain ⟨hk, vs⟩ := yfT hr
 refine yaP (yHa ?_)
 intro b1 f1 w1 A1
 refine (yEZ r w1).mono ?_
 rintro e w2 ⟨rfl, M2⟩
 refine ⟨_, rfl, yaE.of0 M2, ?_⟩
 have N2 := A1.mod.go0 M2 (by simp)
 refine ydB fun b3 w3 c3 M3 f3 => ?_
 have N3 := N2.go0 M3 (by simp)
 have hcv := run_convert_bytes_back (P := pP) w3 40 9 5 ⟨b3, 0, none⟩ 1 [ygF r] Tryz.underlying40 Tryz.underlying5 Tryz.underlying9 fun j hj => by
  simp at hj; subst hj
  rw [ya3, yaZ c3]; rfl
 refine ⟨_, _, hcv, yaE.of0 (Mod.refl _), ?_⟩
 obtain ⟨h1, key, h3, val⟩ := r
 have e0 : (⟨[ygF ⟨h1, key, h3, val⟩].toArray⟩ : ByteArray) = bs [ygF ⟨h1, key, h3, val⟩] := rfl
 rw [e0]
 simp only at hk vs
 have l1 : (ybU key).length ≤ 74 := by have := yaW key (by omega); omega
 have l2 : (ybU val).length ≤ 522 := by have := yaW val (by omega); omega
 refine yaB (fun g1 => ?_) fun g1 => ?_
 ·subst g1
  refine (ycO key (by omega) w3).mono ?_
  rintro e w4 ⟨rfl, M4⟩
  refine ⟨_, rfl, yaE.of0 M4, by simp only [yaD]; simp; omega, ?_⟩
  rw [ya9]
  refine yaB (fun g2 => ?_) fun g2 => ?_
  ·have g2 : h3 = false := yi1 g2
   subst g2
   refine (ycO val (by omega) w4).mono ?_
   rintro e w5 ⟨rfl, M5⟩
   refine ⟨_, rfl, yaE.of0 M5, by simp only [yaD]; simp; omega, ?_⟩
   exact ⟨by rw [ya9]; simp [yf7], (N3.go0 M4 (by simp)).go0 M5 (by simp)⟩
  ·have g2 : h3 = true := yhJ g2
   subst g2
   exact ⟨by simp [yf7], N3.go0 M4 (by simp)⟩
 ·subst g1
  refine yaB (fun g2 => ?_) fun g2 => ?_
  ·have g2 : h3 = false := yi1 g2
   subst g2
   refine (ycO val (by omega) w3).mono ?_
   rintro e w5 ⟨rfl, M5⟩
   refine ⟨_, rfl, yaE.of0 M5, by simp only [yaD]; simp; omega, ?_⟩
   exact ⟨by rw [ya9]; simp [yf7], N3.go0 M5 (by simp)⟩
  ·have g2 : h3 = true := yhJ g2
   subst g2
   exact ⟨by simp [yf7], N3⟩
theorem yg3 {r : PRec} (hr : yfQ r = 0) : (yf7 r).length ≤ 600 := by
 obtain ⟨hk, vs⟩ := yfT hr
 have l1 : (ybU r.key).length ≤ 74 := by have := yaW r.key (by omega); omega
 have l2 : (ybU r.val).length ≤ 522 := by have := yaW r.val (by omega); omega
 unfold yf7
 split <;> split <;> simp <;> omega
theorem yzD (r : PRec) (w : World) : Calls pP 59 #[r.v] w fun e w' => e = .returned (.tuple #[.string (if yfQ r = 0 then bs (yf7 r) else bs []), .int .i64 (yfQ r)]) ∧ Mod [] w w' := by
 refine yaP (yHb ?_)
 intro b1 f1 w1 A1
 refine (yeZ r w1).mono ?_
 rintro e w2 ⟨rfl, M2⟩
 refine ⟨_, rfl, yaE.of0 M2, ?_⟩
 have N2 := A1.mod.go0 M2 (by simp)
 refine yaB (fun g1 => ?_) fun g1 => ?_
 ·have g : ¬ yfQ r = 0 := by simpa using g1
  rw [if_neg g]; exact ⟨rfl, N2⟩
 ·have g : yfQ r = 0 := by simpa using g1
  refine (yzC r g w2).mono ?_
  rintro e w3 ⟨rfl, M3⟩
  refine ⟨_, rfl, yaE.of0 M3, ?_, N2.go0 M3 (by simp)⟩
  rw [if_pos g, g]
theorem BTw : BT 103 := ⟨by kernel_rfl, by decide⟩
abbrev Bd (B b : Nat) (l : List UInt8) (w : World) : Prop := Lib.IsBuilderF 103 5 B b (Lib.byteCells l) w
structure Wr (B b : Nat) (w w' : World) : Prop where
 bel : Below B w w'
 oth : Lib.OthersKept 5 (some b) w w'
theorem Wr.of0 {B b : Nat} {w w' : World} (M : Mod [] w w') (hB : B ≤ w.heap.size) : Wr B b w w' :=
 ⟨⟨M.os, M.tape, M.output, M.size, fun k hk => M.block k (by omega) (by simp)⟩, fun k o hk _ _ => M.keep0 hk⟩
theorem Wr.trans {B b : Nat} {x y z : World} (h : Wr B b x y) (k : Wr B b y z) : Wr B b x z := ⟨h.bel.trans k.bel, h.oth.trans k.oth⟩
theorem Bd.keep0 {B b : Nat} {l : List UInt8} {w w' : World} (h : Bd B b l w) (M : Mod [] w w') : Bd B b l w' := by
 have one : ∀ {p bs}, Lib.BuilderAtF 103 5 B b p bs w → Lib.BuilderAtF 103 5 B b p bs w' := by
  rintro p bs ⟨hB, v, hb, ⟨hl, ho⟩, hne⟩
  refine ⟨hB, v, M.keep0 hb, ⟨hl, ?_⟩, hne⟩
  rcases ho with ho | ⟨g, cap, cur, fz, hv, hg, hh, r⟩
  ·exact .inl ho
  ·exact .inr ⟨g, cap, cur, fz, hv, hg, M.keep0 hh, r⟩
 exact h.elim (fun x => .inl (one x)) (fun x => .inr (one x))
theorem Bd.lt {B b : Nat} {l : List UInt8} {w : World} (h : Bd B b l w) : B ≤ b ∧ b < w.heap.size := h.elim (fun x => ⟨x.1, x.lt⟩) (fun x => ⟨x.1, x.lt⟩)
theorem Bd.cells {B b : Nat} {l : List UInt8} {w : World} (h : Bd B b l w) : ∃ (p a : Option Addr) (n c : Nat), w.heap[b]? = some (.cells #[.pointer p, .slice a n c] 103) := by
 have one : ∀ {p bs}, Lib.BuilderAtF 103 5 B b (.pointer p) bs w → ∃ (p a : Option Addr) (n c : Nat), w.heap[b]? = some (.cells #[.pointer p, .slice a n c] 103) := by
  rintro p bs ⟨hB, v, hb, ⟨hl, ho⟩, hne⟩
  rcases ho with ⟨rfl, _⟩ | ⟨g, cap, cur, fz, rfl, hg, hh, r⟩
  ·exact ⟨_, _, _, _, hb⟩
  ·exact ⟨_, _, _, _, hb⟩
 exact h.elim one one
theorem yCu {B b : Nat} {l l2 : List UInt8} {w : World} (h : Bd B b l w) (hlen : l.length + l2.length ≤ 100000000000) (hB : B ≤ w.heap.size) :
  Calls pP 23 #[.pointer (some ⟨b, 0, none⟩), .string (bs l2)] w fun e w' => e = .returned (.tuple #[.int .i64 ((bs l2).size : Nat), .nilIface]) ∧ (Bd B b (l ++ l2) w' ∧ Wr B b w w') := by
 refine (yf5 BTw B b (Lib.byteCells l) (bs l2) w h (by rw [Lib.byteCells_length, yaD]; omega) hB).mono ?_
 rintro e w' ⟨rfl, h1, h2, h3⟩
 refine ⟨rfl, .inr ?_, ⟨h2, h3⟩⟩
 have e : Lib.byteCells (l ++ l2) = Lib.byteCells l ++ Lib.strCells (bs l2) := by simp [Lib.byteCells, Lib.strCells, bs]
 rw [e]; exact h1
theorem ygG {B b : Nat} {l : List UInt8} {w : World} {a : Addr} {x : Nat} (h : Bd B b l w) (hlen : l.length ≤ 10000000000) (hB : B ≤ w.heap.size) (ha : w.cell? a = some (.int .i64 (x : Nat))) (hx : x < 9223372036854775808) :
  Calls pP 58 #[.pointer (some ⟨b, 0, none⟩), .pointer (some a)] w fun e w' => e = .returned (.tuple #[]) ∧ (Bd B b (l ++ yaJ x) w' ∧ Wr B b w w') := by
 refine yaP (yHc ?_)
 intro w1 A1
 refine yaF (A1.mod.cell0 ha) ?_
 rw [yd8 (by omega)]
 refine (yjV x (by omega) w1).mono ?_
 rintro e w2 ⟨rfl, M2⟩
 have N2 := A1.mod.go0 M2 (by simp)
 have s2 := N2.size
 have := yaL x (by omega)
 refine ⟨_, rfl, (yCu (h.keep0 N2) (l2 := yaJ x) (by omega) (by omega)).mono ?_⟩
 rintro e w3 ⟨rfl, h3, W3⟩
 exact ⟨_, _, rfl, rfl, h3, (Wr.of0 N2 hB).trans W3⟩
theorem ynF {B b : Nat} {l : List UInt8} {w : World} {a : Addr} {s : ByteArray} (h : Bd B b l w) (hlen : l.length ≤ 10000000000) (hB : B ≤ w.heap.size) (ha : w.cell? a = some (.string s)) (hs : s.size ≤ 1000000000) :
  Calls pP 160 #[.pointer (some ⟨b, 0, none⟩), .pointer (some a)] w fun e w' => e = .returned (.tuple #[]) ∧ (Bd B b (l ++ ybU s) w' ∧ Wr B b w w') := by
 refine yaP (yHd ?_)
 intro w1 A1
 refine yaG (A1.mod.cell0 ha) ?_
 refine (ycO s (by omega) w1).mono ?_
 rintro e w2 ⟨rfl, M2⟩
 have N2 := A1.mod.go0 M2 (by simp)
 have s2 := N2.size
 have l2 : (ybU s).length ≤ 1000000010 := by have := yaW s (by omega); omega
 refine ⟨_, rfl, (yCu (h.keep0 N2) (l2 := ybU s) (by omega) (by omega)).mono ?_⟩
 rintro e w3 ⟨rfl, h3, W3⟩
 exact ⟨_, _, rfl, rfl, h3, (Wr.of0 N2 hB).trans W3⟩
section
set_option maxRecDepth 100000
variable {R : VWP} {w w0 : World} {m : Nat} {i0 i1 i2 i3 i4 i5 i6 i7 i8 i9 j0 j1 j2 j3 j4 j5 j6 j7 j8 j9 k0 k1 k2 k3 k4 k5 k6 k7 k8 k9 l0 l1 l2 l3 l4 l5 l6 l7 l8 l9 : Int} {s0 s1 s2 s3 s4 s5 s6 s7 s8 s9 t0 t1 t2 t3 t4 t5 t6 t7 t8 t9 : BA} {n0 n1 n2 n3 n4 n5 n6 n7 n8 n9 o0 o1 o2 o3 o4 o5 o6 o7 o8 o9 p0 p1 p2 p3 p4 p5 p6 p7 p8 p9 : Nat} {q0 q1 q2 q3 q4 q5 q6 q7 q8 q9 r0 r1 r2 r3 r4 r5 r6 r7 r8 r9 : OA} {B0 B1 B2 B3 B4 B5 B6 B7 B8 B9 : Bool} {M0 M1 M2 M3 : Option Nat} {V0 V1 V2 V3 V4 V5 : Value} {A0 A1 A2 : Addr}
theorem yHg (h :
 brB (i1 == 9) (
 brB (decide (i0 > 1)) (
 R (.bool true) w)
 (
 brB (decide (i1 > 0)) (
 R (.bool (i0 == 0)) w)
 (
 R (.bool false) w)))
 (
 brB (decide (i1 > 0)) (
 R (.bool (i0 == 0)) w)
 (
 R (.bool false) w))) :
 CR pP 110 #[.int .u8 i0, .int .i64 i1] w R :=
 yaA Tryz.wide_mixed (an := []) Tryz.func110 rfl rfl (by kernel_rfl) rfl (Eq.mpr (by kernel_rfl) h)
def yrM : LA := ⟨[0, 0, 1, 1, 1, 1], [0, 1, 7, 8], [], 0, []⟩
def ytE : List LA := [yrM]
abbrev yHh := dnF pP ytE (code Tryz.f79)
abbrev yKY := yaO pP ytE (code Tryz.f79)
abbrev yHi (p : List Nat) (K : List Kh) (R : VWP) := yaO pP ytE (code Tryz.f79) p K (ya4 pP Tryz.f79 [] R)
def ylF (a0 : BA) (a1 : Int) : Int × Int → List Value × List TB := fun (a2, a3) => ([.string a0, .int .i64 a1, .int .u64 a2, .int .i64 a3], [])
abbrev yDz (a0 : BA) (a1 : Int) (I : Nat → Int → Int → World → Prop) (m : Nat) : Kh := KG (ylF a0 a1) (U2 I) m
theorem yzE {I : Nat → Int → Int → World → Prop} (m' : Nat) (h1 : m' < m) (h2 : I m' i1 i2 w) : KS (yDz s0 i0 I m) (ylF s0 i0 (i1, i2)) w := ⟨m', h1, _, rfl, rfl, h2⟩
theorem yzF {a2 : BA} (I : Nat → Int → Int → World → Prop) (m0 : Nat) (h0 : I m0 i1 i2 w0)
 (hr : ∀ m a3 a0 w, I m a3 a0 w →
 brB (decide ((IntKind.wrap .i64 (i0 + a0)) ≥ (a2.size : Int))) (
 R (.tuple #[.int .u64 0, .int .i64 0, .int .i64 10]) w)
 (
 ixS a2 (IntKind.wrap .i64 (i0 + a0)) fun x1 =>
 Calls pP 110 #[.int .u8 x1, .int .i64 a0] w fun e w2 => ∃ t3, e = .returned (.bool t3) ∧
 brB t3 (
 R (.tuple #[.int .u64 0, .int .i64 0, .int .i64 11]) w2)
 (nn (IntKind.wrap .i64 (7 * a0)) (
 brB (decide (x1 < 128)) (
 R (.tuple #[(.int .u64 (bOr .u64 a3 (IntKind.wrap .u64 ((IntKind.wrap .u64 (ykS .u8 x1 127)) * 2 ^ (min (Int.toNat (IntKind.wrap .i64 (7 * a0))) 64))))), (.int .i64 (IntKind.wrap .i64 ((IntKind.wrap .i64 (i0 + a0)) + 1))), .int .i64 0]) w2)
 (
 KS (yDz a2 i0 I m) (ylF a2 i0 ((bOr .u64 a3 (IntKind.wrap .u64 ((IntKind.wrap .u64 (ykS .u8 x1 127)) * 2 ^ (min (Int.toNat (IntKind.wrap .i64 (7 * a0))) 64)))), (IntKind.wrap .i64 (a0 + 1)))) w2))))) :
 yaK yrM (yHh 395 [0, 0, 1, 1, 1, 1]) (yHi [1, 1, 1, 1, 0] [] R) (ylF a2 i0 (i1, i2)) w0 :=
 lrule (ylF a2 i0) (U2 I) h0 (by rintro m ⟨a3, a0⟩ w h; exact ⟨by kernel_rfl, by kernel_rfl, fun js => Eq.mpr (by kernel_rfl) (hr m a3 a0 w h)⟩)
theorem yHj (h :
 brB (decide (i0 < 0)) (
 R (.tuple #[.int .u64 0, .int .i64 0, .int .i64 1]) w)
 (
 brB (decide (i0 > (s0.size : Int))) (
 R (.tuple #[.int .u64 0, .int .i64 0, .int .i64 1]) w)
 (
 yaK yrM (yHh 395 [0, 0, 1, 1, 1, 1]) (yHi [1, 1, 1, 1, 0] [] R) (ylF s0 i0 (0, 0)) w))) :
 CR pP 79 #[.string s0, .int .i64 i0] w R :=
 yaA Tryz.wide_mixed (an := ytE) Tryz.func79 rfl rfl (by kernel_rfl) rfl (Eq.mpr (by kernel_rfl) h)
theorem yHk {a1 : BA} (h :
 Calls pP 79 #[.string a1, .int .i64 i0] w fun e w1 => ∃ x2 x3 x4, e = .returned (.tuple #[.int .u64 x2, .int .i64 x3, .int .i64 x4]) ∧
 brB (x4 != 0) (
 R (.tuple (Z2 (⟨#[]⟩ : BA) 0 x4)) w1)
 (
 brB (decide (i1 < 0)) (
 R (.tuple (Z2 (⟨#[]⟩ : BA) 0 2)) w1)
 (
 brB (decide (x2 > (IntKind.wrap .u64 i1))) (
 R (.tuple (Z2 (⟨#[]⟩ : BA) 0 2)) w1)
 (
 brB (decide (x2 > (IntKind.wrap .u64 (IntKind.wrap .i64 ((a1.size : Int) - x3))))) (
 R (.tuple (Z2 (⟨#[]⟩ : BA) 0 10)) w1)
 (
 slS a1 x3 (IntKind.wrap .i64 (x3 + (IntKind.wrap .i64 x2))) fun s5 =>
 R (.tuple (Z2 s5 (IntKind.wrap .i64 (x3 + (IntKind.wrap .i64 x2))) 0)) w1))))) :
 CR pP 78 (Z2 a1 i0 i1) w R :=
 yaA Tryz.wide_mixed (an := []) Tryz.func78 rfl rfl (by kernel_rfl) rfl (Eq.mpr (by kernel_rfl) h)
def yrN : LA := ⟨[0, 0, 1, 0, 1], [0, 3], [], 0, []⟩
def ytF : List LA := [yrN]
abbrev yHl := dnF pP ytF (code Tryz.f135)
abbrev yKZ := yaO pP ytF (code Tryz.f135)
abbrev yHm (p : List Nat) (K : List Kh) (R : VWP) := yaO pP ytF (code Tryz.f135) p K (ya4 pP Tryz.f135 [] R)
def ylG : Int × Int → List Value × List TB := fun (a0, a1) => ([.int .u32 a0, .int .i64 a1], [])
abbrev yDA (I : Nat → Int → Int → World → Prop) (m : Nat) : Kh := KG (ylG) (U2 I) m
theorem yzG {I : Nat → Int → Int → World → Prop} (m' : Nat) (h1 : m' < m) (h2 : I m' i0 i1 w) : KS (yDA I m) (ylG (i0, i1)) w := ⟨m', h1, _, rfl, rfl, h2⟩
theorem yzH (I : Nat → Int → Int → World → Prop) (m0 : Nat) (h0 : I m0 i0 i1 w0)
 (hr : ∀ m a0 a1 w, I m a0 a1 w →
 brB (decide (a1 < 4)) (nn 1 (
 KS (yDA I m) (ylG ((yeQ .u32 (Int.fdiv a0 (2 ^ (min (Int.toNat 1) 32))) (ykS .u32 3988292384 (IntKind.wrap .u32 (0 - (ykS .u32 a0 1))))), (IntKind.wrap .i64 (a1 + 1)))) w))
 (
 R (.int .u32 a0) w)) :
 yaK yrN (yHl 397 [0, 0, 1, 0, 1]) (yHm [1, 0, 1, 0] [] R) (ylG (i0, i1)) w0 :=
 lrule (ylG) (U2 I) h0 (by rintro m ⟨a0, a1⟩ w h; exact ⟨by kernel_rfl, by kernel_rfl, fun js => Eq.mpr (by kernel_rfl) (hr m a0 a1 w h)⟩)
theorem yHn (h :
 yaK yrN (yHl 397 [0, 0, 1, 0, 1]) (yHm [1, 0, 1, 0] [] R) (ylG (i0, 0)) w) :
 CR pP 135 #[.int .u32 i0] w R :=
 yaA Tryz.wide_mixed (an := ytF) Tryz.func135 rfl rfl (by kernel_rfl) rfl (Eq.mpr (by kernel_rfl) h)
def yrO : LA := ⟨[0, 0, 1, 0, 1, 1, 1], [0, 1, 2, 4], [(0, 0, 0), (1, 1, 0)], 2, [1]⟩
def ytG : List LA := [yrO]
abbrev yHo := dnF pP ytG (code Tryz.f122)
abbrev yK0 := yaO pP ytG (code Tryz.f122)
abbrev yHp (p : List Nat) (K : List Kh) (R : VWP) := yaO pP ytG (code Tryz.f122) p K (ya4 pP Tryz.f122 [] R)
def ylH (bm0 bm1 : Nat) : Int × Int × Int × Int × Int × Int × Int × Int × Int × Int × Int × Int × Int × Int × Int × Int × Int → List Value × List TB := fun (b6, a6, a7, a8, a9, b0, b1, b2, b3, b4, b5, a0, a1, a2, a3, a4, a5) => ([(.pointer (some ⟨bm0, 0, none⟩)), (.pointer (some ⟨bm1, 0, none⟩)), (.func (.func 135) #[] #[]), .int .i64 b6], [⟨bm0, 170, [.int .u32 0, .int .u32 0, .int .u32 0, .int .u32 0, .int .u32 0, .int .u32 0, .int .u32 0, .int .u32 0, .int .u32 0, .int .u32 0, .int .u32 0, .int .u32 0, .int .u32 0, .int .u32 0, .int .u32 0, .int .u32 0], false⟩, ⟨bm1, 170, [.int .u32 a6, .int .u32 a7, .int .u32 a8, .int .u32 a9, .int .u32 b0, .int .u32 b1, .int .u32 b2, .int .u32 b3, .int .u32 b4, .int .u32 b5, .int .u32 a0, .int .u32 a1, .int .u32 a2, .int .u32 a3, .int .u32 a4, .int .u32 a5], true⟩])
abbrev yDB (bm0 bm1 : Nat) (I : Nat → Int → Int → Int → Int → Int → Int → Int → Int → Int → Int → Int → Int → Int → Int → Int → Int → Int → World → Prop) (m : Nat) : Kh := KG (ylH bm0 bm1) (U17 I) m
theorem ybE {I : Nat → Int → Int → Int → Int → Int → Int → Int → Int → Int → Int → Int → Int → Int → Int → Int → Int → Int → World → Prop} (m' : Nat) (h1 : m' < m) (h2 : I m' i0 i1 i2 i3 i4 i5 i6 i7 i8 i9 j0 j1 j2 j3 j4 j5 j6 w) : KS (yDB n0 n1 I m) (ylH n0 n1 (i0, i1, i2, i3, i4, i5, i6, i7, i8, i9, j0, j1, j2, j3, j4, j5, j6)) w := ⟨m', h1, _, rfl, rfl, h2⟩
theorem yzI (I : Nat → Int → Int → Int → Int → Int → Int → Int → Int → Int → Int → Int → Int → Int → Int → Int → Int → Int → World → Prop) (m0 : Nat) (h0 : I m0 i0 i1 i2 i3 i4 i5 i6 i7 i8 i9 j0 j1 j2 j3 j4 j5 j6 w0)
 (hr : ∀ m b6 a6 a7 a8 a9 b0 b1 b2 b3 b4 b5 i2 a1 a2 a3 a4 a5 w, I m b6 a6 a7 a8 a9 b0 b1 b2 b3 b4 b5 i2 a1 a2 a3 a4 a5 w →
 w.heap[n1]? = some (.cells #[.int .u32 a6, .int .u32 a7, .int .u32 a8, .int .u32 a9, .int .u32 b0, .int .u32 b1, .int .u32 b2, .int .u32 b3, .int .u32 b4, .int .u32 b5, .int .u32 i2, .int .u32 a1, .int .u32 a2, .int .u32 a3, .int .u32 a4, .int .u32 a5] 170) →
 brB (decide (b6 < 16)) (
 Calls pP 135 #[(.int .u32 (IntKind.wrap .u32 b6))] w fun e w3 => ∃ x4, e = .returned (.int .u32 x4) ∧ ya2 [n1] [(n0, 170)] [n0] w w3 ∧ ∃ x5 x6 x7 x8 x9 f1 f2 f3 f4 f5 f6 f7 f8 f9 g0 g1, w3.heap[n1]? = some (.cells #[.int .u32 x5, .int .u32 x6, .int .u32 x7, .int .u32 x8, .int .u32 x9, .int .u32 f1, .int .u32 f2, .int .u32 f3, .int .u32 f4, .int .u32 f5, .int .u32 f6, .int .u32 f7, .int .u32 f8, .int .u32 f9, .int .u32 g0, .int .u32 g1] 170) ∧ 0 ≤ b6 ∧ b6 < ((16 : Nat) : Int) ∧
 st w3 (Addr.add ⟨n1, 0, none⟩ (Int.toNat b6 * 1)) [.int .u32 x4] fun d2 => ya2 [n1] [(n0, 170)] [n0] w3 d2 ∧ ∃ d5 d6 d7 d8 d9 e0 e1 e2 e3 e4 e5 e6 e7 e8 e9 f0, d2.heap[n1]? = some (.cells #[.int .u32 d5, .int .u32 d6, .int .u32 d7, .int .u32 d8, .int .u32 d9, .int .u32 e0, .int .u32 e1, .int .u32 e2, .int .u32 e3, .int .u32 e4, .int .u32 e5, .int .u32 e6, .int .u32 e7, .int .u32 e8, .int .u32 e9, .int .u32 f0] 170) ∧
 KS (yDB n0 n1 I m) (ylH n0 n1 ((IntKind.wrap .i64 (b6 + 1)), d5, d6, d7, d8, d9, e0, e1, e2, e3, e4, e5, e6, e7, e8, e9, f0)) d2)
 (
 ∀ d3, Adv [n0] [] w d3 → d3.heap[n1]? = some (.cells #[.int .u32 a6, .int .u32 a7, .int .u32 a8, .int .u32 a9, .int .u32 b0, .int .u32 b1, .int .u32 b2, .int .u32 b3, .int .u32 b4, .int .u32 b5, .int .u32 i2, .int .u32 a1, .int .u32 a2, .int .u32 a3, .int .u32 a4, .int .u32 a5] 170) →
 R (.agg #[.int .u32 a6, .int .u32 a7, .int .u32 a8, .int .u32 a9, .int .u32 b0, .int .u32 b1, .int .u32 b2, .int .u32 b3, .int .u32 b4, .int .u32 b5, .int .u32 i2, .int .u32 a1, .int .u32 a2, .int .u32 a3, .int .u32 a4, .int .u32 a5]) d3)) :
 yaK yrO (yHo 395 [0, 0, 1, 0, 1, 1, 1]) (yHp [1, 1, 1, 0, 1, 0] [] R) (ylH n0 n1 (i0, i1, i2, i3, i4, i5, i6, i7, i8, i9, j0, j1, j2, j3, j4, j5, j6)) w0 :=
 lrule (ylH n0 n1) (U17 I) h0 (by rintro m ⟨b6, a6, a7, a8, a9, b0, b1, b2, b3, b4, b5, i2, a1, a2, a3, a4, a5⟩ w h; exact ⟨by kernel_rfl, by kernel_rfl, fun js => Eq.mpr (by kernel_rfl) (hr m b6 a6 a7 a8 a9 b0 b1 b2 b3 b4 b5 i2 a1 a2 a3 a4 a5 w h)⟩)
theorem yHq (h :
 ∀ b1, w.heap.size ≤ b1 →
 ∀ b2, w.heap.size ≤ b2 →
 ∀ a0, Adv [] [b2, b1] w a0 → a0.heap[b2]? = some (.cells #[.int .u32 0, .int .u32 0, .int .u32 0, .int .u32 0, .int .u32 0, .int .u32 0, .int .u32 0, .int .u32 0, .int .u32 0, .int .u32 0, .int .u32 0, .int .u32 0, .int .u32 0, .int .u32 0, .int .u32 0, .int .u32 0] 170) →
 yaK yrO (yHo 395 [0, 0, 1, 0, 1, 1, 1]) (yHp [1, 1, 1, 0, 1, 0] [] R) (ylH b1 b2 (0, 0, 0, 0, 0, 0, 0, 0, 0, 0, 0, 0, 0, 0, 0, 0, 0)) a0) :
 CR pP 122 #[] w R :=
 yaA Tryz.wide_mixed (an := ytG) Tryz.func122 rfl rfl (by kernel_rfl) rfl (Eq.mpr (by kernel_rfl) h)
def yrP : LA := ⟨[0, 0, 1, 0, 1, 1, 1], [1, 5, 6, 12, 13], [(5, 0, 0)], 1, [0]⟩
def ytH : List LA := [yrP]
abbrev yHr := dnF pP ytH (code Tryz.f98)
abbrev yK1 := yaO pP ytH (code Tryz.f98)
abbrev yHs (p : List Nat) (K : List Kh) (R : VWP) := yaO pP ytH (code Tryz.f98) p K (ya4 pP Tryz.f98 [] R)
def ylI (b8 : BA) (b6 : Int) (bm0 : Nat) (a6 a7 a8 a9 b0 b1 b2 b3 b4 b5 a0 a1 a2 a3 a4 a5 : Int) : Int × Int → List Value × List TB := fun (b9, b7) => ([.string b8, (.pointer (some ⟨bm0, 0, none⟩)), .int .u32 b9, .int .i64 b6, .int .i64 b7], [⟨bm0, 170, [.int .u32 a6, .int .u32 a7, .int .u32 a8, .int .u32 a9, .int .u32 b0, .int .u32 b1, .int .u32 b2, .int .u32 b3, .int .u32 b4, .int .u32 b5, .int .u32 a0, .int .u32 a1, .int .u32 a2, .int .u32 a3, .int .u32 a4, .int .u32 a5], true⟩])
abbrev yDC (b7 : BA) (b6 : Int) (bm0 : Nat) (a6 a7 a8 a9 b0 b1 b2 b3 b4 b5 a0 a1 a2 a3 a4 a5 : Int) (I : Nat → Int → Int → World → Prop) (m : Nat) : Kh := KG (ylI b7 b6 bm0 a6 a7 a8 a9 b0 b1 b2 b3 b4 b5 a0 a1 a2 a3 a4 a5) (U2 I) m
theorem yzJ {I : Nat → Int → Int → World → Prop} (m' : Nat) (h1 : m' < m) (h2 : I m' j7 j8 w) : KS (yDC s0 i0 n0 i1 i2 i3 i4 i5 i6 i7 i8 i9 j0 j1 j2 j3 j4 j5 j6 I m) (ylI s0 i0 n0 i1 i2 i3 i4 i5 i6 i7 i8 i9 j0 j1 j2 j3 j4 j5 j6 (j7, j8)) w := ⟨m', h1, _, rfl, rfl, h2⟩
theorem yzK (I : Nat → Int → Int → World → Prop) (m0 : Nat) (h0 : I m0 j7 j8 w0)
 (hr : ∀ m a6 b7 w, I m a6 b7 w →
 w.heap[n0]? = some (.cells #[.int .u32 i1, .int .u32 i2, .int .u32 i3, .int .u32 i4, .int .u32 i5, .int .u32 i6, .int .u32 i7, .int .u32 i8, .int .u32 i9, .int .u32 j0, .int .u32 j1, .int .u32 j2, .int .u32 j3, .int .u32 j4, .int .u32 j5, .int .u32 j6] 170) →
 brB (decide (b7 < i0)) (
 ixS s0 b7 fun b8 => nn 4 (nz 16 (0 ≤ (Int.tmod (yeQ .u32 a6 (IntKind.wrap .u32 b8)) 16) ∧ (Int.tmod (yeQ .u32 a6 (IntKind.wrap .u32 b8)) 16) < ((16 : Nat) : Int) ∧
 yaI .u32 w (Addr.add ⟨n0, 0, none⟩ (Int.toNat (Int.tmod (yeQ .u32 a6 (IntKind.wrap .u32 b8)) 16) * 1)) fun c1 => nn 4 (nz 16 (0 ≤ (Int.tmod (yeQ .u32 (Int.fdiv (yeQ .u32 a6 (IntKind.wrap .u32 b8)) (2 ^ (min (Int.toNat 4) 32))) c1) 16) ∧ (Int.tmod (yeQ .u32 (Int.fdiv (yeQ .u32 a6 (IntKind.wrap .u32 b8)) (2 ^ (min (Int.toNat 4) 32))) c1) 16) < ((16 : Nat) : Int) ∧
 yaI .u32 w (Addr.add ⟨n0, 0, none⟩ (Int.toNat (Int.tmod (yeQ .u32 (Int.fdiv (yeQ .u32 a6 (IntKind.wrap .u32 b8)) (2 ^ (min (Int.toNat 4) 32))) c1) 16) * 1)) fun c4 =>
 KS (yDC s0 i0 n0 i1 i2 i3 i4 i5 i6 i7 i8 i9 j0 j1 j2 j3 j4 j5 j6 I m) (ylI s0 i0 n0 i1 i2 i3 i4 i5 i6 i7 i8 i9 j0 j1 j2 j3 j4 j5 j6 ((yeQ .u32 (Int.fdiv (yeQ .u32 (Int.fdiv (yeQ .u32 a6 (IntKind.wrap .u32 b8)) (2 ^ (min (Int.toNat 4) 32))) c1) (2 ^ (min (Int.toNat 4) 32))) c4), (IntKind.wrap .i64 (b7 + 1)))) w)))))
 (
 R (.int .u32 (yeQ .u32 4294967295 a6)) w)) :
 yaK yrP (yHr 395 [0, 0, 1, 0, 1, 1, 1]) (yHs [1, 1, 1, 0, 1, 0] [] R) (ylI s0 i0 n0 i1 i2 i3 i4 i5 i6 i7 i8 i9 j0 j1 j2 j3 j4 j5 j6 (j7, j8)) w0 :=
 lrule (ylI s0 i0 n0 i1 i2 i3 i4 i5 i6 i7 i8 i9 j0 j1 j2 j3 j4 j5 j6) (U2 I) h0 (by rintro m ⟨a6, b7⟩ w h; exact ⟨by kernel_rfl, by kernel_rfl, fun js => Eq.mpr (by kernel_rfl) (hr m a6 b7 w h)⟩)
theorem yHt (h :
 Calls pP 122 #[] w fun e w1 => ∃ x2 x3 x4 x5 x6 x7 x8 x9 a4 a5 a6 a7 a8 a9 b0 b1, e = .returned (.agg #[.int .u32 x2, .int .u32 x3, .int .u32 x4, .int .u32 x5, .int .u32 x6, .int .u32 x7, .int .u32 x8, .int .u32 x9, .int .u32 a4, .int .u32 a5, .int .u32 a6, .int .u32 a7, .int .u32 a8, .int .u32 a9, .int .u32 b0, .int .u32 b1]) ∧
 ∀ a2, w1.heap.size ≤ a2 →
 ∀ a3, Adv [] [a2] w1 a3 → a3.heap[a2]? = some (.cells #[.int .u32 x2, .int .u32 x3, .int .u32 x4, .int .u32 x5, .int .u32 x6, .int .u32 x7, .int .u32 x8, .int .u32 x9, .int .u32 a4, .int .u32 a5, .int .u32 a6, .int .u32 a7, .int .u32 a8, .int .u32 a9, .int .u32 b0, .int .u32 b1] 170) →
 yaK yrP (yHr 395 [0, 0, 1, 0, 1, 1, 1]) (yHs [1, 1, 1, 0, 1, 0] [] R) (ylI s0 (s0.size : Int) a2 x2 x3 x4 x5 x6 x7 x8 x9 a4 a5 a6 a7 a8 a9 b0 b1 ((yeQ .u32 4294967295 i0), 0)) a3) :
 CR pP 98 #[.int .u32 i0, .string s0] w R :=
 yaA Tryz.wide_mixed (an := ytH) Tryz.func98 rfl rfl (by kernel_rfl) rfl (Eq.mpr (by kernel_rfl) h)
theorem yHu (h :
 Calls pP 98 #[.int .u32 0, .string s0] w fun e w1 => ∃ x2, e = .returned (.int .u32 x2) ∧
 R (.int .u32 x2) w1) :
 CR pP 62 #[.string s0] w R :=
 yaA Tryz.wide_mixed (an := []) Tryz.func62 rfl rfl (by kernel_rfl) rfl (Eq.mpr (by kernel_rfl) h)
def yrQ : LA := ⟨[0, 0, 1, 0, 1, 1], [0, 3, 7, 8], [], 0, []⟩
def ytI : List LA := [yrQ]
abbrev yHv := dnF pP ytI (code Tryz.f61)
abbrev yK2 := yaO pP ytI (code Tryz.f61)
abbrev yHw (p : List Nat) (K : List Kh) (R : VWP) := yaO pP ytI (code Tryz.f61) p K (ya4 pP Tryz.f61 [] R)
def ylJ (a3 : Int) (a0 : OA) (a2 a1 : Nat) (a4 : Int) : Int → List Value × List TB := fun a5 => ([.int .u32 a3, .slice a0 a2 a1, .int .i64 a4, .int .i64 a5], [])
abbrev yDD (a3 : Int) (a0 : OA) (a2 a1 : Nat) (a4 : Int) (I : Nat → Int → World → Prop) (m : Nat) : Kh := KG (ylJ a3 a0 a2 a1 a4) (U1 I) m
theorem yzL {I : Nat → Int → World → Prop} (m' : Nat) (h1 : m' < m) (h2 : I m' i2 w) : KS (yDD i0 q0 n0 n1 i1 I m) (ylJ i0 q0 n0 n1 i1 i2) w := ⟨m', h1, _, rfl, rfl, h2⟩
theorem yzM {a1 : OA} (I : Nat → Int → World → Prop) (m0 : Nat) (h0 : I m0 i2 w0)
 (hr : ∀ m a0 w, I m a0 w →
 brB (decide (a0 < i1)) (nn (IntKind.wrap .i64 (8 * a0)) (
 ixA a1 n0 a0 1 fun q5 =>
 st w q5 [(.int .u8 (IntKind.wrap .u8 (Int.fdiv i0 (2 ^ (min (Int.toNat (IntKind.wrap .i64 (8 * a0))) 32)))))] fun w6 =>
 KS (yDD i0 a1 n0 n1 i1 I m) (ylJ i0 a1 n0 n1 i1 (IntKind.wrap .i64 (a0 + 1))) w6))
 (
 ∃ s7 w8, Sem.run pP (Go.convert 40 9 (.slice a1 n0 n1)) w = .ok (.string s7) w8 ∧
 R (.string s7) w8)) :
 yaK yrQ (yHv 396 [0, 0, 1, 0, 1, 1]) (yHw [1, 1, 0, 1, 0] [] R) (ylJ i0 a1 n0 n1 i1 i2) w0 :=
 lrule (ylJ i0 a1 n0 n1 i1) (U1 I) h0 (by rintro m a0 w h; exact ⟨by kernel_rfl, by kernel_rfl, fun js => Eq.mpr (by kernel_rfl) (hr m a0 w h)⟩)
theorem yHx (h :
 yc6 pP (Instr.makeSlice 40 (.int .i64 4) (.int .i64 4)) w fun a1 n2 c3 w4 =>
 yaK yrQ (yHv 396 [0, 0, 1, 0, 1, 1]) (yHw [1, 1, 0, 1, 0] [] R) (ylJ i0 a1 n2 c3 (n2 : Int) 0) w4) :
 CR pP 61 #[.int .u32 i0] w R :=
 yaA Tryz.wide_mixed (an := ytI) Tryz.func61 rfl rfl (by kernel_rfl) rfl (Eq.mpr (by kernel_rfl) h)
theorem yHy {a0 : BA} (h :
 Calls pP 28 #[.string a0] w fun e w1 => ∃ s2, e = .returned (.string s2) ∧
 Calls pP 62 #[.string a0] w1 fun e w3 => ∃ x4, e = .returned (.int .u32 x4) ∧
 Calls pP 61 #[.int .u32 x4] w3 fun e w5 => ∃ s6, e = .returned (.string s6) ∧
 yeS s2 s6 fun s7 =>
 R (.string s7) w5) :
 CR pP 29 #[.string a0] w R :=
 yaA Tryz.wide_mixed (an := []) Tryz.func29 rfl rfl (by kernel_rfl) rfl (Eq.mpr (by kernel_rfl) h)
theorem yHz {a1 : BA} (h :
 Calls pP 78 (Z2 a1 i0 i1) w fun e w1 => ∃ s2 x3 x4, e = .returned (.tuple (Z2 s2 x3 x4)) ∧
 brB (x4 != 0) (
 R (.tuple (Z2 (⟨#[]⟩ : BA) 0 x4)) w1)
 (
 brB (decide ((IntKind.wrap .i64 ((a1.size : Int) - x3)) < 4)) (
 R (.tuple (Z2 (⟨#[]⟩ : BA) 0 20)) w1)
 (
 slS a1 x3 (IntKind.wrap .i64 (x3 + 4)) fun s5 =>
 ∀ w6, Adv [] [] w1 w6 →
 Calls pP 62 #[.string s2] w6 fun e w7 => ∃ x8, e = .returned (.int .u32 x8) ∧
 Calls pP 61 #[.int .u32 x8] w7 fun e w9 => ∃ a3, e = .returned (.string a3) ∧
 brB (!(s5.toList == a3.toList)) (
 R (.tuple (Z2 (⟨#[]⟩ : BA) 0 21)) w9)
 (
 R (.tuple (Z2 s2 (IntKind.wrap .i64 (x3 + 4)) 0)) w9)))) :
 CR pP 41 (Z2 a1 i0 i1) w R :=
 yaA Tryz.wide_mixed (an := []) Tryz.func41 rfl rfl (by kernel_rfl) rfl (Eq.mpr (by kernel_rfl) h)
end
theorem ylK {x y : Int} : 0 ≤ yeQ .u32 x y ∧ yeQ .u32 x y < 4294967296 := by
 unfold yeQ
 rw [IntKind.wrap_u32]
 omega
def ynG (c : Int) : Int := yeQ .u32 (Int.fdiv c (2 ^ (min (Int.toNat 1) 32))) (ykS .u32 3988292384 (IntKind.wrap .u32 (0 - (ykS .u32 c 1))))
def yvS (c : Int) : Nat → Int
 | 0 => c
 | k + 1 => ynG (yvS c k)
def yeH (j : Nat) : Int := yvS (IntKind.wrap .u32 (j : Nat)) 4
theorem yHA (c : Int) (w : World) : Calls pP 135 #[.int .u32 c] w fun e w' => e = .returned (.int .u32 (yvS c 4)) ∧ w' = w := by
 refine yaP (yHn ?_)
 refine yzH (fun mm x y w' => ∃ k : Nat, y = k ∧ k ≤ 4 ∧ x = yvS c k ∧ w' = w ∧ mm = 4 - k) 4 ⟨0, rfl, by omega, rfl, rfl, rfl⟩ ?_
 rintro mm x y w' ⟨k, rfl, hk, rfl, rfl, rfl⟩
 refine yaC (fun h => ⟨by omega, ?_⟩) fun h => ?_
 ·exact yzG (4 - (k + 1)) (by omega) ⟨k + 1, by rw [yaH (by omega) (by omega)]; omega, by omega, rfl, rfl, rfl⟩
 ·have hk : k = 4 := by omega
  subst hk
  exact ⟨rfl, rfl⟩
def yaM (k j : Nat) : Int := if j < k then yeH j else 0
def yK3 : Value := .agg #[.int .u32 (yeH 0), .int .u32 (yeH 1), .int .u32 (yeH 2), .int .u32 (yeH 3), .int .u32 (yeH 4), .int .u32 (yeH 5), .int .u32 (yeH 6), .int .u32 (yeH 7), .int .u32 (yeH 8), .int .u32 (yeH 9), .int .u32 (yeH 10), .int .u32 (yeH 11), .int .u32 (yeH 12), .int .u32 (yeH 13), .int .u32 (yeH 14), .int .u32 (yeH 15)]
set_option maxHeartbeats 4000000 in
theorem yE0 (w : World) : Calls pP 122 #[] w fun e w' => e = .returned yK3 ∧ Mod [] w w' := by
 refine yaP (yHq ?_)
 intro b1 f1 b2 f2 w0 A0 h0
 refine yzI (fun mm x x0 x1 x2 x3 x4 x5 x6 x7 x8 x9 x10 x11 x12 x13 x14 x15 w' => ∃ k : Nat, x = k ∧ k ≤ 16 ∧ x0 = yaM k 0 ∧ x1 = yaM k 1 ∧ x2 = yaM k 2 ∧ x3 = yaM k 3 ∧ x4 = yaM k 4 ∧ x5 = yaM k 5 ∧ x6 = yaM k 6 ∧ x7 = yaM k 7 ∧ x8 = yaM k 8 ∧ x9 = yaM k 9 ∧ x10 = yaM k 10 ∧ x11 = yaM k 11 ∧ x12 = yaM k 12 ∧ x13 = yaM k 13 ∧ x14 = yaM k 14 ∧ x15 = yaM k 15 ∧ Mod [] w w' ∧ mm = 16 - k) 16 ⟨0, rfl, by omega, rfl, rfl, rfl, rfl, rfl, rfl, rfl, rfl, rfl, rfl, rfl, rfl, rfl, rfl, rfl, rfl, A0.mod, rfl⟩ ?_
 rintro mm x x0 x1 x2 x3 x4 x5 x6 x7 x8 x9 x10 x11 x12 x13 x14 x15 w1 ⟨k, rfl, hk, rfl, rfl, rfl, rfl, rfl, rfl, rfl, rfl, rfl, rfl, rfl, rfl, rfl, rfl, rfl, rfl, M1, rfl⟩ hc
 refine yaC (fun hlt => ?_) fun hge => ?_
 ·refine (yHA _ w1).mono ?_
  rintro e w2 ⟨rfl, rfl⟩
  refine ⟨_, rfl, yaE.of0 (Mod.refl _), _, _, _, _, _, _, _, _, _, _, _, _, _, _, _, _, hc, by omega, by omega, ?_⟩
  have hb2 : w.heap.size ≤ b2 := f2
  rw [show (⟨b2, 0, none⟩ : Addr).add (Int.toNat (k : Int) * 1) = ⟨b2, k, none⟩ by rw [ya3]; simp]
  refine ydR (b := b2) (o := k) hc rfl (by simp; omega) fun w3 h3 M3 => ?_
  refine ⟨yaE.ofE M3 fun b hb _ he => by simpa using he, ?_⟩
  have hM : Mod [] w w3 := M1.go0 M3 (by simpa using f2)
  have ek : IntKind.wrap .i64 ((k : Int) + 1) = ((k + 1 : Nat) : Int) := by rw [yaH (by omega) (by omega)]; omega
  have hcs : k = 0 ∨ k = 1 ∨ k = 2 ∨ k = 3 ∨ k = 4 ∨ k = 5 ∨ k = 6 ∨ k = 7 ∨ k = 8 ∨ k = 9 ∨ k = 10 ∨ k = 11 ∨ k = 12 ∨ k = 13 ∨ k = 14 ∨ k = 15 := by omega
  rcases hcs with rfl | rfl | rfl | rfl | rfl | rfl | rfl | rfl | rfl | rfl | rfl | rfl | rfl | rfl | rfl | rfl
  ·exact ⟨yaM 1 0, yaM 1 1, yaM 1 2, yaM 1 3, yaM 1 4, yaM 1 5, yaM 1 6, yaM 1 7, yaM 1 8, yaM 1 9, yaM 1 10, yaM 1 11, yaM 1 12, yaM 1 13, yaM 1 14, yaM 1 15, h3, ybE (16 - (0 + 1)) (by omega) ⟨0 + 1, ek, by omega, rfl, rfl, rfl, rfl, rfl, rfl, rfl, rfl, rfl, rfl, rfl, rfl, rfl, rfl, rfl, rfl, hM, rfl⟩⟩
  ·exact ⟨yaM 2 0, yaM 2 1, yaM 2 2, yaM 2 3, yaM 2 4, yaM 2 5, yaM 2 6, yaM 2 7, yaM 2 8, yaM 2 9, yaM 2 10, yaM 2 11, yaM 2 12, yaM 2 13, yaM 2 14, yaM 2 15, h3, ybE (16 - (1 + 1)) (by omega) ⟨1 + 1, ek, by omega, rfl, rfl, rfl, rfl, rfl, rfl, rfl, rfl, rfl, rfl, rfl, rfl, rfl, rfl, rfl, rfl, hM, rfl⟩⟩
  ·exact ⟨yaM 3 0, yaM 3 1, yaM 3 2, yaM 3 3, yaM 3 4, yaM 3 5, yaM 3 6, yaM 3 7, yaM 3 8, yaM 3 9, yaM 3 10, yaM 3 11, yaM 3 12, yaM 3 13, yaM 3 14, yaM 3 15, h3, ybE (16 - (2 + 1)) (by omega) ⟨2 + 1, ek, by omega, rfl, rfl, rfl, rfl, rfl, rfl, rfl, rfl, rfl, rfl, rfl, rfl, rfl, rfl, rfl, rfl, hM, rfl⟩⟩
  ·exact ⟨yaM 4 0, yaM 4 1, yaM 4 2, yaM 4 3, yaM 4 4, yaM 4 5, yaM 4 6, yaM 4 7, yaM 4 8, yaM 4 9, yaM 4 10, yaM 4 11, yaM 4 12, yaM 4 13, yaM 4 14, yaM 4 15, h3, ybE (16 - (3 + 1)) (by omega) ⟨3 + 1, ek, by omega, rfl, rfl, rfl, rfl, rfl, rfl, rfl, rfl, rfl, rfl, rfl, rfl, rfl, rfl, rfl, rfl, hM, rfl⟩⟩
  ·exact ⟨yaM 5 0, yaM 5 1, yaM 5 2, yaM 5 3, yaM 5 4, yaM 5 5, yaM 5 6, yaM 5 7, yaM 5 8, yaM 5 9, yaM 5 10, yaM 5 11, yaM 5 12, yaM 5 13, yaM 5 14, yaM 5 15, h3, ybE (16 - (4 + 1)) (by omega) ⟨4 + 1, ek, by omega, rfl, rfl, rfl, rfl, rfl, rfl, rfl, rfl, rfl, rfl, rfl, rfl, rfl, rfl, rfl, rfl, hM, rfl⟩⟩
  ·exact ⟨yaM 6 0, yaM 6 1, yaM 6 2, yaM 6 3, yaM 6 4, yaM 6 5, yaM 6 6, yaM 6 7, yaM 6 8, yaM 6 9, yaM 6 10, yaM 6 11, yaM 6 12, yaM 6 13, yaM 6 14, yaM 6 15, h3, ybE (16 - (5 + 1)) (by omega) ⟨5 + 1, ek, by omega, rfl, rfl, rfl, rfl, rfl, rfl, rfl, rfl, rfl, rfl, rfl, rfl, rfl, rfl, rfl, rfl, hM, rfl⟩⟩
  ·exact ⟨yaM 7 0, yaM 7 1, yaM 7 2, yaM 7 3, yaM 7 4, yaM 7 5, yaM 7 6, yaM 7 7, yaM 7 8, yaM 7 9, yaM 7 10, yaM 7 11, yaM 7 12, yaM 7 13, yaM 7 14, yaM 7 15, h3, ybE (16 - (6 + 1)) (by omega) ⟨6 + 1, ek, by omega, rfl, rfl, rfl, rfl, rfl, rfl, rfl, rfl, rfl, rfl, rfl, rfl, rfl, rfl, rfl, rfl, hM, rfl⟩⟩
  ·exact ⟨yaM 8 0, yaM 8 1, yaM 8 2, yaM 8 3, yaM 8 4, yaM 8 5, yaM 8 6, yaM 8 7, yaM 8 8, yaM 8 9, yaM 8 10, yaM 8 11, yaM 8 12, yaM 8 13, yaM 8 14, yaM 8 15, h3, ybE (16 - (7 + 1)) (by omega) ⟨7 + 1, ek, by omega, rfl, rfl, rfl, rfl, rfl, rfl, rfl, rfl, rfl, rfl, rfl, rfl, rfl, rfl, rfl, rfl, hM, rfl⟩⟩
  ·exact ⟨yaM 9 0, yaM 9 1, yaM 9 2, yaM 9 3, yaM 9 4, yaM 9 5, yaM 9 6, yaM 9 7, yaM 9 8, yaM 9 9, yaM 9 10, yaM 9 11, yaM 9 12, yaM 9 13, yaM 9 14, yaM 9 15, h3, ybE (16 - (8 + 1)) (by omega) ⟨8 + 1, ek, by omega, rfl, rfl, rfl, rfl, rfl, rfl, rfl, rfl, rfl, rfl, rfl, rfl, rfl, rfl, rfl, rfl, hM, rfl⟩⟩
  ·exact ⟨yaM 10 0, yaM 10 1, yaM 10 2, yaM 10 3, yaM 10 4, yaM 10 5, yaM 10 6, yaM 10 7, yaM 10 8, yaM 10 9, yaM 10 10, yaM 10 11, yaM 10 12, yaM 10 13, yaM 10 14, yaM 10 15, h3, ybE (16 - (9 + 1)) (by omega) ⟨9 + 1, ek, by omega, rfl, rfl, rfl, rfl, rfl, rfl, rfl, rfl, rfl, rfl, rfl, rfl, rfl, rfl, rfl, rfl, hM, rfl⟩⟩
  ·exact ⟨yaM 11 0, yaM 11 1, yaM 11 2, yaM 11 3, yaM 11 4, yaM 11 5, yaM 11 6, yaM 11 7, yaM 11 8, yaM 11 9, yaM 11 10, yaM 11 11, yaM 11 12, yaM 11 13, yaM 11 14, yaM 11 15, h3, ybE (16 - (10 + 1)) (by omega) ⟨10 + 1, ek, by omega, rfl, rfl, rfl, rfl, rfl, rfl, rfl, rfl, rfl, rfl, rfl, rfl, rfl, rfl, rfl, rfl, hM, rfl⟩⟩
  ·exact ⟨yaM 12 0, yaM 12 1, yaM 12 2, yaM 12 3, yaM 12 4, yaM 12 5, yaM 12 6, yaM 12 7, yaM 12 8, yaM 12 9, yaM 12 10, yaM 12 11, yaM 12 12, yaM 12 13, yaM 12 14, yaM 12 15, h3, ybE (16 - (11 + 1)) (by omega) ⟨11 + 1, ek, by omega, rfl, rfl, rfl, rfl, rfl, rfl, rfl, rfl, rfl, rfl, rfl, rfl, rfl, rfl, rfl, rfl, hM, rfl⟩⟩
  ·exact ⟨yaM 13 0, yaM 13 1, yaM 13 2, yaM 13 3, yaM 13 4, yaM 13 5, yaM 13 6, yaM 13 7, yaM 13 8, yaM 13 9, yaM 13 10, yaM 13 11, yaM 13 12, yaM 13 13, yaM 13 14, yaM 13 15, h3, ybE (16 - (12 + 1)) (by omega) ⟨12 + 1, ek, by omega, rfl, rfl, rfl, rfl, rfl, rfl, rfl, rfl, rfl, rfl, rfl, rfl, rfl, rfl, rfl, rfl, hM, rfl⟩⟩
  ·exact ⟨yaM 14 0, yaM 14 1, yaM 14 2, yaM 14 3, yaM 14 4, yaM 14 5, yaM 14 6, yaM 14 7, yaM 14 8, yaM 14 9, yaM 14 10, yaM 14 11, yaM 14 12, yaM 14 13, yaM 14 14, yaM 14 15, h3, ybE (16 - (13 + 1)) (by omega) ⟨13 + 1, ek, by omega, rfl, rfl, rfl, rfl, rfl, rfl, rfl, rfl, rfl, rfl, rfl, rfl, rfl, rfl, rfl, rfl, hM, rfl⟩⟩
  ·exact ⟨yaM 15 0, yaM 15 1, yaM 15 2, yaM 15 3, yaM 15 4, yaM 15 5, yaM 15 6, yaM 15 7, yaM 15 8, yaM 15 9, yaM 15 10, yaM 15 11, yaM 15 12, yaM 15 13, yaM 15 14, yaM 15 15, h3, ybE (16 - (14 + 1)) (by omega) ⟨14 + 1, ek, by omega, rfl, rfl, rfl, rfl, rfl, rfl, rfl, rfl, rfl, rfl, rfl, rfl, rfl, rfl, rfl, rfl, hM, rfl⟩⟩
  ·exact ⟨yaM 16 0, yaM 16 1, yaM 16 2, yaM 16 3, yaM 16 4, yaM 16 5, yaM 16 6, yaM 16 7, yaM 16 8, yaM 16 9, yaM 16 10, yaM 16 11, yaM 16 12, yaM 16 13, yaM 16 14, yaM 16 15, h3, ybE (16 - (15 + 1)) (by omega) ⟨15 + 1, ek, by omega, rfl, rfl, rfl, rfl, rfl, rfl, rfl, rfl, rfl, rfl, rfl, rfl, rfl, rfl, rfl, rfl, hM, rfl⟩⟩
 ·have hk : k = 16 := by omega
  subst hk
  intro w2 A2 _
  exact ⟨rfl, M1.go0 A2.mod (by simpa using f1)⟩
def ydV (c : Int) (b : UInt8) : Int :=
 yeQ .u32 (Int.fdiv (yeQ .u32 (Int.fdiv (yeQ .u32 c (IntKind.wrap .u32 (b.toNat : Nat))) (2 ^ (min (Int.toNat 4) 32))) (yeH (Int.tmod (yeQ .u32 c (IntKind.wrap .u32 (b.toNat : Nat))) 16).toNat)) (2 ^ (min (Int.toNat 4) 32)))
  (yeH (Int.tmod (yeQ .u32 (Int.fdiv (yeQ .u32 c (IntKind.wrap .u32 (b.toNat : Nat))) (2 ^ (min (Int.toNat 4) 32))) (yeH (Int.tmod (yeQ .u32 c (IntKind.wrap .u32 (b.toNat : Nat))) 16).toNat)) 16).toNat)
theorem ytJ {w : World} {b : Nat} {T : TypeId} (h : w.heap[b]? = some (.cells #[.int .u32 (yeH 0), .int .u32 (yeH 1), .int .u32 (yeH 2), .int .u32 (yeH 3), .int .u32 (yeH 4), .int .u32 (yeH 5), .int .u32 (yeH 6), .int .u32 (yeH 7), .int .u32 (yeH 8), .int .u32 (yeH 9), .int .u32 (yeH 10), .int .u32 (yeH 11), .int .u32 (yeH 12), .int .u32 (yeH 13), .int .u32 (yeH 14), .int .u32 (yeH 15)] T)) {i : Nat} (hi : i < 16) : w.cell? ((⟨b, 0, none⟩ : Addr).add (i * 1)) = some (.int .u32 (yeH i)) := by
 rw [ya3, Nat.zero_add, Nat.mul_one, yaZ h]
 have e : i = 0 ∨ i = 1 ∨ i = 2 ∨ i = 3 ∨ i = 4 ∨ i = 5 ∨ i = 6 ∨ i = 7 ∨ i = 8 ∨ i = 9 ∨ i = 10 ∨ i = 11 ∨ i = 12 ∨ i = 13 ∨ i = 14 ∨ i = 15 := by omega
 rcases e with rfl | rfl | rfl | rfl | rfl | rfl | rfl | rfl | rfl | rfl | rfl | rfl | rfl | rfl | rfl | rfl <;> rfl
theorem yDE {x : Int} (h : 0 ≤ x) : 0 ≤ Int.tmod x 16 ∧ Int.tmod x 16 < ((16 : Nat) : Int) := by
 rw [Int.tmod_eq_emod_of_nonneg h]; omega
def yHB (c : Int) (l : List UInt8) : Int := yeQ .u32 4294967295 (l.foldl ydV (yeQ .u32 4294967295 c))
theorem yE1 (c : Int) (s : ByteArray) (hs : s.size ≤ 1000000000000) (w : World) : Calls pP 98 #[.int .u32 c, .string s] w fun e w' => e = .returned (.int .u32 (yHB c s.data.toList)) ∧ Mod [] w w' := by
 refine yaP (yHt ?_)
 refine (yE0 w).mono ?_
 rintro e w1 ⟨rfl, M1⟩
 refine ⟨_, _, _, _, _, _, _, _, _, _, _, _, _, _, _, _, rfl, ?_⟩
 intro b2 f2 w2 A2 h2
 have N2 := M1.go0 A2.mod (by simp)
 refine yzK (fun mm x y w' => ∃ k : Nat, y = k ∧ k ≤ s.size ∧ x = (s.data.toList.take k).foldl ydV (yeQ .u32 4294967295 c) ∧ w' = w2 ∧ mm = s.size - k) s.size ⟨0, rfl, by omega, by simp, rfl, rfl⟩ ?_
 rintro mm x y w3 ⟨k, rfl, hk, rfl, rfl, rfl⟩ _
 refine yaC (fun hlt => ?_) fun hge => ?_
 ·have hk' : k < s.size := by omega
  obtain ⟨b, hb, hv⟩ := ycN hk'
  refine ⟨by omega, by omega, ?_⟩
  rw [Int.toNat_natCast, hv]
  have t1 := yDE (x := yeQ .u32 ((s.data.toList.take k).foldl ydV (yeQ .u32 4294967295 c)) (IntKind.wrap .u32 (b.toNat : Nat))) ylK.1
  refine ⟨by omega, by omega, t1.1, t1.2, yaF (ytJ h2 (by omega)) ?_⟩
  have t2 := yDE (x := yeQ .u32 (Int.fdiv (yeQ .u32 ((s.data.toList.take k).foldl ydV (yeQ .u32 4294967295 c)) (IntKind.wrap .u32 (b.toNat : Nat))) (2 ^ (min (Int.toNat 4) 32))) (yeH (Int.tmod (yeQ .u32 ((s.data.toList.take k).foldl ydV (yeQ .u32 4294967295 c)) (IntKind.wrap .u32 (b.toNat : Nat))) 16).toNat)) ylK.1
  refine ⟨by omega, by omega, t2.1, t2.2, yaF (ytJ h2 (by omega)) ?_⟩
  refine yzJ (s.size - (k + 1)) (by omega) ⟨k + 1, by rw [yaH (by omega) (by omega)]; omega, by omega, ?_, rfl, rfl⟩
  rw [List.take_add_one, hb]
  simp [ydV]
 ·have hk : k = s.size := by omega
  subst hk
  rw [List.take_of_length_le (by simp)]
  exact ⟨rfl, N2⟩
def yzN (l : List UInt8) : Int := yHB 0 l
theorem yDF (s : ByteArray) (hs : s.size ≤ 1000000000000) (w : World) : Calls pP 62 #[.string s] w fun e w' => e = .returned (.int .u32 (yzN s.data.toList)) ∧ Mod [] w w' := by
 refine yaP (yHu ?_)
 refine (yE1 0 s hs w).mono ?_
 rintro e w1 ⟨rfl, M1⟩
 exact ⟨_, rfl, rfl, M1⟩
def lbI (n : Int) (k : Nat) : Int := IntKind.wrap .u8 (Int.fdiv n (2 ^ (min (Int.toNat ((8 * k : Nat) : Int)) 32)))
def lb (n : Int) (k : Nat) : UInt8 := UInt8.ofNat (lbI n k).toNat
theorem yiH (n : Int) (k : Nat) : ((lb n k).toNat : Int) = lbI n k := by
 have h : 0 ≤ lbI n k ∧ lbI n k < 256 := by unfold lbI; rw [IntKind.wrap_u8]; omega
 have : (lb n k).toNat = (lbI n k).toNat := by simp [lb]; omega
 omega
theorem yKa : madeCells #[Value.int .u8 0] 4 = #[.int .u8 0, .int .u8 0, .int .u8 0, .int .u8 0] := by kernel_rfl
def ydD (n : Int) : List UInt8 := [lb n 0, lb n 1, lb n 2, lb n 3]
theorem yzO (n : Int) (w : World) : Calls pP 61 #[.int .u32 n] w fun e w' => e = .returned (.string (bs (ydD n))) ∧ Mod [] w w' := by
 refine yaP (yHx ?_)
 obtain ⟨i0, hi, hz0, hz1, hz2⟩ := info_parts yDr
 have hmk : (Instr.makeSlice 40 (.int .i64 4) (.int .i64 4)).run pP w = .ok (.slice (some ⟨w.heap.size, 0, none⟩) 4 4) (w.alloc (.cells (madeCells #[Value.int .u8 0] 4) 5)) := by
  have h := run_makeSlice (P := pP) w 40 5 i0 (.int .u8 0) Tryz.underlying40 hi hz0 .i64 .i64 4 4 (by omega) (by omega) (by rw [hz1]; decide) (by rw [hz2]; decide) (by decide)
  rw [hz1] at h
  exact h
 refine ⟨_, _, _, _, hmk, ?_⟩
 have M1 : Mod [] w (w.alloc (.cells (madeCells #[Value.int .u8 0] 4) 5)) := Mod.of_below ((Below.refl _ _).alloc (Nat.le_refl _) _)
 have h1 : (w.alloc (.cells (madeCells #[Value.int .u8 0] 4) 5)).heap[w.heap.size]? = some (.cells #[.int .u8 0, .int .u8 0, .int .u8 0, .int .u8 0] 5) := by
  have := World.alloc_heap_new w (.cells (madeCells #[Value.int .u8 0] 4) 5)
  rw [this, yKa]
 obtain ⟨f, hf⟩ : ∃ f : Nat → Nat → Value, f = fun k j => if j < k then .int .u8 (lbI n j) else .int .u8 0 := ⟨_, rfl⟩
 refine yzM (fun mm x w' => ∃ k : Nat, x = k ∧ k ≤ 4 ∧ w'.heap[w.heap.size]? = some (.cells #[f k 0, f k 1, f k 2, f k 3] 5) ∧ Mod [] w w' ∧ mm = 4 - k) 4 ⟨0, rfl, by omega, by rw [hf]; exact h1, M1, rfl⟩ ?_
 rintro mm x w2 ⟨k, rfl, hk, h2, M2, rfl⟩
 have e8 : k ≤ 3 → IntKind.wrap .i64 (8 * (k : Int)) = ((8 * k : Nat) : Int) := fun _ => by rw [yaH (by omega) (by omega)]; omega
 refine yaC (fun hlt => ⟨by rw [e8 (by omega)]; omega, ?_⟩) fun hge => ?_
 ·rw [e8 (by omega)]
  refine ⟨_, rfl, by omega, by omega, ?_⟩
  rw [show (⟨w.heap.size, 0, none⟩ : Addr).add (Int.toNat (k : Int) * 1) = ⟨w.heap.size, k, none⟩ by rw [ya3]; simp]
  have ek : IntKind.wrap .i64 ((k : Int) + 1) = ((k + 1 : Nat) : Int) := by rw [yaH (by omega) (by omega)]; omega
  refine ydR (o := k) h2 rfl (by simp; omega) fun w3 h3 M3 => ?_
  have hM : Mod [] w w3 := M2.go0 M3 (by simp)
  refine yzL (4 - (k + 1)) (by omega) ⟨k + 1, ek, by omega, ?_, hM, rfl⟩
  rw [h3]
  have hcs : k = 0 ∨ k = 1 ∨ k = 2 ∨ k = 3 := by omega
  subst hf
  rcases hcs with rfl | rfl | rfl | rfl <;> rfl
 ·have hk : k = 4 := by omega
  subst hk
  refine ⟨_, _, run_convert_bytes_back w2 _ _ 5 ⟨w.heap.size, 0, none⟩ 4 (ydD n) Tryz.underlying40 Tryz.underlying5 Tryz.underlying9 fun j hj => ?_, rfl, M2⟩
  rw [ya3, Nat.zero_add, yaZ h2]
  subst hf
  have hj : j < 4 := hj
  match j, hj with
  | 0, _ => simp [ydD, yiH]
  | 1, _ => simp [ydD, yiH]
  | 2, _ => simp [ydD, yiH]
  | 3, _ => simp [ydD, yiH]
def ydG (s : ByteArray) : List UInt8 := ybU s ++ ydD (yzN s.data.toList)
theorem ytK (s : ByteArray) (hs : s.size ≤ 1000000000000) (w : World) : Calls pP 29 #[.string s] w fun e w' => e = .returned (.string (bs (ydG s))) ∧ Mod [] w w' := by
 refine yaP (yHy ?_)
 refine (ycO s (by omega) w).mono ?_
 rintro e w1 ⟨rfl, M1⟩
 refine ⟨_, rfl, ?_⟩
 refine (yDF s hs w1).mono ?_
 rintro e w2 ⟨rfl, M2⟩
 refine ⟨_, rfl, ?_⟩
 refine (yzO _ w2).mono ?_
 rintro e w3 ⟨rfl, M3⟩
 have := yaW s (by omega)
 refine ⟨_, rfl, by rw [yaD, yaD]; simp [ydD]; omega, ?_⟩
 exact ⟨by rw [ya9]; rfl, (M1.go0 M2 (by simp)).go0 M3 (by simp)⟩
def vg : Nat → List UInt8 → Option (Nat × Nat)
 | _, [] => none
 | k, c :: r => if (k = 9 ∧ 1 < c.toNat) ∨ (0 < k ∧ c.toNat = 0) then none
  else if c.toNat < 128 then some (c.toNat, 1)
  else (vg (k + 1) r).map fun p => (c.toNat % 128 + 128 * p.1, p.2 + 1)
theorem yE2 (k : Nat) (c : UInt8) (r : List UInt8) : vg k (c :: r) = if (k = 9 ∧ 1 < c.toNat) ∨ (0 < k ∧ c.toNat = 0) then none
 else if c.toNat < 128 then some (c.toNat, 1)
 else (vg (k + 1) r).map fun p => (c.toNat % 128 + 128 * p.1, p.2 + 1) := rfl
theorem yp0 : ∀ (l : List UInt8) {k n m : Nat}, vg k l = some (n, m) → 1 ≤ m ∧ m ≤ l.length
 | [], k, n, m, h => by simp [vg] at h
 | c :: r, k, n, m, h => by
  unfold vg at h
  split at h
  ·simp at h
  split at h
  ·simp at h; simp; omega
  cases hr : vg (k + 1) r with
  | none => simp [hr] at h
  | some p =>
   have := yp0 r (n := p.1) (m := p.2) hr
   simp [hr] at h; simp; omega
theorem yE3 : ∀ (l : List UInt8) {k n m : Nat}, k ≤ 9 → vg k l = some (n, m) → n < 2 ^ (64 - 7 * k)
 | [], k, n, m, _, h => by simp [vg] at h
 | c :: r, k, n, m, hk, h => by
  unfold vg at h
  split at h
  ·simp at h
  rename_i hl
  split at h
  ·simp at h
   rename_i hc
   have h2 : 2 ^ 8 ≤ 2 ^ (64 - 7 * k) ∨ k = 9 := by
    by_cases k = 9
    ·exact .inr ‹_›
    ·exact .inl (Nat.pow_le_pow_right (by omega) (by omega))
   rcases h2 with h2 | rfl
   ·omega
   ·simp; omega
  cases hr : vg (k + 1) r with
  | none => simp [hr] at h
  | some p =>
   have hk9 : k ≠ 9 := by omega
   have := yE3 r (n := p.1) (m := p.2) (by omega) hr
   have e : 64 - 7 * k = (64 - 7 * (k + 1)) + 7 := by omega
   rw [e, Nat.pow_add]
   simp [hr] at h
   omega
theorem yzP : ∀ (j k n : Nat) (r : List UInt8), j + k = 9 → n < 2 ^ (64 - 7 * k) → (0 < k → 0 < n) → vg k (yaJ n ++ r) = some (n, (yaJ n).length)
 | j, k, n, r, hj, hn, h0 => by
  unfold yaJ
  by_cases hs : n < 128
  ·have e : (UInt8.ofNat n).toNat = n := by simp; omega
   rw [yc2 hs]
   simp only [List.map_cons, List.map_nil, Bool.false_eq_true, if_false, List.cons_append, List.nil_append, vg, e, List.length_cons, List.length_nil]
   rw [if_neg, if_pos hs]
   rintro (⟨rfl, h⟩ | ⟨h1, h2⟩)
   ·simp at hn; omega
   ·omega
  ·have e : (UInt8.ofNat (n % 128 + 128)).toNat = n % 128 + 128 := by simp; omega
   have hk9 : k ≠ 9 := by rintro rfl; simp at hn; omega
   obtain ⟨j, rfl⟩ : ∃ i, j = i + 1 := ⟨j - 1, by omega⟩
   have e2 : 64 - 7 * k = (64 - 7 * (k + 1)) + 7 := by omega
   rw [e2, Nat.pow_add] at hn
   have ih := yzP j (k + 1) (n / 128) r (by omega) (by omega) (by omega)
   unfold yaJ at ih
   rw [ygY hs]
   simp only [List.map_cons, if_true, List.cons_append, vg, e, List.length_cons]
   rw [if_neg (by omega), if_neg (by omega), ih]
   simp; omega
 termination_by j => j
theorem yKb (a b : Nat) (ha : a < 18446744073709551616) (hb : b < 18446744073709551616) : bOr .u64 a b = ((a ||| b : Nat) : Int) := by
 have h : a ||| b < 2 ^ 64 := Nat.or_lt_two_pow ha hb
 unfold bOr
 rw [IntKind.wrap_u64]
 simp only [BitVec.toNat_or, BitVec.toNat_ofInt]
 have e1 : ((a : Int) % ((2 ^ IntKind.bits .u64 : Nat) : Int)).toNat = a := by
  show ((a : Int) % ((2 ^ 64 : Nat) : Int)).toNat = a
  omega
 have e2 : ((b : Int) % ((2 ^ IntKind.bits .u64 : Nat) : Int)).toNat = b := by
  show ((b : Int) % ((2 ^ 64 : Nat) : Int)).toNat = b
  omega
 rw [e1, e2]
 omega
theorem yE4 : ∀ c : Fin 256, ykS .u8 ((c.val : Nat) : Int) 127 = ((c.val % 128 : Nat) : Int) := by decide +kernel
theorem vstep {acc k c : Nat} (hk : k ≤ 9) (ha : acc < 2 ^ (7 * k)) (hc : c < 256) (h9 : k = 9 → c ≤ 1) :
  bOr .u64 (acc : Int) (IntKind.wrap .u64 ((IntKind.wrap .u64 (ykS .u8 (c : Nat) 127)) * 2 ^ (min (Int.toNat (IntKind.wrap .i64 (7 * (k : Nat)))) 64))) = ((acc + 2 ^ (7 * k) * (c % 128) : Nat) : Int) := by
 have e0 := yE4 ⟨c, hc⟩
 have e1 : min (Int.toNat (IntKind.wrap .i64 (7 * (k : Nat)))) 64 = 7 * k := by rw [yaH (by omega) (by omega)]; omega
 rw [e0, e1, yd8 (by omega)]
 have hp : 2 ^ (7 * k) * (c % 128) < 2 ^ 64 := by
  have hcs : k = 0 ∨ k = 1 ∨ k = 2 ∨ k = 3 ∨ k = 4 ∨ k = 5 ∨ k = 6 ∨ k = 7 ∨ k = 8 ∨ k = 9 := by omega
  rcases hcs with rfl | rfl | rfl | rfl | rfl | rfl | rfl | rfl | rfl | rfl <;> simp <;> omega
 have e2 : (((c % 128 : Nat) : Int) * 2 ^ (7 * k)) = ((2 ^ (7 * k) * (c % 128) : Nat) : Int) := by
  rw [Int.natCast_mul, Int.natCast_pow, Int.mul_comm]; rfl
 rw [e2, yd8 (by omega)]
 have hp2 : 2 ^ (7 * k) ≤ 2 ^ 63 := Nat.pow_le_pow_right (by omega) (by omega)
 rw [yKb _ _ (by omega) (by omega)]
 congr 1
 rw [Nat.or_comm, ← Nat.two_pow_add_eq_or_of_lt ha, Nat.add_comm]
def yJO (at_ : Nat) : Option (Nat × Nat) → Value → Prop
 | some (n, m), v => v = .tuple #[.int .u64 (n : Nat), .int .i64 ((at_ + m : Nat) : Int), .int .i64 0]
 | none, v => ∃ e : Int, e ≠ 0 ∧ v = .tuple #[.int .u64 0, .int .i64 0, .int .i64 e]
set_option maxRecDepth 20000 in
theorem ygH (s : ByteArray) (a : Nat) (hs : s.size ≤ 1000000000000) (ha : a ≤ s.size) (w : World) :
  Calls pP 79 #[.string s, .int .i64 (a : Nat)] w fun e w' => ∃ v, e = .returned v ∧ yJO a (vg 0 (s.data.toList.drop a)) v ∧ w' = w := by
 refine yHj ?_
 refine yaC (fun h => by omega) fun _ => yaC (fun h => by omega) fun _ => ?_
 refine yzF (fun mm x y w' => ∃ k acc : Nat, y = k ∧ x = acc ∧ k ≤ 9 ∧ acc < 2 ^ (7 * k) ∧ w' = w ∧ a + k ≤ s.size ∧
  vg 0 (s.data.toList.drop a) = (vg k (s.data.toList.drop (a + k))).map (fun p => (acc + 2 ^ (7 * k) * p.1, k + p.2)) ∧ mm = 9 - k) 9 ⟨0, 0, rfl, rfl, by omega, by simp, rfl, by omega, by simp, rfl⟩ ?_
 rintro mm x y w1 ⟨k, acc, rfl, rfl, hk, hacc, rfl, hak, hv, rfl⟩
 have e1 : IntKind.wrap .i64 ((a : Int) + (k : Int)) = ((a + k : Nat) : Int) := by rw [yaH (by omega) (by omega)]; omega
 rw [e1]
 refine yaC (fun hge => ?_) fun hlt => ?_
 ·refine ⟨?_, rfl⟩
  rw [hv, List.drop_eq_nil_of_le (by simp; omega)]
  exact ⟨10, by decide, rfl⟩
 have hlt' : a + k < s.size := by omega
 obtain ⟨c, hc, hcv⟩ := ycN hlt'
 refine ⟨by omega, by omega, ?_⟩
 rw [Int.toNat_natCast, hcv]
 have hdr : s.data.toList.drop (a + k) = c :: s.data.toList.drop (a + (k + 1)) := by
  obtain ⟨hl, he⟩ := List.getElem?_eq_some_iff.1 hc
  rw [List.drop_eq_getElem_cons hl, he]; rfl
 have hc8 := c.toNat_lt
 have hlong : Calls pP 110 #[.int .u8 (c.toNat : Nat), .int .i64 (k : Nat)] w1 fun e w' => e = .returned (.bool (decide ((k = 9 ∧ 1 < c.toNat) ∨ (0 < k ∧ c.toNat = 0)))) ∧ w' = w1 := by
  refine yaP (yHg ?_)
  have tail : brB (decide ((k : Int) > 0)) (Value.bool ((c.toNat : Int) == 0) = Value.bool (decide ((k = 9 ∧ 1 < c.toNat) ∨ (0 < k ∧ c.toNat = 0))) ∧ w1 = w1) (Value.bool false = Value.bool (decide ((k = 9 ∧ 1 < c.toNat) ∨ (0 < k ∧ c.toNat = 0))) ∧ w1 = w1) ∨ (k = 9 ∧ 1 < c.toNat) := by
   by_cases h9 : k = 9 ∧ 1 < c.toNat
   ·exact .inr h9
   refine .inl (yaC (fun hp => ⟨?_, rfl⟩) fun hn => ⟨?_, rfl⟩)
   ·congr 1
    rw [Bool.eq_iff_iff]; simp; omega
   ·congr 1
    symm
    rw [decide_eq_false_iff_not]; omega
  refine yaB (fun h => ?_) fun h => ?_
  ·have h : (k : Int) = 9 := by simpa using h
   refine yaC (fun h1 => ⟨?_, rfl⟩) fun h1 => ?_
   ·congr 1
    symm
    rw [decide_eq_true_iff]; omega
   ·rcases tail with t | t
    ·exact t
    ·omega
  ·have h : ¬ (k : Int) = 9 := by simpa using h
   rcases tail with t | t
   ·exact t
   ·omega
 refine hlong.mono ?_
 rintro e w2 ⟨rfl, rfl⟩
 refine ⟨_, rfl, ?_⟩
 rw [hdr, yE2] at hv
 refine yaC (fun hb => ?_) fun hb => ?_
 ·refine ⟨?_, rfl⟩
  rw [hv, if_pos hb]
  exact ⟨11, by decide, rfl⟩
 rw [if_neg hb] at hv
 have hst := vstep (acc := acc) (k := k) (c := c.toNat) hk hacc (by omega) (by omega)
 refine ⟨by rw [yaH (by omega) (by omega)]; omega, ?_⟩
 rw [hst]
 refine yaC (fun hsm => ?_) fun hbg => ?_
 ·have hsm : c.toNat < 128 := by omega
  rw [if_pos hsm] at hv
  refine ⟨?_, rfl⟩
  rw [hv, yaH (by omega) (by omega)]
  have e4 : c.toNat % 128 = c.toNat := by omega
  simp only [Option.map_some, yJO, e4]
  congr 3
 ·have hbg : ¬ c.toNat < 128 := by omega
  rw [if_neg hbg] at hv
  refine yzE (9 - (k + 1)) (by omega) ⟨k + 1, acc + 2 ^ (7 * k) * (c.toNat % 128), by rw [yaH (by omega) (by omega)]; omega, rfl, by omega, ?_, rfl, by omega, ?_, rfl⟩
  ·have e : 7 * (k + 1) = 7 * k + 7 := by omega
   rw [e, Nat.pow_add]
   have h5 : c.toNat % 128 ≤ 127 := by omega
   have := Nat.mul_le_mul_left (2 ^ (7 * k)) h5
   omega
  ·rw [hv, Option.map_map]
   congr 1
   funext p
   have e : 7 * (k + 1) = 7 * k + 7 := by omega
   simp only [Function.comp]
   rw [e, Nat.pow_add, Nat.mul_add, ← Nat.mul_assoc]
   congr 1
   ·rw [Nat.add_assoc]
   ·omega
def tg (lim : Nat) (l : List UInt8) : Option (ByteArray × Nat) := match vg 0 l with
 | none => none
 | some (n, m) => if n ≤ lim ∧ n ≤ l.length - m then some (bs ((l.drop m).take n), m + n) else none
def yCv (at_ : Nat) : Option (ByteArray × Nat) → Value → Prop
 | some (t, m), v => v = .tuple #[.string t, .int .i64 ((at_ + m : Nat) : Int), .int .i64 0]
 | none, v => ∃ e : Int, e ≠ 0 ∧ v = .tuple #[.string ⟨#[]⟩, .int .i64 0, .int .i64 e]
theorem yDG : (bs [] : ByteArray) = ⟨#[]⟩ := rfl
theorem yp1 (s : ByteArray) : bs s.data.toList = s := by
 apply ByteArray.ext; simp [bs]
theorem yj1 {a b : List UInt8} (h : bs a = bs b) : a = b := by
 have := congrArg (fun s : ByteArray => s.data.toList) h
 simpa [bs] using this
theorem yd9 (l : List UInt8) : (bs l).data.toList = l := by simp [bs]
theorem yDH (s : ByteArray) (a n : Nat) (h : a + n ≤ s.size) : s.extract a (a + n) = bs ((s.data.toList.drop a).take n) := by
 apply ByteArray.ext
 rw [ByteArray.data_extract]
 apply Array.ext'
 rw [Array.toList_extract]
 simp [bs, List.extract_eq_take_drop]
theorem ylL {lim : Nat} {l : List UInt8} {t : ByteArray} {m : Nat} (h : tg lim l = some (t, m)) : 1 ≤ m ∧ m ≤ l.length ∧ t.size ≤ lim ∧ t.size + 1 ≤ m := by
 unfold tg at h
 split at h
 ·cases h
 rename_i n k hv
 have := yp0 l hv
 split at h
 ·simp only [Option.some.injEq, Prod.mk.injEq] at h
  obtain ⟨rfl, rfl⟩ := h
  rw [yaD, List.length_take, List.length_drop]
  omega
 ·cases h
theorem yDI {lim : Nat} (s : ByteArray) (r : List UInt8) (h : s.size ≤ lim) (hs : s.size < 18446744073709551616) : tg lim (ybU s ++ r) = some (s, (ybU s).length) := by
 have hv := yzP 9 0 s.size (s.data.toList ++ r) rfl (by simpa using hs) (by omega)
 unfold tg ybU
 rw [List.append_assoc, hv]
 have e : s.data.toList.length = s.size := by simp
 simp only [List.length_append, List.drop_left']
 rw [if_pos (by simp; omega)]
 simp only [Option.some.injEq, Prod.mk.injEq]
 refine ⟨?_, by rw [e]⟩
 rw [← e, List.take_left', yp1]
 rfl
set_option maxRecDepth 20000 in
theorem ydN (s : ByteArray) (a lim : Nat) (hs : s.size ≤ 1000000000000) (ha : a ≤ s.size) (hl : lim ≤ 1000000000000) (w : World) :
  Calls pP 78 #[.string s, .int .i64 (a : Nat), .int .i64 (lim : Nat)] w fun e w' => ∃ v, e = .returned v ∧ yCv a (tg lim (s.data.toList.drop a)) v ∧ w' = w := by
 refine yHk ?_
 refine (ygH s a hs ha w).mono ?_
 rintro e w1 ⟨v, rfl, hv, rfl⟩
 cases hg : vg 0 (s.data.toList.drop a) with
 | none =>
  rw [hg] at hv
  obtain ⟨e, he, rfl⟩ := hv
  refine ⟨_, _, _, rfl, ?_⟩
  rw [show (e != 0) = true by simpa using he]
  refine ⟨?_, rfl⟩
  unfold tg; rw [hg]
  exact ⟨e, he, rfl⟩
 | some p =>
  obtain ⟨n, m⟩ := p
  rw [hg] at hv
  have hv : v = .tuple #[.int .u64 (n : Nat), .int .i64 ((a + m : Nat) : Int), .int .i64 0] := hv
  subst hv
  have hm := yp0 _ hg
  have hn := yE3 _ (by omega) hg
  have el : (s.data.toList.drop a).length = s.size - a := by simp
  have et : tg lim (s.data.toList.drop a) = if n ≤ lim ∧ n ≤ (s.data.toList.drop a).length - m then some (bs (((s.data.toList.drop a).drop m).take n), m + n) else none := by
   unfold tg; rw [hg]
  rw [el] at hm et
  refine ⟨_, _, _, rfl, ?_⟩
  rw [show ((0 : Int) != 0) = false from rfl, ydP]
  refine yaC (fun h => by omega) fun _ => ?_
  have e1 : IntKind.wrap .i64 ((s.size : Int) - ((a + m : Nat) : Int)) = ((s.size - (a + m) : Nat) : Int) := by rw [yaH (by omega) (by omega)]; omega
  rw [yd8 (by omega), e1, yd8 (by omega)]
  refine yaC (fun h => ?_) fun h => ?_
  ·refine ⟨?_, rfl⟩
   rw [et, if_neg (by omega)]
   exact ⟨2, by decide, rfl⟩
  refine yaC (fun h2 => ?_) fun h2 => ?_
  ·refine ⟨?_, rfl⟩
   rw [et, if_neg (by omega)]
   exact ⟨10, by decide, rfl⟩
  have e2 : IntKind.wrap .i64 ((n : Nat) : Int) = ((n : Nat) : Int) := yaH (by omega) (by omega)
  have e3 : IntKind.wrap .i64 (((a + m : Nat) : Int) + ((n : Nat) : Int)) = ((a + m + n : Nat) : Int) := by rw [yaH (by omega) (by omega)]; omega
  rw [e2, e3]
  refine ⟨by omega, by omega, by omega, ?_, rfl⟩
  rw [et, if_pos (by omega), Int.toNat_natCast, Int.toNat_natCast, yDH s (a + m) n (by omega), List.drop_drop]
  exact congrArg (fun k : Nat => Value.tuple #[.string (bs (List.take n (List.drop (a + m) s.data.toList))), .int .i64 (k : Int), .int .i64 0]) (by omega)
def cg (lim : Nat) (l : List UInt8) : Option (ByteArray × Nat) := match tg lim l with
 | none => none
 | some (t, m) => if 4 ≤ l.length - m ∧ (l.drop m).take 4 = ydD (yzN t.data.toList) then some (t, m + 4) else none
theorem yDJ {lim : Nat} {l : List UInt8} {t : ByteArray} {m : Nat} (h : cg lim l = some (t, m)) : 1 ≤ m ∧ m ≤ l.length ∧ t.size ≤ lim ∧ t.size + 1 ≤ m := by
 unfold cg at h
 split at h
 ·cases h
 rename_i n k hv
 have := ylL hv
 split at h
 ·simp only [Option.some.injEq, Prod.mk.injEq] at h
  obtain ⟨rfl, rfl⟩ := h
  omega
 ·cases h
theorem yhK (s : ByteArray) : (ydG s).length = (ybU s).length + 4 := by simp [ydG, ydD]
theorem ylM {lim : Nat} (s : ByteArray) (r : List UInt8) (h : s.size ≤ lim) (hs : s.size < 18446744073709551616) : cg lim (ydG s ++ r) = some (s, (ydG s).length) := by
 unfold cg
 rw [show ydG s ++ r = ybU s ++ (ydD (yzN s.data.toList) ++ r) by simp [ydG], yDI s _ h hs]
 simp only [List.length_append, List.drop_left']
 rw [if_pos ⟨by simp [ydD], by simp [ydD]⟩, yhK]
set_option maxRecDepth 20000 in
theorem yp2 (s : ByteArray) (a lim : Nat) (hs : s.size ≤ 1000000000000) (ha : a ≤ s.size) (hl : lim ≤ 1000000000000) (w : World) :
  Calls pP 41 #[.string s, .int .i64 (a : Nat), .int .i64 (lim : Nat)] w fun e w' => ∃ v, e = .returned v ∧ yCv a (cg lim (s.data.toList.drop a)) v ∧ Mod [] w w' := by
 refine yHz ?_
 refine (ydN s a lim hs ha hl w).mono ?_
 rintro e w1 ⟨v, rfl, hv, rfl⟩
 cases hg : tg lim (s.data.toList.drop a) with
 | none =>
  rw [hg] at hv
  obtain ⟨e, he, rfl⟩ := hv
  refine ⟨_, _, _, rfl, ?_⟩
  rw [show (e != 0) = true by simpa using he]
  refine ⟨?_, Mod.refl _⟩
  unfold cg; rw [hg]
  exact ⟨e, he, rfl⟩
 | some p =>
  obtain ⟨t, m⟩ := p
  rw [hg] at hv
  have hv : v = .tuple #[.string t, .int .i64 ((a + m : Nat) : Int), .int .i64 0] := hv
  subst hv
  have hm := ylL hg
  have el : (s.data.toList.drop a).length = s.size - a := by simp
  have et : cg lim (s.data.toList.drop a) = if 4 ≤ (s.data.toList.drop a).length - m ∧ ((s.data.toList.drop a).drop m).take 4 = ydD (yzN t.data.toList) then some (t, m + 4) else none := by
   unfold cg; rw [hg]
  rw [el] at hm et
  refine ⟨_, _, _, rfl, ?_⟩
  have e1 : IntKind.wrap .i64 ((s.size : Int) - ((a + m : Nat) : Int)) = ((s.size - (a + m) : Nat) : Int) := by rw [yaH (by omega) (by omega)]; omega
  have e2 : IntKind.wrap .i64 (((a + m : Nat) : Int) + 4) = ((a + m + 4 : Nat) : Int) := by rw [yaH (by omega) (by omega)]; omega
  rw [show ((0 : Int) != 0) = false from rfl, ydP]
  rw [e1, e2]
  refine yaC (fun h => ?_) fun h => ?_
  ·refine ⟨?_, Mod.refl _⟩
   rw [et, if_neg (by omega)]
   exact ⟨20, by decide, rfl⟩
  refine ⟨by omega, by omega, by omega, fun w2 A2 => ?_⟩
  refine (yDF t (by omega) w2).mono ?_
  rintro e w3 ⟨rfl, M3⟩
  refine ⟨_, rfl, ?_⟩
  refine (yzO _ w3).mono ?_
  rintro e w4 ⟨rfl, M4⟩
  have hM : Mod [] w1 w4 := (A2.mod.go0 M3 (by simp)).go0 M4 (by simp)
  refine ⟨_, rfl, ?_⟩
  rw [Int.toNat_natCast, Int.toNat_natCast, yDH s (a + m) 4 (by omega)]
  have hbe : ((bs (List.take 4 (List.drop (a + m) s.data.toList))).toList == (bs (ydD (yzN t.data.toList))).toList) = decide (List.take 4 (List.drop (a + m) s.data.toList) = ydD (yzN t.data.toList)) := by
   rw [Bool.eq_iff_iff, beq_iff_eq, decide_eq_true_iff]
   constructor
   ·intro h; exact yj1 (ydM.1 h)
   ·intro h; rw [h]
  rw [hbe]
  rw [List.drop_drop] at et
  refine yaB (fun h => ?_) fun h => ?_
  ·have h : ¬ List.take 4 (List.drop (a + m) s.data.toList) = ydD (yzN t.data.toList) := by simpa using h
   refine ⟨?_, hM⟩
   rw [et, if_neg (fun hh => h hh.2)]
   exact ⟨21, by decide, rfl⟩
  ·have h : List.take 4 (List.drop (a + m) s.data.toList) = ydD (yzN t.data.toList) := by simpa using h
   refine ⟨?_, hM⟩
   rw [et, if_pos ⟨by omega, h⟩]
   exact congrArg (fun k : Nat => Value.tuple #[.string t, .int .i64 (k : Int), .int .i64 0]) (show a + m + 4 = a + (m + 4) by omega)
abbrev yCw (r : PRep) (w0 : World) : VWP := fun v w' => v = .int .i64 (yfR r) ∧ Mod [] w0 w'
theorem yHC {w0 w : World} {bm : Nat} {r : PRep} {f p : Sl} (h : RepAt w0 r f p) (M : Mod [] w0 w) (hr : r.parts.any yEY = false → yfR r = 0) (hr2 : r.parts.any yEY = true → yfR r = 40) :
  yaK ynD (ygE 391 [0, 0, 1, 0, 1, 1, 1, 1, 1, 1, 1]) (yG3 [1, 1, 1, 1, 1, 1, 1, 0, 1, 0] [] (ya4 pP Tryz.f65 [] (yCw r w0)))
   (yjY bm r.e r.off r.n r.gen f.a f.n f.c p.a p.n p.c 0) w := by
 have e5 := h.parts.1
 have hl := h.lp
 refine yyY (fun mm x w' => ∃ k : Nat, x = k ∧ k ≤ r.parts.length ∧ (r.parts.take k).any yEY = false ∧ Mod [] w0 w' ∧ mm = r.parts.length - k) r.parts.length ⟨0, rfl, by omega, by simp, M, rfl⟩ ?_
 rintro mm x w1 ⟨k, rfl, hk, ha, M1, rfl⟩
 refine yaC (fun hlt => ?_) fun hge => ?_
 ·have g1 : k < r.parts.length := by omega
  obtain ⟨x, hx⟩ : ∃ x, r.parts[k]? = some x := ⟨_, List.getElem?_eq_getElem g1⟩
  have ek : IntKind.wrap .i64 ((k : Int) + 1) = ((k + 1 : Nat) : Int) := by rw [yaH (by omega) (by omega)]; omega
  refine (h.keep0 M1).parts.ix hx fun q hq => yaG (by simpa [add_zero] using hq 0 _ rfl) ?_
  refine (yg2 x.t w1).mono ?_
  rintro e w2 ⟨rfl, rfl⟩
  refine ⟨_, rfl, yaE.of0 (Mod.refl _), ?_⟩
  refine yaB (fun g3 => ?_) (fun g3 => ?_)
  ·exact ⟨by rw [hr2 (List.any_eq_true.2 ⟨x, List.mem_of_getElem? hx, g3⟩)], M1⟩
  ·exact yyX (r.parts.length - (k + 1)) (by omega) ⟨k + 1, ek, by omega, by rw [yd4 hx, ha]; exact g3, M1, rfl⟩
 ·have hk : k = r.parts.length := by omega
  subst hk
  rw [List.take_length] at ha
  exact ⟨by rw [hr ha], M1⟩
theorem yHD {w0 w : World} {bm : Nat} {r : PRep} {f p : Sl} (h : RepAt w0 r f p) (M : Mod [] w0 w) {t : Bool} (ht : t = (ok0 r && r.found.all okF)) :
  yaK ynC (ygE 395 [0, 0, 1, 0, 1, 1, 1]) (yG3 [1, 1, 1, 0, 1, 0] [] (ya4 pP Tryz.f65 [] (yCw r w0)))
   (yiG bm r.e r.off r.n r.gen f.a f.n f.c p.a p.n p.c (t, 0)) w := by
 have e5 := h.parts.1
 have e4 := h.found.1
 have hl := h.lp
 have hl4 := h.lf
 refine yyU (fun mm t x w' => ∃ k : Nat, x = k ∧ k ≤ r.parts.length ∧ t = (ok0 r && r.found.all okF && (r.parts.take k).all okP) ∧ Mod [] w0 w' ∧ mm = r.parts.length - k) r.parts.length ⟨0, rfl, by omega, by simp [ht], M, rfl⟩ ?_
 rintro mm t x w1 ⟨k, rfl, hk, rfl, M1, rfl⟩
 refine yaC (fun hlt => ?_) fun hge => ?_
 ·have g1 : k < r.parts.length := by omega
  obtain ⟨x, hx⟩ : ∃ x, r.parts[k]? = some x := ⟨_, List.getElem?_eq_getElem g1⟩
  have ek : IntKind.wrap .i64 ((k : Int) + 1) = ((k + 1 : Nat) : Int) := by rw [yaH (by omega) (by omega)]; omega
  refine yaB (fun g3 => ?_) (fun g3 => ?_)
  ·refine (h.keep0 M1).parts.ix hx fun q hq => yaF (hq 1 _ rfl) ?_
   refine (ycM x.n w1).mono ?_
   rintro e w2 ⟨rfl, rfl⟩
   refine ⟨_, rfl, yaE.of0 (Mod.refl _), ?_⟩
   exact ypZ (r.parts.length - (k + 1)) (by omega) ⟨k + 1, ek, by omega, by rw [yb6 hx, ← Bool.and_assoc, g3]; rfl, M1, rfl⟩
  ·exact ypZ (r.parts.length - (k + 1)) (by omega) ⟨k + 1, ek, by omega, by rw [yb6 hx, ← Bool.and_assoc, g3]; rfl, M1, rfl⟩
 ·have hk : k = r.parts.length := by omega
  subst hk
  rw [List.take_length]
  refine yaB (fun g1 => ⟨by rw [yfR, if_pos (yi1 g1)], M1⟩) fun g1 => ?_
  have hR1 : yfR r = if r.found.length > 64 then 2 else if r.parts.length > 64 then 2 else if (r.found.any yy4 || r.parts.any yEY) = true then 40 else 0 := by
   rw [yfR, if_neg (by rw [yhJ g1]; decide)]
  refine yaC (fun g2 => ⟨by rw [hR1, if_pos (by omega)], M1⟩) fun g2 => ?_
  rw [if_neg (by omega)] at hR1
  refine yaC (fun g3 => ⟨by rw [hR1, if_pos (by omega)], M1⟩) fun g3 => ?_
  rw [if_neg (by omega)] at hR1
  refine yyW (fun mm x w' => ∃ k : Nat, x = k ∧ k ≤ r.found.length ∧ (r.found.take k).any yy4 = false ∧ Mod [] w0 w' ∧ mm = r.found.length - k) r.found.length ⟨0, rfl, by omega, by simp, M1, rfl⟩ ?_
  rintro mm x w1 ⟨k, rfl, hk, ha, M1, rfl⟩
  refine yaC (fun hlt => ?_) fun hge => ?_
  ·have g1 : k < r.found.length := by omega
   obtain ⟨x, hx⟩ : ∃ x, r.found[k]? = some x := ⟨_, List.getElem?_eq_getElem g1⟩
   have ek : IntKind.wrap .i64 ((k : Int) + 1) = ((k + 1 : Nat) : Int) := by rw [yaH (by omega) (by omega)]; omega
   refine (h.keep0 M1).found.ix hx fun q hq => ?_
   rw [yeY, yeY, yeY]
   refine yaN (hq 1 _ rfl) (yaG (hq 2 _ rfl) (yaN (hq 3 _ rfl) (yaG (hq 4 _ rfl) ?_)))
   refine (yjZ x.r w1).mono ?_
   rintro e w2 ⟨rfl, M2⟩
   refine ⟨_, rfl, yaE.of0 M2, ?_⟩
   have M3 := M1.go0 M2 (by simp)
   refine yaB (fun g3 => ?_) (fun g3 => ?_)
   ·have hb : r.found.any yy4 = true := List.any_eq_true.2 ⟨x, List.mem_of_getElem? hx, g3⟩
    exact ⟨by rw [hR1, if_pos (by rw [hb]; rfl)], M3⟩
   ·exact yyV (r.found.length - (k + 1)) (by omega) ⟨k + 1, ek, by omega, by rw [yd4 hx, ha]; exact g3, M3, rfl⟩
  ·have hk : k = r.found.length := by omega
   subst hk
   rw [List.take_length] at ha
   exact yHC h M1 (fun hp => by rw [hR1, ha, hp]; rfl) (fun hp => by rw [hR1, ha, hp]; rfl)
theorem yvT {w0 w : World} {bm : Nat} {r : PRep} {f p : Sl} (h : RepAt w0 r f p) (M : Mod [] w0 w) {t : Bool} (ht : t = ok0 r) :
  yyQ t bm r.e r.off r.n r.gen f.a f.n f.c p.a p.n p.c (yCw r w0) w := by
 have e4 := h.found.1
 have hl := h.lf
 refine yyS (fun mm t x w' => ∃ k : Nat, x = k ∧ k ≤ r.found.length ∧ t = (ok0 r && (r.found.take k).all okF) ∧ Mod [] w0 w' ∧ mm = r.found.length - k) r.found.length ⟨0, rfl, by omega, by simp [ht], M, rfl⟩ ?_
 rintro mm t x w1 ⟨k, rfl, hk, rfl, M1, rfl⟩
 refine yaC (fun hlt => ?_) fun hge => ?_
 ·have g1 : k < r.found.length := by omega
  obtain ⟨x, hx⟩ : ∃ x, r.found[k]? = some x := ⟨_, List.getElem?_eq_getElem g1⟩
  have ek : IntKind.wrap .i64 ((k : Int) + 1) = ((k + 1 : Nat) : Int) := by rw [yaH (by omega) (by omega)]; omega
  refine yaB (fun g3 => ?_) (fun g3 => ?_)
  ·refine (h.keep0 M1).found.ix hx fun q hq => yaF (by simpa [add_zero] using hq 0 _ rfl) ?_
   refine (ycM x.off w1).mono ?_
   rintro e w2 ⟨rfl, rfl⟩
   refine ⟨_, rfl, yaE.of0 (Mod.refl _), ?_⟩
   exact ypY (r.found.length - (k + 1)) (by omega) ⟨k + 1, ek, by omega, by rw [yb6 hx, ← Bool.and_assoc, g3]; rfl, M1, rfl⟩
  ·exact ypY (r.found.length - (k + 1)) (by omega) ⟨k + 1, ek, by omega, by rw [yb6 hx, ← Bool.and_assoc, g3]; rfl, M1, rfl⟩
 ·have hk : k = r.found.length := by omega
  subst hk
  rw [List.take_length]
  exact yHD h M1 rfl
theorem yCx {w : World} {r : PRep} {f p : Sl} (h : RepAt w r f p) :
  Calls pP 65 #[r.v f p] w fun e w' => e = .returned (.int .i64 (yfR r)) ∧ Mod [] w w' := by
 refine yaP (yG4 ?_)
 intro b1 f1 w1 A1
 have rest : ∀ (t : Bool) (bm : Nat) (x0 x1 x2 x3 : Int) (a4 : Option Addr) (n4 c4 : Nat) (a5 : Option Addr) (n5 c5 : Nat) (w' : World), (t = ok0 r ∧ x0 = r.e ∧ x1 = r.off ∧ x2 = r.n ∧ x3 = r.gen ∧ a4 = f.a ∧ n4 = f.n ∧ c4 = f.c ∧ a5 = p.a ∧ n5 = p.n ∧ c5 = p.c ∧ Mod [] w w') → yyQ t bm x0 x1 x2 x3 a4 n4 c4 a5 n5 c5 (yCw r w) w' := by
  rintro t bm x0 x1 x2 x3 a4 n4 c4 a5 n5 c5 w' ⟨ht, rfl, rfl, rfl, rfl, rfl, rfl, rfl, rfl, rfl, rfl, M⟩
  exact yvT h M ht
 refine (ycM _ _).mono ?_
 rintro e w2 ⟨rfl, rfl⟩
 refine ⟨_, rfl, yaE.of0 (Mod.refl _), yaB (fun g1 => ?_) (fun g1 => ?_)⟩
 rotate_left
 ·exact yiZ _ ⟨by simp [ok0, g1], rfl, rfl, rfl, rfl, rfl, rfl, rfl, rfl, rfl, rfl, A1.mod⟩ rest
 refine (ycM _ _).mono ?_
 rintro e w2 ⟨rfl, rfl⟩
 refine ⟨_, rfl, yaE.of0 (Mod.refl _), yaB (fun g2 => ?_) (fun g2 => ?_)⟩
 rotate_left
 ·exact yiZ _ ⟨by simp [ok0, g2], rfl, rfl, rfl, rfl, rfl, rfl, rfl, rfl, rfl, rfl, A1.mod⟩ rest
 refine (ycM _ _).mono ?_
 rintro e w2 ⟨rfl, rfl⟩
 refine ⟨_, rfl, yaE.of0 (Mod.refl _), yaB (fun g3 => ?_) (fun g3 => ?_)⟩
 rotate_left
 ·exact yiZ _ ⟨by simp [ok0, g3], rfl, rfl, rfl, rfl, rfl, rfl, rfl, rfl, rfl, rfl, A1.mod⟩ rest
 refine (ycM _ _).mono ?_
 rintro e w2 ⟨rfl, rfl⟩
 refine ⟨_, rfl, yaE.of0 (Mod.refl _), ?_⟩
 exact yiZ _ ⟨by simp [ok0, g1, g2, g3], rfl, rfl, rfl, rfl, rfl, rfl, rfl, rfl, rfl, rfl, A1.mod⟩ rest
theorem yb3.ixW {α : Type} {w : World} {sz : Nat} {enc : α → List Value} {a : Option Addr} {n : Nat} {l : List α} {i : Nat} {x : α} {F : Addr → Prop} (h : yb3 w sz enc a n l) (hx : l[i]? = some x)
  (hF : ∀ q, (∀ w', Mod [] w w' → ∀ j v, (enc x)[j]? = some v → w'.cell? (q.add j) = some v) → F q) : ixA a n (i : Int) sz F := by
 obtain ⟨ad, ha, hc⟩ := h.2 i x hx
 have hl := (List.getElem?_eq_some_iff.1 hx).1
 refine ⟨ad, ha, by omega, by rw [h.1]; omega, hF _ fun w' M j v hj => ?_⟩
 obtain ⟨ad', ha', hc'⟩ := (h.keep0 M).2 i x hx
 rw [ha] at ha'; cases ha'
 simpa using hc' j v hj
structure PBatch where
 prod : Int
 epoch : Int
 seq : Int
 recs : List PRec
 deriving DecidableEq
structure POp where
 kind : Int
 part : PPart
 n : Int
 off : Int
 b : PBatch
 g : ByteArray
 m : ByteArray
 gen : Int
 robin : Bool
 topics : List ByteArray
 deriving DecidableEq
structure PCall where
 c : Int
 n : Int
 op : POp
 deriving DecidableEq
def ye7 (r : PRec) : List Value := [.bool r.hk, .string r.key, .bool r.tomb, .string r.val]
def yiO (s : ByteArray) : List Value := [.string s]
theorem ytL (r : PRec) : (ye7 r).length = 4 := rfl
theorem ytM (s : ByteArray) : (yiO s).length = 1 := rfl
theorem ynH (x : PRec) : ∀ u ∈ ye7 x, u.oneCell' = true := by simp [ye7, Value.oneCell']
theorem ynI (x : ByteArray) : ∀ u ∈ yiO x, u.oneCell' = true := by simp [yiO, Value.oneCell']
def POp.cs (o : POp) (rs ts : Sl) : List Value := [.int .i64 o.kind, .string o.part.t, .int .i64 o.part.n, .int .i64 o.n, .int .i64 o.off, .int .i64 o.b.prod, .int .i64 o.b.epoch, .int .i64 o.b.seq, .slice rs.a rs.n rs.c, .string o.g, .string o.m, .int .i64 o.gen, .bool o.robin, .slice ts.a ts.n ts.c]
def POp.v (o : POp) (rs ts : Sl) : Value := .agg #[.int .i64 o.kind, .string o.part.t, .int .i64 o.part.n, .int .i64 o.n, .int .i64 o.off, .int .i64 o.b.prod, .int .i64 o.b.epoch, .int .i64 o.b.seq, .slice rs.a rs.n rs.c, .string o.g, .string o.m, .int .i64 o.gen, .bool o.robin, .slice ts.a ts.n ts.c]
def ybS : PBatch := ⟨0, 0, 0, []⟩
def op0 : POp := ⟨0, ⟨⟨#[]⟩, 0⟩, 0, 0, ybS, ⟨#[]⟩, ⟨#[]⟩, 0, false, []⟩
structure OpAt (w : World) (o : POp) (rs ts : Sl) : Prop where
 recs : yb3 w 4 ye7 rs.a rs.n o.b.recs
 topics : yb3 w 1 yiO ts.a ts.n o.topics
 lr : o.b.recs.length ≤ 1000000
 lt : o.topics.length ≤ 1000000
structure OpOwn (w : World) (base : Nat) (o : POp) (rs ts : Sl) : Prop where
 recs : Row w base 53 4 ye7 rs.a rs.n rs.c o.b.recs
 topics : Row w base 9 1 yiO ts.a ts.n ts.c o.topics
 lr : o.b.recs.length ≤ 1000000
 lt : o.topics.length ≤ 1000000
theorem OpOwn.at {w : World} {base : Nat} {o : POp} {rs ts : Sl} (h : OpOwn w base o rs ts) : OpAt w o rs ts := ⟨h.recs.sl ytL, h.topics.sl ytM, h.lr, h.lt⟩
theorem OpAt.keep0 {w w' : World} {o : POp} {rs ts : Sl} (h : OpAt w o rs ts) (M : Mod [] w w') : OpAt w' o rs ts := ⟨h.recs.keep0 M, h.topics.keep0 M, h.lr, h.lt⟩
theorem OpOwn.keep0 {w w' : World} {base : Nat} {o : POp} {rs ts : Sl} (h : OpOwn w base o rs ts) (M : Mod [] w w') : OpOwn w' base o rs ts := ⟨h.recs.keep0 M, h.topics.keep0 M, h.lr, h.lt⟩
theorem OpOwn.rebase {w : World} {base base' : Nat} {o : POp} {rs ts : Sl} (h : OpOwn w base o rs ts) (hb : base' ≤ base) : OpOwn w base' o rs ts := ⟨h.recs.rebase hb, h.topics.rebase hb, h.lr, h.lt⟩
theorem yrR (w : World) (base : Nat) : OpOwn w base op0 ⟨none, 0, 0⟩ ⟨none, 0, 0⟩ := ⟨Row.nil .., Row.nil .., by simp [op0, ybS], by simp [op0]⟩
def ybD (b : PBatch) : Int :=
 if (num b.prod && num b.epoch && num b.seq) = false then 1 else if b.recs.length = 0 then 30 else if b.recs.length > 16 then 2 else
  match b.recs.find? fun r => yfQ r ≠ 0 with
  | none => 0
  | some r => yfQ r
def ypB (k : Int) : List Nat :=
 if k = 0 then [116, 110] else if k = 1 then [110] else if k = 2 then [112, 98] else if k = 3 then [112, 111, 110] else if k = 4 then [112, 111] else if k = 5 then [112]
 else if k = 6 then [103, 109, 110, 114, 108] else if k = 7 then [103, 109, 101] else if k = 8 then [103, 109, 101] else if k = 9 then [103, 109, 101] else if k = 10 then [103, 109, 101, 112, 111] else if k = 11 then [103, 112] else [110]
def ha (k : Int) (c : Nat) : Bool := (ypB k).contains c
def yg4 (s : ByteArray) : Bool := decide (s.size = 0)
def yrS (s t : ByteArray) : Bool := Op.bytesLess s.toList t.toList
def yeI : List ByteArray → Bool
 | s :: t :: r => yrS s t && yeI (t :: r)
 | _ => true
def ycC (l : List ByteArray) : Bool := decide (1 ≤ l.length ∧ l.length ≤ 8) && l.all ybO && yeI l
def yeA (o : POp) : Bool :=
 (ha o.kind 112 || ha o.kind 116 || yg4 o.part.t) && (ha o.kind 112 || decide (o.part.n = 0)) && (ha o.kind 110 || decide (o.n = 0)) && (ha o.kind 111 || decide (o.off = 0)) &&
 (ha o.kind 98 || decide (o.b = ybS)) && (ha o.kind 103 || yg4 o.g) && (ha o.kind 109 || yg4 o.m) && (ha o.kind 101 || decide (o.gen = 0)) && (ha o.kind 114 || (!o.robin && decide (o.topics = [])))
def yp3 (o : POp) : Bool :=
 yeA o && (!(ha o.kind 112 || ha o.kind 116) || ybO o.part.t) && (!ha o.kind 103 || ybO o.g) && (!ha o.kind 109 || ybO o.m) && (!ha o.kind 108 || ycC o.topics)
def opE (o : POp) : Int :=
 if o.kind < 0 ∨ o.kind > 12 then 41 else if yp3 o = false then 40 else if (num o.part.n && num o.n && num o.off && num o.gen) = false then 1 else if o.kind = 2 then ybD o.b else 0
def chF (o : POp) : Bool := (ha o.kind 103 && !ybO o.g) || (ha o.kind 109 && !ybO o.m) || ((ha o.kind 112 || ha o.kind 116) && !ybO o.part.t) || (ha o.kind 108 && !ycC o.topics)
def chA (o : POp) : Bool := (ha o.kind 112 && !num o.part.n) || (ha o.kind 110 && !num o.n) || (ha o.kind 111 && !num o.off) || (ha o.kind 101 && !num o.gen)
def chE (o : POp) : Int := if ha o.kind 98 then ybD o.b else 0
def es : ByteArray := ⟨#[]⟩
def chO (o : POp) : POp := ⟨o.kind, ⟨if ha o.kind 112 || ha o.kind 116 then es else o.part.t, if ha o.kind 112 then 0 else o.part.n⟩, if ha o.kind 110 then 0 else o.n, if ha o.kind 111 then 0 else o.off,
 if ha o.kind 98 then ybS else o.b, if ha o.kind 103 then es else o.g, if ha o.kind 109 then es else o.m, if ha o.kind 101 then 0 else o.gen, if ha o.kind 114 then false else o.robin, if ha o.kind 114 then [] else o.topics⟩
theorem yj2 (s : ByteArray) : yg4 s = decide (s = es) := by
 unfold yg4 es
 by_cases h : s.size = 0
 ·rw [decide_eq_true h, decide_eq_true ((ym9 s).2 h)]
 ·rw [decide_eq_false h, decide_eq_false fun e => h ((ym9 s).1 e)]
theorem yE5 {α : Type} (p : Bool) (x d : α) : ((if p = true then d else x) = d) ↔ (p = true ∨ x = d) := by cases p <;> simp
theorem yCy {α : Type} (p t : Bool) (x d : α) : ((if p = true ∨ t = true then d else x) = d) ↔ (p = true ∨ t = true ∨ x = d) := by cases p <;> cases t <;> simp
theorem yCz (o : POp) : decide ({ chO o with kind := 0 } = op0) = yeA o := by
 rw [Bool.eq_iff_iff, decide_eq_true_iff]
 unfold yeA
 rw [yj2, yj2, yj2]
 unfold chO op0
 simp only [POp.mk.injEq, PPart.mk.injEq, true_and, Bool.and_eq_true, decide_eq_true_iff, yCy, show (⟨#[]⟩ : ByteArray) = es from rfl, yE5, Bool.or_eq_true, or_and_left, Bool.not_eq_true', and_assoc, or_assoc]
theorem yJP {p : Bool} {x : Int} (h : (p || decide (x = 0)) = true) : num x = !(p && !num x) := by
 cases p
 ·have : x = 0 := by simpa using h
  subst this; rfl
 ·simp
theorem yK4 {k : Int} (h0 : ¬ (k < 0 ∨ k > 12)) : ha k 98 = decide (k = 2) := by
 have : k = 0 ∨ k = 1 ∨ k = 2 ∨ k = 3 ∨ k = 4 ∨ k = 5 ∨ k = 6 ∨ k = 7 ∨ k = 8 ∨ k = 9 ∨ k = 10 ∨ k = 11 ∨ k = 12 := by omega
 rcases this with rfl | rfl | rfl | rfl | rfl | rfl | rfl | rfl | rfl | rfl | rfl | rfl | rfl <;> decide
theorem yzQ (o : POp) (h0 : ¬ (o.kind < 0 ∨ o.kind > 12)) : opE o = if (chF o || !decide ({ chO o with kind := 0 } = op0)) = true then 40 else if chA o = true then 1 else chE o := by
 rw [yCz, opE, if_neg h0]
 have hf : yp3 o = !(chF o || !yeA o) := by
  unfold yp3 chF
  generalize yeA o = a
  generalize ha o.kind 103 = b1
  generalize ha o.kind 109 = b2
  generalize (ha o.kind 112 || ha o.kind 116) = b3
  generalize ha o.kind 108 = b4
  cases a <;> cases b1 <;> cases b2 <;> cases b3 <;> cases b4 <;> simp [Bool.and_comm, Bool.and_assoc, Bool.and_left_comm]
 rw [hf]
 cases h : (chF o || !yeA o)
 ·simp only [Bool.not_false, Bool.true_eq_false, if_false, Bool.false_eq_true]
  have ho : yeA o = true := by cases hh : yeA o; rw [hh] at h; simp at h; rfl
  unfold yeA at ho
  simp only [Bool.and_eq_true] at ho
  obtain ⟨⟨⟨⟨⟨⟨⟨⟨_, h1⟩, h2⟩, h3⟩, _⟩, _⟩, _⟩, h4⟩, _⟩ := ho
  have e : (num o.part.n && num o.n && num o.off && num o.gen) = !chA o := by
   rw [yJP h1, yJP h2, yJP h3, yJP h4]
   unfold chA
   simp only [Bool.not_or, Bool.and_assoc]
  rw [e, chE, yK4 h0]
  cases chA o <;> simp
 ·simp
end Go.Proofs.YtkbcmppbjfpjmaaGreat
