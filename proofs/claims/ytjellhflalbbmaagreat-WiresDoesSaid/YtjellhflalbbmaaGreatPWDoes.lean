/- WiresDoes, for every input. No conditions. -/
import Derived.Test.YtjellhflalbbmaaGreatPWDoesK5
namespace Go.Proofs
open Go.Shelf
shelf_lay_g SlLaysZI.n7 Ggz 7 at Tryz 32 as Tryz.keysWL
end Go.Proofs
namespace Go.Proofs.YtjellhflalbbmaaGreat
open Go Go.RowKit Go.Maps Go.Sort Go.Shelf Go.MapKept Go.WideElems Go.WideShapes
set_option linter.unusedVariables false
set_option linter.unusedSimpArgs false
theorem yDe (s : Sl) (w : World) : Calls pP 41 #[.slice s.a s.n s.c] w fun e w' => ∃ b, e = .returned (.func (.func 63) #[] #[.pointer (some ⟨b, 0, none⟩)]) ∧ w.heap.size ≤ b ∧ b < w'.heap.size ∧ w'.heap[b]? = some (.cells #[.slice s.a s.n s.c] 27) ∧ Mod [] w w' := by
 refine (yIb (R := fun v w' => ∃ b, v = .func (.func 63) #[] #[.pointer (some ⟨b, 0, none⟩)] ∧ w.heap.size ≤ b ∧ b < w'.heap.size ∧ w'.heap[b]? = some (.cells #[.slice s.a s.n s.c] 27) ∧ Mod [] w w') ?_).mono (fun e w' ⟨v, he, b, hv, h⟩ => ⟨b, by rw [he, hv], h⟩)
 intro b1 f1 w2 A2 h2
 exact ⟨b1, rfl, f1, A2.lt b1 (by simp), h2, A2.mod⟩
section
attribute [local go_sem] Oper.semAt_some
set_option maxRecDepth 100000 in
set_option maxHeartbeats 2000000 in
theorem yuK {w0 : World} {S : List Nat} {b1 B : Nat} {s : Sl} {l : List Int} (hl : l.length ≤ 1000000) (hw : ∀ W, Mod S w0 W → W.heap[b1]? = some (.cells #[.slice s.a s.n s.c] 27) ∧ ycD W 1 yjK s.a s.n l) :
  yNb pP 63 #[.pointer (some ⟨b1, 0, none⟩)] (fun x : Int => #[.int .i64 x]) w0 S (fun k x W => l[k]? = some x) l.length B := fun lp J hJm hJw hY W h0 => by
 obtain ⟨sa, sn, sc⟩ := s
 have hro : Fence.wide.round = none := rfl
 refine callsIn_of_wp Tryz.func63 rfl trivial ?_ hro
 simp only [Tryz.ntmps63, List.size_toArray, List.length_cons, List.length_nil, Nat.reduceAdd, Nat.reduceSub, Array.replicate_succ, Array.replicate_zero, List.push_toArray, List.append_toArray, List.nil_append, List.cons_append]
 obtain ⟨hb0, hs0⟩ := hw W (hJw _ _ h0).1
 have hc1 : W.cell? ⟨b1, 0, none⟩ = some (.slice sa sn sc) := by rw [yaY hb0]; rfl
 have hn : sn = l.length := hs0.1
 gi_wp2
 gi_loopg [7] l.length (fun k i wr => ∃ (j : Nat) (pre : List Int), i = .int .i64 j ∧ j ≤ l.length ∧ k = l.length - j ∧ pre.length = j ∧ J pre wr)
 case atStart => exact ⟨0, [], rfl, by omega, rfl, rfl, h0⟩
 case round =>
  obtain ⟨j, pre, rfl, hj, hk, hpl, hJ⟩ := hrel
  obtain ⟨hMw, hBw⟩ := hJw _ _ hJ
  by_cases hlt : j < l.length
  ·obtain ⟨x, hx⟩ : ∃ x, l[j]? = some x := ⟨_, List.getElem?_eq_getElem hlt⟩
   obtain ⟨ad, ha, hcx⟩ := (hw _ hMw).2.2 j x hx
   have hcx : wr.cell? (ad.add j) = some (.int .i64 x) := by have := hcx 0 _ rfl; rwa [add_zero, Nat.mul_one] at this
   obtain ⟨fn, tmps, assign, body, hy, hR⟩ := hY pre x wr hJ (by rw [hpl]; exact hx) (by omega)
   have ha : sa = some ad := ha
   subst ha
   gi_wp2
   refine hR.mono ?_
   rintro e W3 ⟨rfl, hJ3⟩
   gi_wp2
   gi_roundg (gk - 1)
   case rel => exact ⟨j + 1, _, by simp, by omega, by omega, by simp [hpl], hJ3⟩
   case measure => omega
  ·gi_wp2
   go_end0
   exact ⟨⟨_, rfl⟩, pre, by omega, hJ⟩
end
theorem yEQ (mb : Option Nat) (w : World) : Calls pP 32 #[.map mb] w fun e w' =>
  e = .returned (.func (.func 47) #[] #[.pointer (some ⟨w.heap.size, 0, none⟩)]) ∧ w' = w.alloc (.cells #[.map mb] 68) :=
 (callsIn_wide (n := 5)).1 (AnyZI.keys_in Tryz.keysWL Fence.wide 5 trivial rfl mb w)
theorem yzH {β : Type} {ev : β → Value} {w : World} {b Bm : Nat} {L : List (Int × β)} (h : ycV pP 3 (fun k : Int => .int .i64 k) ev w b L) (hl : L.length ≤ 1000000000) (hB : Bm < w.heap.size) (hm : w.cell? ⟨Bm, 0, none⟩ = some (.map (some b))) :
  Calls pP 31 #[.func (.func 47) #[] #[.pointer (some ⟨Bm, 0, none⟩)]] w fun e w' => ∃ v, e = .returned v ∧
   ∃ (a : Option Addr) (n c : Nat), v = .slice a n c ∧ Row w' w.heap.size 3 1 yjK a n c (ylG (L.map (·.1))) ∧ Mod [] w w' := by
 obtain ⟨D, hown, hperm, hsz⟩ := h.owns Tryz.underlying3 (by unfold maxLen; omega)
 have hseq : SeqGives Fence.wide 2 pP 47 #[.pointer (some ⟨Bm, 0, none⟩)] encZ (fun ss => ss.Perm (intKeys D)) (Maps.size D) w :=
  AnyZI.keys_gives (ρ := Tryz.keysWL_ren) { Tryz.keysWL with } Fence.wide _ trivial rfl (by omega) Bm b _ D w hB hm hown
 have cS := AnyZI.sorted_in Tryz.sortedL Fence.wide 5 trivial trivial trivial trivial rfl (by omega) (yEO _) (enters_of Tryz.func46 (by kernel_rfl) rfl) 47 #[.pointer (some ⟨Bm, 0, none⟩)] trivial (enters_of Tryz.func47 (by kernel_rfl) rfl) _ _ (by rw [hsz]; unfold maxLen; omega) (by rw [hsz]; omega) _ hseq
 refine ((callsIn_wide (n := 5)).1 cS).mono ?_
 rintro e w' ⟨v, ss, rfl, hS, hrow, hnil, hb⟩
 have hss : ylG ss = ylG (L.map (·.1)) := yzE (hS.trans hperm)
 have hv : ∃ a c, v = .slice a ss.length c := by
  rcases hrow.2 with ⟨h1, h2⟩ | ⟨g, cap, cur, h1, _⟩
  ·exact ⟨none, 0, by rw [h1, h2]⟩
  ·exact ⟨_, _, h1⟩
 obtain ⟨a, c, rfl⟩ := hv
 refine ⟨_, rfl, a, ss.length, c, rfl, ⟨?_, ?_⟩, Mod.of_below hb⟩
 ·rw [← hss, ylG, List.length_mergeSort]
 ·rw [← hss]
  have e : (ylG ss).flatMap yjK = (ylG ss).map encZ := by rw [List.map_eq_flatMap]; rfl
  rw [e]
  exact hrow
theorem yzI {l : List Int} (h : l.Pairwise (· < ·)) : ylG l = l := by
 have tr : ∀ a b c : Int, decide (a ≤ b) = true → decide (b ≤ c) = true → decide (a ≤ c) = true := by simp; omega
 have to : ∀ a b : Int, (decide (a ≤ b) || decide (b ≤ a)) = true := by simp; omega
 have p1 := List.pairwise_mergeSort tr to l
 have p2 : l.Pairwise fun a b => decide (a ≤ b) = true := h.imp fun {a b} hh => by simp; omega
 exact (List.mergeSort_perm l _).eq_of_pairwise (fun x y _ _ h1 h2 => by simp at h1 h2; omega) p1 p2
end Go.Proofs.YtjellhflalbbmaaGreat
namespace Go.Proofs
open Go.Shelf
shelf_lay_g SlLaysW.n5 Slmc 5 at Tryz 43 as Tryz.wclone1
shelf_lay_g SlLaysW.n5 Slmc 5 at Tryz 44 as Tryz.wclone2
end Go.Proofs
namespace Go.Proofs.YtjellhflalbbmaaGreat
open Go Go.RowKit Go.Maps Go.MapKept
open Go.Shelf
set_option linter.unusedVariables false
set_option linter.unusedSimpArgs false
theorem yuL {w : World} {b : Nat} {room : Int} {next bl ba : Nat} {L : PL} {A : List (Int × Int)} (h : WiAt w b room next bl ba L A) :
  Calls pP 10 #[.pointer (some ⟨b, 0, none⟩)] w fun e w' => ∃ v, e = .returned v ∧ ∃ (a : Option Addr) (n c : Nat), v = .slice a n c ∧ Row w' w.heap.size 3 1 yjK a n c (L.map (·.1)) ∧ Mod [] w w' := by
 refine yH9 h.cells ?_
 refine (yEQ (some bl) w).mono ?_
 rintro _ w1 ⟨rfl, rfl⟩
 have M1 : Mod [] w (w.alloc (.cells #[.map (some bl)] 68)) := Mod.of_below ((Below.refl _ _).alloc (Nat.le_refl _) _)
 have hc := (MapKept.heap_alloc w (.cells #[.map (some bl)] 68)).1
 refine ⟨_, rfl, yaD.of0 M1, ?_⟩
 have h1 := h.keep0 M1
 have hn := h.nx
 refine (yzH h1.lm (by rw [List.length_map]; have := h.len; omega) (by simp) (by rw [yaY hc]; rfl)).mono ?_
 rintro _ w3 ⟨_, rfl, a, n, c, rfl, hR, M3⟩
 refine ⟨_, _, _, rfl, yaD.of0 M3, fun w7 A7 _ => ⟨a, n, c, rfl, ?_, (M1.go0 M3 (by simp)).go0 A7.mod (by simp)⟩⟩
 have e : (L.map fun p => (p.1, ydG p.2)).map (·.1) = L.map (·.1) := by rw [List.map_map]; rfl
 rw [e, yzI (List.pairwise_map.2 h.rise)] at hR
 exact (hR.keep0 A7.mod).rebase M1.size
theorem yER {w : World} {b : Nat} {room : Int} {next bl ba : Nat} {L : PL} {A : List (Int × Int)} (h : WiAt w b room next bl ba L A) :
  Calls pP 26 #[.pointer (some ⟨b, 0, none⟩)] w fun e w' => ∃ v, e = .returned v ∧ ∃ b' bl' ba', v = .pointer (some ⟨b', 0, none⟩) ∧ w.heap.size ≤ b' ∧ w.heap.size ≤ bl' ∧ w.heap.size ≤ ba' ∧ WiAt w' b' room next bl' ba' L A ∧ Mod [] w w' := by
 refine yIa h.cells ?_
 intro w1 A1
 have h1 := h.keep0 A1.mod
 obtain ⟨es, clock, hb, hr⟩ := h1.lm
 refine (AnyW.maps_Clone Tryz.wclone1 bl es clock w1 hb).mono ?_
 rintro e w2 ⟨rfl, rfl⟩
 have M2 : Mod [] w1 (w1.alloc (.map es clock)) := Mod.of_below ((Below.refl _ _).alloc (Nat.le_refl _) _)
 have hnew := (MapKept.heap_alloc w1 (.map es clock)).1
 refine ⟨_, rfl, yaD.of0 M2, rfl, rfl, rfl, ?_⟩
 obtain ⟨es', clock', hb', hr'⟩ := (h1.keep0 M2).am
 refine (AnyW.maps_Clone Tryz.wclone2 ba es' clock' _ hb').mono ?_
 rintro e w4 ⟨rfl, rfl⟩
 have M4 : Mod [] (w1.alloc (.map es clock)) ((w1.alloc (.map es clock)).alloc (.map es' clock')) := Mod.of_below ((Below.refl _ _).alloc (Nat.le_refl _) _)
 have hnew' := (MapKept.heap_alloc (w1.alloc (.map es clock)) (.map es' clock')).1
 refine ⟨_, rfl, yaD.of0 M4, rfl, rfl, ?_⟩
 intro b6 f6 w7 A7 _ h7
 have s1 := A1.mod.size
 have s2 := M2.size
 have s4 := M4.size
 have ls : w1.heap.size < (w1.alloc (.map es clock)).heap.size := by simp
 refine ⟨b6, _, _, rfl, by omega, s1, by omega, ⟨h7, ⟨es, clock, A7.mod.keep0 (M4.keep0 hnew), hr⟩, ⟨es', clock', A7.mod.keep0 hnew', hr'⟩, by omega, h.good, h.rise, h.nx⟩, ((A1.mod.go0 M2 (by simp)).go0 M4 (by simp)).go0 A7.mod (by simp)⟩
def yIF (L : PL) (A : List (Int × Int)) : List Int := (L.filter fun p => !yqG A p.2.fr p.2.to).map (·.1)
theorem yL0 {w : World} {b : Nat} {room : Int} {next bl ba : Nat} {L : PL} {A : List (Int × Int)} (h : WiAt w b room next bl ba L A) : (L.map (·.1)).filter (fun x => decide (twE L A x = 0)) = yIF L A := by
 unfold yIF
 rw [List.filter_map]
 congr 1
 apply List.filter_congr
 intro p hp
 have hl : lkp L p.1 = some p.2 := ylX h.keys hp
 simp only [Function.comp_apply, twE, hl]
 cases yqG A p.2.fr p.2.to <;> simp
theorem ypV : ypU 24 (ysA (code Tryz.f18) [0, 1, 0, 1, 1]) = true := by kernel_rfl
section
attribute [local go_sem] Oper.semAt_some
set_option maxRecDepth 100000 in
set_option maxHeartbeats 2000000 in
theorem yES {w : World} {b : Nat} {room : Int} {next bl ba : Nat} {L : PL} {A : List (Int × Int)} (h : WiAt w b room next bl ba L A) :
  CallsIn Fence.wide 2 pP 18 #[.pointer (some ⟨b, 0, none⟩)] w fun e w' => ∃ (a : Option Addr) (n c : Nat), e = .returned (.slice a n c) ∧ Row w' w.heap.size 3 1 yjK a n c (yIF L A) ∧ Mod [] w w' := by
 have hro : Fence.wide.round = none := rfl
 refine callsIn_of_wp_marks Tryz.func18 rfl trivial ?_ hro
 simp only [Tryz.ntmps18, List.size_toArray, List.length_cons, List.length_nil, Nat.reduceAdd, Nat.reduceSub, Array.replicate_succ, Array.replicate_zero, List.push_toArray, List.append_toArray, List.nil_append, List.cons_append]
 gi_wp2
 obtain ⟨W0, hW0⟩ : ∃ W0, (w.alloc (Obj.cells #[Value.pointer (some ⟨b, 0, none⟩)] 22)).alloc (Obj.cells #[Value.slice none 0 0] 27) = W0 := ⟨_, rfl⟩
 have hsz : W0.heap.size = w.heap.size + 2 := by rw [← hW0]; simp
 have hM0 : Mod [] w W0 := by rw [← hW0]; exact (Mod.of_below ((Below.refl _ _).alloc (Nat.le_refl _) _)).go0 (Mod.of_below ((Below.refl _ _).alloc (Nat.le_refl _) _)) (by simp)
 have hP0 : W0.heap[w.heap.size]? = some (.cells #[.pointer (some ⟨b, 0, none⟩)] 22) := by
  rw [← hW0]; exact (Below.heap_alloc _ _ _ (by simp)).trans (World.alloc_heap_new w _)
 have hO0 : W0.heap[w.heap.size + 1]? = some (.cells #[.slice none 0 0] 27) := by
  rw [← hW0]; have := World.alloc_heap_new (w.alloc (Obj.cells #[Value.pointer (some ⟨b, 0, none⟩)] 22)) (Obj.cells #[Value.slice none 0 0] 27); rwa [World.size_alloc] at this
 rw [hW0]
 clear hW0
 refine ⟨trivial, (callsIn_wide.2 (yuL (h.keep0 hM0))).mono ?_⟩
 rintro _ w4 ⟨_, rfl, a4, n4, c4, rfl, hR4, M4⟩
 gi_wp2
 refine ⟨trivial, (callsIn_wide.2 (yDe ⟨a4, n4, c4⟩ w4)).mono ?_⟩
 rintro _ w5 ⟨b5, rfl, f5, l5, h5, M5⟩
 gi_wp2
 have s4 := M4.size
 have s5 := M5.size
 have N5 : Mod [] w w5 := (hM0.go0 M4 (by simp)).go0 M5 (by simp)
 have hP5 := M5.keep0 (M4.keep0 hP0)
 have hO5 := M5.keep0 (M4.keep0 hO0)
 have hR5 := hR4.keep0 M5
 have hlen := h.len
 have hnx := h.nx
 have hll : (L.map (·.1)).length = L.length := List.length_map ..
 have k1 : ∀ k ∈ [w.heap.size + 1], w.heap.size ≤ k := by simp
 refine ylT (S := [w.heap.size + 1]) (N := (L.map (·.1)).length) (encs := fun x : Int => #[.int .i64 x]) (X := fun k x W => (L.map (·.1))[k]? = some x) rfl (enters_of Tryz.func63 (by kernel_rfl) rfl)
  (yuK (s := ⟨a4, n4, c4⟩) (l := L.map (·.1)) (by omega) fun W M => ⟨M.keep h5 (by simp; omega), (Row.keep hR5 M fun ad ha hk => by have := hR5.base ad ha; simp at hk; omega).sl (fun _ => rfl)⟩) (fun _ => rfl) (by simp; omega)
  (fun pre W => ∃ s : Sl, W.heap[w.heap.size + 1]? = some (.cells #[.slice s.a s.n s.c] 27) ∧ Row W (w5.heap.size + 2) 3 1 yjK s.a s.n s.c (pre.filter fun x => decide (twE L A x = 0)) ∧ (∀ (i : Nat) y, pre[i]? = some y → (L.map (·.1))[i]? = some y) ∧ Mod [w.heap.size + 1] w5 W)
  ?im ?ip ?is ⟨ybS, hO5, Row.nil .., by simp, (Mod.refl _).less (by simp)⟩ ?round ?done
 case im =>
  rintro pre W W' ⟨s, hb, hr, hx, hm⟩ M
  exact ⟨s, M.keep0 hb, hr.keep0 M, hx, (hm.trans M).less (by simp)⟩
 case ip =>
  rintro pre W l o rfl ⟨s, hb, hr, hx, hm⟩
  have M := yi3 W (w5.heap.size + 1) (.loop o)
  refine ⟨s, M.keep hb (by simp; omega), hr.keep M fun ad ha hk => ?_, hx, (hm.trans M).less fun i hi hlt => ?_⟩
  ·have := hr.base ad ha; simp at hk; omega
  ·simp at hi ⊢; omega
 case is =>
  rintro pre W ⟨s, hb, hr, hx, hm⟩
  exact hm
 case round =>
  rintro pre x W lp ⟨s, hb, hr, hx, hm⟩ hlen2 hx1 hl hD
  simp only [yMN]
  have hPW : W.heap[w.heap.size]? = some (.cells #[.pointer (some ⟨b, 0, none⟩)] 22) := hm.keep hP5 (by simp)
  refine wpIn_mono (yuJ (n := 24) (lp := lp) ypV (ids := [0, 1]) (f := ⟨[(1, .pointer (some ⟨w.heap.size, 0, none⟩), some (0, 0)), (3, .pointer (some ⟨w.heap.size + 1, 0, none⟩), some (1, 0)), (10, .int .i64 x, none)], _⟩) (s := ⟨[⟨w.heap.size, 22, [.pointer (some ⟨b, 0, none⟩)], false⟩, ⟨w.heap.size + 1, 27, [.slice s.a s.n s.c], false⟩], W, [], [], true⟩)
   (R := fun W2 _ W' => W'.heap[w5.heap.size + 1]? = W2.heap[w5.heap.size + 1]? ∧ W'.heap[w5.heap.size]? = W.heap[w5.heap.size]? ∧ ∃ s : Sl, W'.heap[w.heap.size + 1]? = some (.cells #[.slice s.a s.n s.c] 27) ∧ Row W' (w5.heap.size + 2) 3 1 yjK s.a s.n s.c ((pre ++ [x]).filter fun x => decide (twE L A x = 0)) ∧ (∀ (i : Nat) y, (pre ++ [x])[i]? = some y → (L.map (·.1))[i]? = some y) ∧ Mod [w.heap.size + 1] w5 W')
   (Eq.mpr (yeV ..) ?cond) (yzF hPW hb (by omega) rfl) (yzG rfl rfl rfl rfl rfl)) ?post
  case cond =>
   refine ⟨hl, ?_⟩
   intro w2 M2
   have ll := ycC hl
   have s2 := M2.size
   have sW := hm.size
   have NW : Mod [] w W := N5.go0 hm k1
   have N2 : Mod [] w w2 := NW.go0 M2 (by simp; omega)
   have hpm : x ∈ L.map (·.1) := List.mem_of_getElem? hx1
   obtain ⟨q, hq, hqx⟩ := List.mem_map.1 hpm
   have hxr : r64 x := by have := (h.good q hq).2.2; unfold r64; omega
   refine (yh4 (h.keep0 N2) hxr).mono ?_
   rintro _ w3 ⟨_, rfl, ⟨s3, f3, p3, rfl, _, _⟩, M3⟩
   have s3 := M3.size
   refine ⟨_, _, _, _, _, _, _, _, _, _, _, _, _, _, _, _, _, _, _, _, _, _, _, _, rfl, yaD.of0 M3, ?_⟩
   intro b27 f27
   have hr3 : Row w3 (w5.heap.size + 2) 3 1 yjK s.a s.n s.c (pre.filter fun x => decide (twE L A x = 0)) := (hr.keep M2 fun ad ha hk => by have := hr.base ad ha; simp at hk; omega).keep0 M3
   have hx' : ∀ (i : Nat) y, (pre ++ [x])[i]? = some y → (L.map (·.1))[i]? = some y := fun i y hy => by
    by_cases hi : i < pre.length
    ·rw [List.getElem?_append_left hi] at hy; exact hx i y hy
    ·rw [List.getElem?_append_right (by omega)] at hy
     have hie : i - pre.length = 0 := by
      have := (List.getElem?_eq_some_iff.1 hy).1; simp at this; omega
     rw [hie] at hy
     simp at hy; subst hy
     rw [show i = pre.length by omega]; exact hx1
   refine yaC (fun g => ?_) fun g => ?_
   ·have g : twE L A x = 0 := by simpa using g
    intro w28 A28
    have s28 := A28.mod.size
    have hr28 := hr3.keep0 A28.mod
    have hrow := ya0 hr28
    have hfl : (pre.filter fun x => decide (twE L A x = 0)).length ≤ 1000000 := by
     have := List.length_filter_le (fun x => decide (twE L A x = 0)) pre; omega
    refine yuF (f := s) (y := x) hr28 hfl (by omega) (fun k hk hk' => by have := (ya0 hr3 k hk').1; have := (ya0 hr3 k hk').2.1; simp at hk; omega) fun a' c' w31 hR31 M31 => ?_
    have s31 := M31.size
    intro w35 A35 _ hb35
    have kk : ∀ k, k ≤ w5.heap.size + 1 → k ≠ w.heap.size + 1 → k < W.heap.size → w35.heap[k]? = w2.heap[k]? := fun k h1 h2 h3 =>
     (A35.mod.block _ (by omega) (by simp; omega)).trans ((M31.block _ (by omega) (fun hh => by have := (hrow _ hh).1; omega)).trans ((A28.mod.block _ (by omega) (by simp)).trans (M3.block _ (by omega) (by simp))))
    refine ⟨kk _ (by omega) (by omega) ll, (kk _ (by omega) (by omega) (by omega)).trans (M2.block _ (by omega) (by simp)), ⟨a', _, c'⟩, hb35, ?_, hx', ?_⟩
    ·rw [List.filter_append, List.filter_cons_of_pos (by simpa using g), List.filter_nil]
     exact hR31.keep A35.mod fun ad ha hk => by have := hR31.base ad ha; simp at hk; omega
    ·refine (((((hm.trans M2).trans M3).trans A28.mod).trans M31).trans A35.mod).less fun i hi hlt => ?_
     have : i ∈ ydY s.a → w5.heap.size + 2 ≤ i := fun hh => (hrow i hh).1
     simp at hi ⊢
     rcases hi with hi | hi | hi | hi
     all_goals first | exact hi | omega | (have := this hi; omega)
   ·have g : ¬ twE L A x = 0 := by simpa using g
    intro w36 A36 _ hb36
    have kk : ∀ k, k < W.heap.size → w36.heap[k]? = w2.heap[k]? := fun k h3 => (A36.mod.block _ (by omega) (by simp)).trans (M3.block _ (by omega) (by simp))
    refine ⟨kk _ ll, (kk _ (by omega)).trans (M2.block _ (by omega) (by simp)), s, hb36, ?_, hx', ?_⟩
    ·rw [List.filter_append, List.filter_cons_of_neg (by simpa using g), List.filter_nil, List.append_nil]
     exact hr3.keep0 A36.mod
    ·refine (((hm.trans M2).trans M3).trans A36.mod).less fun i hi hlt => ?_
     simp at hi ⊢; omega
  case post =>
   intro e a1 W1 hq
   cases e with
   | normal =>
    obtain ⟨q1, q2⟩ := hq
    refine ⟨q1, fun lp' => wpIn_mono (q2 lp') ?_⟩
    rintro e a' W' ⟨rfl, mem, h3, h4, h5⟩
    exact ⟨rfl, by rw [h3]; exact World.putObj_heap_same (ycC q1), h4, h5⟩
   | _ => exact hq.elim
 case done =>
  rintro W xs hxs ⟨s, hb, hr, hx, hm⟩ hK
  have hc : W.cell? ⟨w.heap.size + 1, 0, none⟩ = some (.slice s.a s.n s.c) := by rw [yaY hb]; rfl
  gi_wp2
  refine ⟨by simp, .inl ⟨_, _, rfl, run_takeDeferred hK, ?_⟩⟩
  refine ⟨_, results_tmp rfl _ _ _, s.a, s.n, s.c, rfl, ?_⟩
  have M := yi3 W w5.heap.size (.deferred none)
  have exs : xs = L.map (·.1) := by
   apply List.ext_getElem?
   intro i
   by_cases hi : i < xs.length
   ·obtain ⟨y, hy⟩ : ∃ y, xs[i]? = some y := ⟨_, List.getElem?_eq_getElem hi⟩
    rw [hy, hx i y hy]
   ·rw [List.getElem?_eq_none (by omega), List.getElem?_eq_none (by omega)]
  rw [exs, yL0 h] at hr
  exact ⟨(hr.keep M fun ad ha hk => by have := hr.base ad ha; simp at hk; omega).rebase (by omega), (N5.go0 hm k1).go0 M (by simp; omega)⟩
end
theorem yr4 {w : World} {b : Nat} {room : Int} {next bl ba : Nat} {L : PL} {A : List (Int × Int)} (h : WiAt w b room next bl ba L A) :
 Calls pP 18 #[.pointer (some ⟨b, 0, none⟩)] w fun e w' => ∃ (a : Option Addr) (n c : Nat), e = .returned (.slice a n c) ∧ Row w' w.heap.size 3 1 yjK a n c (yIF L A) ∧ Mod [] w w' := (callsIn_wide (n := 2)).1 (yES h)
end Go.Proofs.YtjellhflalbbmaaGreat
namespace Go.Proofs.YtjellhflalbbmaaGreat
open Go Go.RowKit
set_option linter.all false
section
set_option maxRecDepth 100000
variable {R : VWP} {w w0 : World} {m : Nat} {i0 i1 i2 i3 i4 i5 i6 i7 i8 i9 j0 j1 j2 j3 j4 j5 j6 j7 j8 j9 k0 k1 k2 k3 k4 k5 k6 k7 k8 k9 l0 l1 l2 l3 l4 l5 l6 l7 l8 l9 : Int} {s0 s1 s2 s3 s4 s5 s6 s7 s8 s9 t0 t1 t2 t3 t4 t5 t6 t7 t8 t9 : BA} {n0 n1 n2 n3 n4 n5 n6 n7 n8 n9 o0 o1 o2 o3 o4 o5 o6 o7 o8 o9 p0 p1 p2 p3 p4 p5 p6 p7 p8 p9 : Nat} {q0 q1 q2 q3 q4 q5 q6 q7 q8 q9 r0 r1 r2 r3 r4 r5 r6 r7 r8 r9 : OA} {B0 B1 B2 B3 B4 B5 B6 B7 B8 B9 : Bool} {M0 M1 M2 M3 : Option Nat} {V0 V1 V2 V3 V4 V5 : Value} {A0 A1 A2 : Addr}
theorem yIg (h :
 brB (decide (i0 < 1)) (
 R (.tuple #[.pointer none, .int .i64 1]) w)
 (
 brB (decide (i0 > 4096)) (
 R (.tuple #[.pointer none, .int .i64 1]) w)
 (
 ∀ b1, w.heap.size ≤ b1 →
 ∀ w2, Adv [] [b1] w w2 → w2.heap[b1]? = some (.cells (Z4 i0 0 none 0 0 none 0 0) 91) →
 R (.tuple #[(.pointer (some ⟨b1, 0, none⟩)), .int .i64 0]) w2))) :
 CR pP 20 #[.int .i64 i0] w R :=
 yaA Tryz.wide_mixed (an := []) Tryz.func20 rfl rfl (by kernel_rfl) rfl (Eq.mpr (by kernel_rfl) h)
theorem yIh {b0 : Nat} {o2_n o2_c : Nat} {o3_n o3_c : Nat} {a2 a1 : Nat} {a5 a4 : Nat} {a8 a7 : Nat} (hb : w.heap[b0]? = some (.cells (Z4 i0 i1 q0 o2_n o2_c q1 o3_n o3_c) 91)) (h :
 ∀ b1, w.heap.size ≤ b1 →
 ∀ w2, Adv [] [b1] w w2 →
 Calls pP 42 #[(.agg (Z0 i2 i3 i4 i5 i6 i7 i8 i9 j0 j1 q2 a2 a1 j2 j3 j4 j5 q3 a5 a4 q4 a8 a7))] w2 fun e w3 => ∃ s4 x5, e = .returned (.tuple #[.string s4, .int .i64 x5]) ∧ yaD [b0, b1] w2 w3 ∧
 brB (x5 != 0) (
 ∀ w6, Adv [] [] w3 w6 → w6.heap[b0]? = some (.cells (Z4 i0 i1 q0 o2_n o2_c q1 o3_n o3_c) 91) →
 R (.tuple #[.int .i64 0, .int .i64 x5]) w6)
 (
 brB (decide ((o2_n : Int) ≥ i0)) (
 ∀ w7, Adv [] [] w3 w7 → w7.heap[b0]? = some (.cells (Z4 i0 i1 q0 o2_n o2_c q1 o3_n o3_c) 91) →
 R (.tuple #[.int .i64 0, .int .i64 2]) w7)
 (
 ∀ w8, Adv [b0] [] w3 w8 →
 al w8 (.cells #[(.int .i64 (IntKind.wrap .i64 (i1 + 1))), .int .i64 i2, .int .i64 i3, .int .i64 i4, .int .i64 i5, .int .i64 i6, .int .i64 i7, .int .i64 i8, .int .i64 i9, .int .i64 j0, .int .i64 j1, .slice q2 a2 a1, .int .i64 j2, .int .i64 j3, .int .i64 j4, .int .i64 j5, .slice q3 a5 a4, .slice q4 a8 a7] 93) fun b9 c7 =>
 ycE pP (Builtin.append_ #[88, 88] 88 #[.slice q0 o2_n o2_c, (.slice (some ⟨b9, 0, none⟩) 1 1)]) c7 fun c9 d1 d0 c8 => yaD [b0, b1] c7 c8 ∧
 ∀ c6, Adv [b0] [] c8 c6 → c6.heap[b0]? = some (.cells (Z4 i0 (IntKind.wrap .i64 (i1 + 1)) c9 d1 d0 q1 o3_n o3_c) 91) →
 R (.tuple #[(.int .i64 (IntKind.wrap .i64 (i1 + 1))), .int .i64 0]) c6))) :
 CR pP 21 #[(.pointer (some ⟨b0, 0, none⟩)), (.agg (Z0 i2 i3 i4 i5 i6 i7 i8 i9 j0 j1 q2 a2 a1 j2 j3 j4 j5 q3 a5 a4 q4 a8 a7))] w R :=
 yaZ Tryz.wide_mixed (an := []) Tryz.func21 rfl rfl (by kernel_rfl) rfl hb (Eq.mpr (by kernel_rfl) h)
def ypW : LA := ⟨[0, 0, 1, 0, 1], [0, 1, 2, 7], [(0, 0, 0)], 1, []⟩
def ypX : List LA := [ypW]
abbrev yGg := dnF pP ypX (code Tryz.f27)
abbrev yNc := yaO pP ypX (code Tryz.f27)
abbrev yGh (p : List Nat) (K : List Kh) (R : VWP) := yaO pP ypX (code Tryz.f27) p K (ya7 pP Tryz.f27 [0] R)
def yfO (a8 a9 : Int) (bm0 : Nat) (a6 a7 : Int) (a0 : OA) (a4 a2 : Nat) (a1 : OA) (a5 a3 : Nat) : Int → List Value × List TB := fun b0 => ([(.pointer (some ⟨bm0, 0, none⟩)), .int .i64 a8, .int .i64 a9, .int .i64 b0], [⟨bm0, 91, [.int .i64 a6, .int .i64 a7, .slice a0 a4 a2, .slice a1 a5 a3], false⟩])
abbrev ylH (a8 a9 : Int) (bm0 : Nat) (a6 a7 : Int) (a0 : OA) (a4 a2 : Nat) (a1 : OA) (a5 a3 : Nat) (I : Nat → Int → World → Prop) (m : Nat) : Kh := KG (yfO a8 a9 bm0 a6 a7 a0 a4 a2 a1 a5 a3) (U1 I) m
theorem ygN {I : Nat → Int → World → Prop} (m' : Nat) (h1 : m' < m) (h2 : I m' i4 w) : KS (ylH i0 i1 n0 i2 i3 q0 n1 n2 q1 n3 n4 I m) (yfO i0 i1 n0 i2 i3 q0 n1 n2 q1 n3 n4 i4) w := ⟨m', h1, _, rfl, rfl, h2⟩
theorem yzJ {a2 : OA} {a1 : OA} (I : Nat → Int → World → Prop) (m0 : Nat) (h0 : I m0 i4 w0)
 (hr : ∀ m b0 w, I m b0 w →
 brB (decide (b0 < (n3 : Int))) (
 ixA a1 n3 b0 2 fun q1 =>
 yaF .i64 w q1 fun x2 => yaF .i64 w (Addr.add q1 1) fun x3 =>
 ∀ b4, w.heap.size ≤ b4 →
 brB (x2 == i0) (
 brB (x3 == i1) (
 ∀ w5, Adv [] [b4] w w5 → w5.heap[n0]? = some (.cells (Z4 i2 i3 a2 n1 n2 a1 n3 n4) 91) →
 R (.bool true) w5)
 (
 brB (x2 == i1) (
 brB (x3 == i0) (
 ∀ w6, Adv [] [b4] w w6 → w6.heap[n0]? = some (.cells (Z4 i2 i3 a2 n1 n2 a1 n3 n4) 91) →
 R (.bool true) w6)
 (
 ∀ w7, Adv [] [b4] w w7 →
 KS (ylH i0 i1 n0 i2 i3 a2 n1 n2 a1 n3 n4 I m) (yfO i0 i1 n0 i2 i3 a2 n1 n2 a1 n3 n4 (IntKind.wrap .i64 (b0 + 1))) w7))
 (
 ∀ w8, Adv [] [b4] w w8 →
 KS (ylH i0 i1 n0 i2 i3 a2 n1 n2 a1 n3 n4 I m) (yfO i0 i1 n0 i2 i3 a2 n1 n2 a1 n3 n4 (IntKind.wrap .i64 (b0 + 1))) w8)))
 (
 brB (x2 == i1) (
 brB (x3 == i0) (
 ∀ w9, Adv [] [b4] w w9 → w9.heap[n0]? = some (.cells (Z4 i2 i3 a2 n1 n2 a1 n3 n4) 91) →
 R (.bool true) w9)
 (
 ∀ b3, Adv [] [b4] w b3 →
 KS (ylH i0 i1 n0 i2 i3 a2 n1 n2 a1 n3 n4 I m) (yfO i0 i1 n0 i2 i3 a2 n1 n2 a1 n3 n4 (IntKind.wrap .i64 (b0 + 1))) b3))
 (
 ∀ b5, Adv [] [b4] w b5 →
 KS (ylH i0 i1 n0 i2 i3 a2 n1 n2 a1 n3 n4 I m) (yfO i0 i1 n0 i2 i3 a2 n1 n2 a1 n3 n4 (IntKind.wrap .i64 (b0 + 1))) b5)))
 (
 ∀ b1, Adv [] [] w b1 → b1.heap[n0]? = some (.cells (Z4 i2 i3 a2 n1 n2 a1 n3 n4) 91) →
 R (.bool false) b1)) :
 yaJ ypW (yGg 397 [0, 0, 1, 0, 1]) (yGh [1, 0, 1, 0] [] R) (yfO i0 i1 n0 i2 i3 a2 n1 n2 a1 n3 n4 i4) w0 :=
 lrule (yfO i0 i1 n0 i2 i3 a2 n1 n2 a1 n3 n4) (U1 I) h0 (by rintro m b0 w h; exact ⟨by kernel_rfl, by kernel_rfl, fun js => Eq.mpr (by kernel_rfl) (hr m b0 w h)⟩)
theorem yIi {b0 : Nat} {o2_n o2_c : Nat} {o3_n o3_c : Nat} (hb : w.heap[b0]? = some (.cells (Z4 i0 i1 q0 o2_n o2_c q1 o3_n o3_c) 91)) (h :
 yaJ ypW (yGg 397 [0, 0, 1, 0, 1]) (yGh [1, 0, 1, 0] [] R) (yfO i2 i3 b0 i0 i1 q0 o2_n o2_c q1 o3_n o3_c 0) w) :
 CR pP 27 (Z11 (some ⟨b0, 0, none⟩) i2 i3) w R :=
 yaZ Tryz.wide_mixed (an := ypX) Tryz.func27 rfl rfl (by kernel_rfl) rfl hb (Eq.mpr (by kernel_rfl) h)
def ypY : LA := ⟨[0, 0, 1, 0, 1], [0, 1, 4, 6], [(0, 0, 0), (4, 1, 0)], 2, []⟩
def ypZ : List LA := [ypY]
abbrev yGi := dnF pP ypZ (code Tryz.f23)
abbrev yNd := yaO pP ypZ (code Tryz.f23)
abbrev yGj (p : List Nat) (K : List Kh) (R : VWP) := yaO pP ypZ (code Tryz.f23) p K (ya7 pP Tryz.f23 [0] R)
def yi4 (a8 : Int) (bm0 : Nat) (a6 a7 : Int) (a0 : OA) (a4 a2 : Nat) (a1 : OA) (a5 a3 bm1 : Nat) : Int → List Value × List TB := fun a9 => ([(.pointer (some ⟨bm0, 0, none⟩)), .int .i64 a8, (.pointer (some ⟨bm1, 0, none⟩)), .int .i64 a9], [⟨bm0, 91, [.int .i64 a6, .int .i64 a7, .slice a0 a4 a2, .slice a1 a5 a3], false⟩, ⟨bm1, 37, [.int .i64 0, .int .i64 0, .int .i64 0, .int .i64 0, .int .i64 0, .int .i64 0, .int .i64 0, .int .i64 0, .int .i64 0, .int .i64 0, .slice none 0 0, .int .i64 0, .int .i64 0, .int .i64 0, .int .i64 0, .slice none 0 0, .slice none 0 0], false⟩])
abbrev yDf (a8 : Int) (bm0 : Nat) (a6 a7 : Int) (a0 : OA) (a4 a2 : Nat) (a1 : OA) (a5 a3 bm1 : Nat) (I : Nat → Int → World → Prop) (m : Nat) : Kh := KG (yi4 a8 bm0 a6 a7 a0 a4 a2 a1 a5 a3 bm1) (U1 I) m
theorem yzK {I : Nat → Int → World → Prop} (m' : Nat) (h1 : m' < m) (h2 : I m' i3 w) : KS (yDf i0 n0 i1 i2 q0 n1 n2 q1 n3 n4 n5 I m) (yi4 i0 n0 i1 i2 q0 n1 n2 q1 n3 n4 n5 i3) w := ⟨m', h1, _, rfl, rfl, h2⟩
theorem yzL {a2 : OA} {a4 : OA} (I : Nat → Int → World → Prop) (m0 : Nat) (h0 : I m0 i3 w0)
 (hr : ∀ m b0 w, I m b0 w →
 brB (decide (b0 < (n1 : Int))) (
 ixA a2 n1 b0 18 fun q2 =>
 yaF .i64 w q2 fun x3 =>
 brB (x3 == i0) (
 ixA a2 n1 b0 18 fun q4 =>
 ∀ w5, Adv [] [] w w5 →
 yaF .i64 w5 (Addr.add (Addr.add q4 1) 1) fun x6 =>
 ixA a2 n1 b0 18 fun q7 =>
 yaF .i64 w5 (Addr.add (Addr.add q7 1) 2) fun x8 =>
 ∀ w9, Adv [] [] w5 w9 → w9.heap[n0]? = some (.cells (Z4 i1 i2 a2 n1 n2 a4 n3 n4) 91) →
 Calls pP 27 (Z11 (some ⟨n0, 0, none⟩) x6 x8) w9 fun e a1 => ∃ c4, e = .returned (.bool c4) ∧ ya4 [n0] [(n5, 37)] [n5] w9 a1 ∧ ∃ c1 c2 b2 b3 b5 b4 b7 b6, a1.heap[n0]? = some (.cells (Z4 c1 c2 b2 b3 b5 b4 b7 b6) 91) ∧
 brB c4 (
 ∀ b8, Adv [n5] [] a1 b8 → b8.heap[n0]? = some (.cells (Z4 c1 c2 b2 b3 b5 b4 b7 b6) 91) →
 R (.tuple #[(.agg (Z0 0 0 0 0 0 0 0 0 0 0 none 0 0 0 0 0 0 none 0 0 none 0 0)), .int .i64 211]) b8)
 (
 ixA b2 b3 b0 18 fun a3 =>
 yaF .i64 a1 (Addr.add a3 1) fun d4 => yaF .i64 a1 (Addr.add (Addr.add a3 1) 1) fun d5 => yaF .i64 a1 (Addr.add (Addr.add a3 1) 2) fun d6 => yaF .i64 a1 (Addr.add (Addr.add a3 1) 3) fun d7 => yaF .i64 a1 (Addr.add (Addr.add a3 1) 4) fun d8 => yaF .i64 a1 (Addr.add (Addr.add a3 1) 5) fun d9 => yaF .i64 a1 (Addr.add (Addr.add a3 1) 6) fun e0 => yaF .i64 a1 (Addr.add (Addr.add a3 1) 7) fun e1 => yaF .i64 a1 (Addr.add (Addr.add a3 1) 8) fun e2 => yaF .i64 a1 (Addr.add (Addr.add a3 1) 9) fun e3 => yaS a1 (Addr.add (Addr.add a3 1) 10) fun c5 d1 c8 => yaF .i64 a1 (Addr.add (Addr.add a3 1) 11) fun e4 => yaF .i64 a1 (Addr.add (Addr.add a3 1) 12) fun e5 => yaF .i64 a1 (Addr.add (Addr.add a3 1) 13) fun e6 => yaF .i64 a1 (Addr.add (Addr.add a3 1) 14) fun e7 => yaS a1 (Addr.add (Addr.add a3 1) 15) fun c6 d2 c9 => yaS a1 (Addr.add (Addr.add a3 1) 16) fun c7 d3 d0 =>
 ∀ b9, Adv [n5] [] a1 b9 → b9.heap[n0]? = some (.cells (Z4 c1 c2 b2 b3 b5 b4 b7 b6) 91) →
 R (.tuple #[(.agg (Z0 d4 d5 d6 d7 d8 d9 e0 e1 e2 e3 c5 d1 c8 e4 e5 e6 e7 c6 d2 c9 c7 d3 d0)), .int .i64 0]) b9))
 (
 KS (yDf i0 n0 i1 i2 a2 n1 n2 a4 n3 n4 n5 I m) (yi4 i0 n0 i1 i2 a2 n1 n2 a4 n3 n4 n5 (IntKind.wrap .i64 (b0 + 1))) w))
 (
 ∀ c0, Adv [n5] [] w c0 → c0.heap[n0]? = some (.cells (Z4 i1 i2 a2 n1 n2 a4 n3 n4) 91) →
 R (.tuple #[(.agg (Z0 0 0 0 0 0 0 0 0 0 0 none 0 0 0 0 0 0 none 0 0 none 0 0)), .int .i64 210]) c0)) :
 yaJ ypY (yGi 397 [0, 0, 1, 0, 1]) (yGj [1, 0, 1, 0] [] R) (yi4 i0 n0 i1 i2 a2 n1 n2 a4 n3 n4 n5 i3) w0 :=
 lrule (yi4 i0 n0 i1 i2 a2 n1 n2 a4 n3 n4 n5) (U1 I) h0 (by rintro m b0 w h; exact ⟨by kernel_rfl, by kernel_rfl, fun js => Eq.mpr (by kernel_rfl) (hr m b0 w h)⟩)
theorem yIj {b0 : Nat} {o2_n o2_c : Nat} {o3_n o3_c : Nat} (hb : w.heap[b0]? = some (.cells (Z4 i0 i1 q0 o2_n o2_c q1 o3_n o3_c) 91)) (h :
 ∀ b1, w.heap.size ≤ b1 →
 ∀ a1, Adv [] [b1] w a1 →
 yaJ ypY (yGi 397 [0, 0, 1, 0, 1]) (yGj [1, 0, 1, 0] [] R) (yi4 i2 b0 i0 i1 q0 o2_n o2_c q1 o3_n o3_c b1 0) a1) :
 CR pP 23 #[(.pointer (some ⟨b0, 0, none⟩)), .int .i64 i2] w R :=
 yaZ Tryz.wide_mixed (an := ypZ) Tryz.func23 rfl rfl (by kernel_rfl) rfl hb (Eq.mpr (by kernel_rfl) h)
def yp0 : LA := ⟨[0, 0, 1, 0, 1, 1], [0, 1, 5, 6], [(0, 0, 0)], 1, []⟩
def yp1 : List LA := [yp0]
abbrev yGk := dnF pP yp1 (code Tryz.f24)
abbrev yNe := yaO pP yp1 (code Tryz.f24)
abbrev yGl (p : List Nat) (K : List Kh) (R : VWP) := yaO pP yp1 (code Tryz.f24) p K (ya7 pP Tryz.f24 [0] R)
def yhB (b1 : Int) (bm0 : Nat) (a6 a7 : Int) (a0 : OA) (a4 a2 : Nat) (a1 : OA) (a5 a3 : Nat) : (Option Addr) × Nat × Nat × Int → List Value × List TB := fun (a8, b0, a9, b2) => ([(.pointer (some ⟨bm0, 0, none⟩)), .int .i64 b1, .slice a8 b0 a9, .int .i64 b2], [⟨bm0, 91, [.int .i64 a6, .int .i64 a7, .slice a0 a4 a2, .slice a1 a5 a3], false⟩])
abbrev yuM (a8 : Int) (bm0 : Nat) (a6 a7 : Int) (a0 : OA) (a4 a2 : Nat) (a1 : OA) (a5 a3 : Nat) (I : Nat → Option Addr → Nat → Nat → Int → World → Prop) (m : Nat) : Kh := KG (yhB a8 bm0 a6 a7 a0 a4 a2 a1 a5 a3) (U4 I) m
theorem ynI {I : Nat → Option Addr → Nat → Nat → Int → World → Prop} (m' : Nat) (h1 : m' < m) (h2 : I m' q2 n5 n6 i3 w) : KS (yuM i0 n0 i1 i2 q0 n1 n2 q1 n3 n4 I m) (yhB i0 n0 i1 i2 q0 n1 n2 q1 n3 n4 (q2, n5, n6, i3)) w := ⟨m', h1, _, rfl, rfl, h2⟩
theorem yzM {a1 : OA} {a2 : OA} {b3 : OA} (I : Nat → Option Addr → Nat → Nat → Int → World → Prop) (m0 : Nat) (h0 : I m0 b3 n5 n6 i3 w0)
 (hr : ∀ m b1 a9 b2 a8 w, I m b1 a9 b2 a8 w →
 brB (decide (a8 < (n1 : Int))) (
 ixA a1 n1 a8 18 fun q3 =>
 yaF .i64 w q3 fun x4 =>
 brB (x4 != i0) (
 ixA a1 n1 a8 18 fun q5 =>
 yaF .i64 w q5 fun x6 => yaF .i64 w (Addr.add q5 1) fun x7 => yaF .i64 w (Addr.add q5 2) fun x8 => yaF .i64 w (Addr.add q5 3) fun x9 => yaF .i64 w (Addr.add q5 4) fun d4 => yaF .i64 w (Addr.add q5 5) fun d5 => yaF .i64 w (Addr.add q5 6) fun d6 => yaF .i64 w (Addr.add q5 7) fun d7 => yaF .i64 w (Addr.add q5 8) fun d8 => yaF .i64 w (Addr.add q5 9) fun d9 => yaF .i64 w (Addr.add q5 10) fun e0 => yaS w (Addr.add q5 11) fun c1 d0 c6 => yaF .i64 w (Addr.add q5 12) fun e1 => yaF .i64 w (Addr.add q5 13) fun e2 => yaF .i64 w (Addr.add q5 14) fun e3 => yaF .i64 w (Addr.add q5 15) fun e4 => yaS w (Addr.add q5 16) fun c2 d1 c7 => yaS w (Addr.add q5 17) fun c3 d2 c8 =>
 al w (.cells #[.int .i64 x6, .int .i64 x7, .int .i64 x8, .int .i64 x9, .int .i64 d4, .int .i64 d5, .int .i64 d6, .int .i64 d7, .int .i64 d8, .int .i64 d9, .int .i64 e0, .slice c1 d0 c6, .int .i64 e1, .int .i64 e2, .int .i64 e3, .int .i64 e4, .slice c2 d1 c7, .slice c3 d2 c8] 93) fun c5 b9 =>
 ycE pP (Builtin.append_ #[88, 88] 88 #[.slice b1 a9 b2, (.slice (some ⟨c5, 0, none⟩) 1 1)]) b9 fun c4 d3 c9 c0 => yaD [n0] b9 c0 ∧
 KS (yuM i0 n0 i1 i2 a1 n1 n2 a2 n3 n4 I m) (yhB i0 n0 i1 i2 a1 n1 n2 a2 n3 n4 (c4, d3, c9, (IntKind.wrap .i64 (a8 + 1)))) c0)
 (
 KS (yuM i0 n0 i1 i2 a1 n1 n2 a2 n3 n4 I m) (yhB i0 n0 i1 i2 a1 n1 n2 a2 n3 n4 (b1, a9, b2, (IntKind.wrap .i64 (a8 + 1)))) w))
 (
 brB ((a9 : Int) == (n1 : Int)) (
 ∀ b6, Adv [] [] w b6 → b6.heap[n0]? = some (.cells (Z4 i1 i2 a1 n1 n2 a2 n3 n4) 91) →
 R (.int .i64 210) b6)
 (
 ∀ b7, Adv [n0] [] w b7 → b7.heap[n0]? = some (.cells (Z4 i1 i2 b1 a9 b2 a2 n3 n4) 91) →
 R (.int .i64 0) b7))) :
 yaJ yp0 (yGk 396 [0, 0, 1, 0, 1, 1]) (yGl [1, 1, 0, 1, 0] [] R) (yhB i0 n0 i1 i2 a1 n1 n2 a2 n3 n4 (b3, n5, n6, i3)) w0 :=
 lrule (yhB i0 n0 i1 i2 a1 n1 n2 a2 n3 n4) (U4 I) h0 (by rintro m ⟨b1, a9, b2, a8⟩ w h; exact ⟨by kernel_rfl, by kernel_rfl, fun js => Eq.mpr (by kernel_rfl) (hr m b1 a9 b2 a8 w h)⟩)
theorem yIk {b0 : Nat} {o2_n o2_c : Nat} {o3_n o3_c : Nat} (hb : w.heap[b0]? = some (.cells (Z4 i0 i1 q0 o2_n o2_c q1 o3_n o3_c) 91)) (h :
 al w (.cells #[] 93) fun b1 w2 =>
 yaJ yp0 (yGk 396 [0, 0, 1, 0, 1, 1]) (yGl [1, 1, 0, 1, 0] [] R) (yhB i2 b0 i0 i1 q0 o2_n o2_c q1 o3_n o3_c ((some ⟨b1, 0, none⟩), 0, 0, 0)) w2) :
 CR pP 24 #[(.pointer (some ⟨b0, 0, none⟩)), .int .i64 i2] w R :=
 yaZ Tryz.wide_mixed (an := yp1) Tryz.func24 rfl rfl (by kernel_rfl) rfl hb (Eq.mpr (by kernel_rfl) h)
theorem yIl {b0 : Nat} {o2_n o2_c : Nat} {o3_n o3_c : Nat} (hb : w.heap[b0]? = some (.cells (Z4 i0 i1 q0 o2_n o2_c q1 o3_n o3_c) 91)) (h :
 ∀ b1, w.heap.size ≤ b1 →
 ∀ w2, Adv [] [b1] w w2 → w2.heap[b0]? = some (.cells (Z4 i0 i1 q0 o2_n o2_c q1 o3_n o3_c) 91) →
 Calls pP 23 #[(.pointer (some ⟨b0, 0, none⟩)), .int .i64 i2] w2 fun e w3 => ∃ x4 x5 x6 x7 x8 x9 c4 c5 c6 c7 a4 b6 a9 c8 c9 d0 d1 a5 b7 b2 a6 b8 b3 a3, e = .returned (.tuple #[(.agg (Z0 x4 x5 x6 x7 x8 x9 c4 c5 c6 c7 a4 b6 a9 c8 c9 d0 d1 a5 b7 b2 a6 b8 b3)), .int .i64 a3]) ∧ ya4 [b0] [(b1, 37)] [b1] w2 w3 ∧ ∃ d2 d3 a7 b9 b4 a8 c0 b5, w3.heap[b0]? = some (.cells (Z4 d2 d3 a7 b9 b4 a8 c0 b5) 91) ∧
 ∀ a1, w3.heap.size ≤ a1 →
 brB (a3 == 0) (
 ∀ a2, Adv [] [a1] w3 a2 → a2.heap[b0]? = some (.cells (Z4 d2 d3 a7 b9 b4 a8 c0 b5) 91) →
 Calls pP 24 #[(.pointer (some ⟨b0, 0, none⟩)), .int .i64 i2] a2 fun e c1 => ∃ e2, e = .returned (.int .i64 e2) ∧ ya4 [b0] [(b1, 37), (a1, 37)] [b1, a1] a2 c1 ∧ ∃ e0 e1 d4 d8 d6 d5 d9 d7, c1.heap[b0]? = some (.cells (Z4 e0 e1 d4 d8 d6 d5 d9 d7) 91) ∧
 ∀ c2, Adv [b1] [] c1 c2 → c2.heap[b0]? = some (.cells (Z4 e0 e1 d4 d8 d6 d5 d9 d7) 91) →
 R (.tuple #[(.agg (Z0 x4 x5 x6 x7 x8 x9 c4 c5 c6 c7 a4 b6 a9 c8 c9 d0 d1 a5 b7 b2 a6 b8 b3)), .int .i64 a3]) c2)
 (
 ∀ c3, Adv [b1] [a1] w3 c3 → c3.heap[b0]? = some (.cells (Z4 d2 d3 a7 b9 b4 a8 c0 b5) 91) →
 R (.tuple #[(.agg (Z0 x4 x5 x6 x7 x8 x9 c4 c5 c6 c7 a4 b6 a9 c8 c9 d0 d1 a5 b7 b2 a6 b8 b3)), .int .i64 a3]) c3)) :
 CR pP 22 #[(.pointer (some ⟨b0, 0, none⟩)), .int .i64 i2] w R :=
 yaZ Tryz.wide_mixed (an := []) Tryz.func22 rfl rfl (by kernel_rfl) rfl hb (Eq.mpr (by kernel_rfl) h)
def yp2 : LA := ⟨[0, 0, 1, 0, 1], [0, 1, 2, 3, 8, 9], [(0, 0, 0)], 1, []⟩
def yp3 : List LA := [yp2]
abbrev yGm := dnF pP yp3 (code Tryz.f25)
abbrev yNf := yaO pP yp3 (code Tryz.f25)
abbrev yGn (p : List Nat) (K : List Kh) (R : VWP) := yaO pP yp3 (code Tryz.f25) p K (ya7 pP Tryz.f25 [0] R)
def yc3 (b2 b3 : Int) (b1 : Bool) (bm0 : Nat) (a6 a7 : Int) (a0 : OA) (a4 a2 : Nat) (a1 : OA) (a5 a3 : Nat) : (Option Addr) × Nat × Nat × Int → List Value × List TB := fun (a8, b0, a9, b4) => ([(.pointer (some ⟨bm0, 0, none⟩)), .int .i64 b2, .int .i64 b3, .bool b1, .slice a8 b0 a9, .int .i64 b4], [⟨bm0, 91, [.int .i64 a6, .int .i64 a7, .slice a0 a4 a2, .slice a1 a5 a3], false⟩])
abbrev yeW (a9 b0 : Int) (a8 : Bool) (bm0 : Nat) (a6 a7 : Int) (a0 : OA) (a4 a2 : Nat) (a1 : OA) (a5 a3 : Nat) (I : Nat → Option Addr → Nat → Nat → Int → World → Prop) (m : Nat) : Kh := KG (yc3 a9 b0 a8 bm0 a6 a7 a0 a4 a2 a1 a5 a3) (U4 I) m
theorem ynJ {I : Nat → Option Addr → Nat → Nat → Int → World → Prop} (m' : Nat) (h1 : m' < m) (h2 : I m' q2 n5 n6 i4 w) : KS (yeW i0 i1 B0 n0 i2 i3 q0 n1 n2 q1 n3 n4 I m) (yc3 i0 i1 B0 n0 i2 i3 q0 n1 n2 q1 n3 n4 (q2, n5, n6, i4)) w := ⟨m', h1, _, rfl, rfl, h2⟩
theorem yzN {a0 : OA} {a6 : OA} {b5 : OA} (I : Nat → Option Addr → Nat → Nat → Int → World → Prop) (m0 : Nat) (h0 : I m0 b5 n5 n6 i4 w0)
 (hr : ∀ m b1 b3 b2 b4 w, I m b1 b3 b2 b4 w →
 brB (decide (b4 < (n3 : Int))) (
 ixA a6 n3 b4 2 fun q3 =>
 yaF .i64 w q3 fun x4 => yaF .i64 w (Addr.add q3 1) fun x5 =>
 ∀ b6, w.heap.size ≤ b6 →
 brB (x4 == i0) (
 brB (x5 == i1) (
 ∀ w7, Adv [] [b6] w w7 →
 KS (yeW i0 i1 B0 n0 i2 i3 a0 n1 n2 a6 n3 n4 I m) (yc3 i0 i1 B0 n0 i2 i3 a0 n1 n2 a6 n3 n4 (b1, b3, b2, (IntKind.wrap .i64 (b4 + 1)))) w7)
 (
 brB (x4 == i1) (
 brB (!(x5 == i0)) (
 ∀ w8, Adv [] [b6] w w8 →
 al w8 (.cells #[.int .i64 x4, .int .i64 x5] 85) fun b9 c4 =>
 ycE pP (Builtin.append_ #[89, 89] 89 #[.slice b1 b3 b2, (.slice (some ⟨b9, 0, none⟩) 1 1)]) c4 fun d9 f3 e8 c5 => yaD [n0, b6] c4 c5 ∧
 KS (yeW i0 i1 B0 n0 i2 i3 a0 n1 n2 a6 n3 n4 I m) (yc3 i0 i1 B0 n0 i2 i3 a0 n1 n2 a6 n3 n4 (d9, f3, e8, (IntKind.wrap .i64 (b4 + 1)))) c5)
 (
 ∀ c6, Adv [] [b6] w c6 →
 KS (yeW i0 i1 B0 n0 i2 i3 a0 n1 n2 a6 n3 n4 I m) (yc3 i0 i1 B0 n0 i2 i3 a0 n1 n2 a6 n3 n4 (b1, b3, b2, (IntKind.wrap .i64 (b4 + 1)))) c6))
 (
 ∀ c7, Adv [] [b6] w c7 →
 al c7 (.cells #[.int .i64 x4, .int .i64 x5] 85) fun e4 c8 =>
 ycE pP (Builtin.append_ #[89, 89] 89 #[.slice b1 b3 b2, (.slice (some ⟨e4, 0, none⟩) 1 1)]) c8 fun e0 f4 e9 c9 => yaD [n0, b6] c8 c9 ∧
 KS (yeW i0 i1 B0 n0 i2 i3 a0 n1 n2 a6 n3 n4 I m) (yc3 i0 i1 B0 n0 i2 i3 a0 n1 n2 a6 n3 n4 (e0, f4, e9, (IntKind.wrap .i64 (b4 + 1)))) c9)))
 (
 brB (x4 == i1) (
 brB (!(x5 == i0)) (
 ∀ d0, Adv [] [b6] w d0 →
 al d0 (.cells #[.int .i64 x4, .int .i64 x5] 85) fun e5 d1 =>
 ycE pP (Builtin.append_ #[89, 89] 89 #[.slice b1 b3 b2, (.slice (some ⟨e5, 0, none⟩) 1 1)]) d1 fun e1 f5 f0 d2 => yaD [n0, b6] d1 d2 ∧
 KS (yeW i0 i1 B0 n0 i2 i3 a0 n1 n2 a6 n3 n4 I m) (yc3 i0 i1 B0 n0 i2 i3 a0 n1 n2 a6 n3 n4 (e1, f5, f0, (IntKind.wrap .i64 (b4 + 1)))) d2)
 (
 ∀ d3, Adv [] [b6] w d3 →
 KS (yeW i0 i1 B0 n0 i2 i3 a0 n1 n2 a6 n3 n4 I m) (yc3 i0 i1 B0 n0 i2 i3 a0 n1 n2 a6 n3 n4 (b1, b3, b2, (IntKind.wrap .i64 (b4 + 1)))) d3))
 (
 ∀ d4, Adv [] [b6] w d4 →
 al d4 (.cells #[.int .i64 x4, .int .i64 x5] 85) fun e6 d5 =>
 ycE pP (Builtin.append_ #[89, 89] 89 #[.slice b1 b3 b2, (.slice (some ⟨e6, 0, none⟩) 1 1)]) d5 fun e2 f6 f1 d6 => yaD [n0, b6] d5 d6 ∧
 KS (yeW i0 i1 B0 n0 i2 i3 a0 n1 n2 a6 n3 n4 I m) (yc3 i0 i1 B0 n0 i2 i3 a0 n1 n2 a6 n3 n4 (e2, f6, f1, (IntKind.wrap .i64 (b4 + 1)))) d6)))
 (
 brB B0 (
 brB (i0 != i1) (
 al w (.cells #[.int .i64 i0, .int .i64 i1] 85) fun e7 d7 =>
 ycE pP (Builtin.append_ #[89, 89] 89 #[.slice b1 b3 b2, (.slice (some ⟨e7, 0, none⟩) 1 1)]) d7 fun e3 f7 f2 d8 => yaD [n0] d7 d8 ∧
 ∀ c0, Adv [n0] [] d8 c0 → c0.heap[n0]? = some (.cells (Z4 i2 i3 a0 n1 n2 e3 f7 f2) 91) →
 R (.tuple #[]) c0)
 (
 ∀ c1, Adv [n0] [] w c1 → c1.heap[n0]? = some (.cells (Z4 i2 i3 a0 n1 n2 b1 b3 b2) 91) →
 R (.tuple #[]) c1))
 (
 ∀ c2, Adv [n0] [] w c2 → c2.heap[n0]? = some (.cells (Z4 i2 i3 a0 n1 n2 b1 b3 b2) 91) →
 R (.tuple #[]) c2))) :
 yaJ yp2 (yGm 397 [0, 0, 1, 0, 1]) (yGn [1, 0, 1, 0] [] R) (yc3 i0 i1 B0 n0 i2 i3 a0 n1 n2 a6 n3 n4 (b5, n5, n6, i4)) w0 :=
 lrule (yc3 i0 i1 B0 n0 i2 i3 a0 n1 n2 a6 n3 n4) (U4 I) h0 (by rintro m ⟨b1, b3, b2, b4⟩ w h; exact ⟨by kernel_rfl, by kernel_rfl, fun js => Eq.mpr (by kernel_rfl) (hr m b1 b3 b2 b4 w h)⟩)
theorem yIm {b0 : Nat} {o2_n o2_c : Nat} {o3_n o3_c : Nat} (hb : w.heap[b0]? = some (.cells (Z4 i0 i1 q0 o2_n o2_c q1 o3_n o3_c) 91)) (h :
 al w (.cells #[] 85) fun b1 w2 =>
 yaJ yp2 (yGm 397 [0, 0, 1, 0, 1]) (yGn [1, 0, 1, 0] [] R) (yc3 i2 i3 B0 b0 i0 i1 q0 o2_n o2_c q1 o3_n o3_c ((some ⟨b1, 0, none⟩), 0, 0, 0)) w2) :
 CR pP 25 (Z13 (some ⟨b0, 0, none⟩) i2 i3 B0) w R :=
 yaZ Tryz.wide_mixed (an := yp3) Tryz.func25 rfl rfl (by kernel_rfl) rfl hb (Eq.mpr (by kernel_rfl) h)
def yp4 : LA := ⟨[0, 0, 1, 0, 1, 1], [0, 3, 4], [(0, 0, 0)], 1, []⟩
def yp5 : List LA := [yp4]
abbrev yGo := dnF pP yp5 (code Tryz.f29)
abbrev yNg := yaO pP yp5 (code Tryz.f29)
abbrev yGp (p : List Nat) (K : List Kh) (R : VWP) := yaO pP yp5 (code Tryz.f29) p K (ya7 pP Tryz.f29 [0] R)
def yi5 (bm0 : Nat) (a6 a7 : Int) (a0 : OA) (a4 a2 : Nat) (a1 : OA) (a5 a3 : Nat) : (Option Addr) × Nat × Nat × Int → List Value × List TB := fun (a8, b0, a9, b1) => ([(.pointer (some ⟨bm0, 0, none⟩)), .slice a8 b0 a9, .int .i64 b1], [⟨bm0, 91, [.int .i64 a6, .int .i64 a7, .slice a0 a4 a2, .slice a1 a5 a3], false⟩])
abbrev yDg (bm0 : Nat) (a6 a7 : Int) (a0 : OA) (a4 a2 : Nat) (a1 : OA) (a5 a3 : Nat) (I : Nat → Option Addr → Nat → Nat → Int → World → Prop) (m : Nat) : Kh := KG (yi5 bm0 a6 a7 a0 a4 a2 a1 a5 a3) (U4 I) m
theorem yzO {I : Nat → Option Addr → Nat → Nat → Int → World → Prop} (m' : Nat) (h1 : m' < m) (h2 : I m' q2 n5 n6 i2 w) : KS (yDg n0 i0 i1 q0 n1 n2 q1 n3 n4 I m) (yi5 n0 i0 i1 q0 n1 n2 q1 n3 n4 (q2, n5, n6, i2)) w := ⟨m', h1, _, rfl, rfl, h2⟩
theorem yzP {bm0 : Nat} {a1 : OA} {a0 a3 : Nat} {a2 : OA} {a5 a4 : Nat} {b3 : OA} {b6 b4 : Nat} (I : Nat → Option Addr → Nat → Nat → Int → World → Prop) (m0 : Nat) (h0 : I m0 b3 b6 b4 i2 w0)
 (hr : ∀ m b0 b2 b1 a9 w, I m b0 b2 b1 a9 w →
 brB (decide (a9 < (a0 : Int))) (
 ixA a1 a0 a9 18 fun q3 =>
 yaF .i64 w q3 fun x4 =>
 al w (.cells #[.int .i64 x4] 3) fun b5 w6 =>
 ycE pP (Builtin.append_ #[27, 27] 27 #[.slice b0 b2 b1, (.slice (some ⟨b5, 0, none⟩) 1 1)]) w6 fun a8 n9 b9 w7 => yaD [bm0] w6 w7 ∧
 KS (yDg bm0 i0 i1 a1 a0 a3 a2 a5 a4 I m) (yi5 bm0 i0 i1 a1 a0 a3 a2 a5 a4 (a8, n9, b9, (IntKind.wrap .i64 (a9 + 1)))) w7)
 (
 ∀ b7, Adv [] [] w b7 → b7.heap[bm0]? = some (.cells (Z4 i0 i1 a1 a0 a3 a2 a5 a4) 91) →
 R (.slice b0 b2 b1) b7)) :
 yaJ yp4 (yGo 396 [0, 0, 1, 0, 1, 1]) (yGp [1, 1, 0, 1, 0] [] R) (yi5 bm0 i0 i1 a1 a0 a3 a2 a5 a4 (b3, b6, b4, i2)) w0 :=
 lrule (yi5 bm0 i0 i1 a1 a0 a3 a2 a5 a4) (U4 I) h0 (by rintro m ⟨b0, b2, b1, a9⟩ w h; exact ⟨by kernel_rfl, by kernel_rfl, fun js => Eq.mpr (by kernel_rfl) (hr m b0 b2 b1 a9 w h)⟩)
theorem yIn {b0 : Nat} {o2_n o2_c : Nat} {o3_n o3_c : Nat} (hb : w.heap[b0]? = some (.cells (Z4 i0 i1 q0 o2_n o2_c q1 o3_n o3_c) 91)) (h :
 al w (.cells #[] 3) fun b1 w2 =>
 yaJ yp4 (yGo 396 [0, 0, 1, 0, 1, 1]) (yGp [1, 1, 0, 1, 0] [] R) (yi5 b0 i0 i1 q0 o2_n o2_c q1 o3_n o3_c ((some ⟨b1, 0, none⟩), 0, 0, 0)) w2) :
 CR pP 29 #[(.pointer (some ⟨b0, 0, none⟩))] w R :=
 yaZ Tryz.wide_mixed (an := yp5) Tryz.func29 rfl rfl (by kernel_rfl) rfl hb (Eq.mpr (by kernel_rfl) h)
def yp6 : LA := ⟨[0, 0, 1, 0, 1, 1], [0, 3, 4], [(0, 0, 0)], 1, [0]⟩
def yp7 : List LA := [yp6]
abbrev yGq := dnF pP yp7 (code Tryz.f30)
abbrev yNh := yaO pP yp7 (code Tryz.f30)
abbrev yGr (p : List Nat) (K : List Kh) (R : VWP) := yaO pP yp7 (code Tryz.f30) p K (ya7 pP Tryz.f30 [0] R)
def yhC (bm0 : Nat) : (Option Addr) × Nat × Nat × Int × Int × Int × (Option Addr) × Nat × Nat × (Option Addr) × Nat × Nat → List Value × List TB := fun (a8, b0, a9, b1, a6, a7, a0, a4, a2, a1, a5, a3) => ([(.pointer (some ⟨bm0, 0, none⟩)), .slice a8 b0 a9, .int .i64 b1], [⟨bm0, 91, [.int .i64 a6, .int .i64 a7, .slice a0 a4 a2, .slice a1 a5 a3], true⟩])
abbrev yuN (bm0 : Nat) (I : Nat → Option Addr → Nat → Nat → Int → Int → Int → Option Addr → Nat → Nat → Option Addr → Nat → Nat → World → Prop) (m : Nat) : Kh := KG (yhC bm0) (U12 I) m
theorem ynK {I : Nat → Option Addr → Nat → Nat → Int → Int → Int → Option Addr → Nat → Nat → Option Addr → Nat → Nat → World → Prop} (m' : Nat) (h1 : m' < m) (h2 : I m' q0 n1 n2 i0 i1 i2 q1 n3 n4 q2 n5 n6 w) : KS (yuN n0 I m) (yhC n0 (q0, n1, n2, i0, i1, i2, q1, n3, n4, q2, n5, n6)) w := ⟨m', h1, _, rfl, rfl, h2⟩
theorem yzQ {c3 : OA} {b0 : OA} {b1 : OA} (I : Nat → Option Addr → Nat → Nat → Int → Int → Int → Option Addr → Nat → Nat → Option Addr → Nat → Nat → World → Prop) (m0 : Nat) (h0 : I m0 c3 n1 n2 i0 i1 i2 b0 n3 n4 b1 n5 n6 w0)
 (hr : ∀ m a9 b5 b2 a8 a6 a7 a1 a0 a3 a2 a5 a4 w, I m a9 b5 b2 a8 a6 a7 a1 a0 a3 a2 a5 a4 w →
 w.heap[n0]? = some (.cells (Z4 a6 a7 a1 a0 a3 a2 a5 a4) 91) →
 brB (decide (a8 < (a0 : Int))) (
 ixA a1 a0 a8 18 fun q3 =>
 ∀ w4, Adv [] [] w w4 → w4.heap[n0]? = some (.cells (Z4 a6 a7 a1 a0 a3 a2 a5 a4) 91) →
 yaF .i64 w4 (Addr.add (Addr.add q3 1) 1) fun x5 =>
 ixA a1 a0 a8 18 fun q6 =>
 yaF .i64 w4 (Addr.add (Addr.add q6 1) 2) fun x7 =>
 Calls pP 27 (Z11 (some ⟨n0, 0, none⟩) x5 x7) w4 fun e w8 => ∃ t9, e = .returned (.bool t9) ∧ ∃ c9 d0 c0 c1 c4 c2 c7 c5, w8.heap[n0]? = some (.cells (Z4 c9 d0 c0 c1 c4 c2 c7 c5) 91) ∧
 brB (!t9) (
 ixA c0 c1 a8 18 fun d8 =>
 yaF .i64 w8 d8 fun d9 =>
 al w8 (.cells #[.int .i64 d9] 3) fun d5 d2 =>
 ycE pP (Builtin.append_ #[27, 27] 27 #[.slice a9 b5 b2, (.slice (some ⟨d5, 0, none⟩) 1 1)]) d2 fun d4 d7 d6 d3 => yaD [n0] d2 d3 ∧
 KS (yuN n0 I m) (yhC n0 (d4, d7, d6, (IntKind.wrap .i64 (a8 + 1)), c9, d0, c0, c1, c4, c2, c7, c5)) d3)
 (
 KS (yuN n0 I m) (yhC n0 (a9, b5, b2, (IntKind.wrap .i64 (a8 + 1)), c9, d0, c0, c1, c4, c2, c7, c5)) w8))
 (
 R (.slice a9 b5 b2) w)) :
 yaJ yp6 (yGq 396 [0, 0, 1, 0, 1, 1]) (yGr [1, 1, 0, 1, 0] [] R) (yhC n0 (c3, n1, n2, i0, i1, i2, b0, n3, n4, b1, n5, n6)) w0 :=
 lrule (yhC n0) (U12 I) h0 (by rintro m ⟨a9, b5, b2, a8, a6, a7, a1, a0, a3, a2, a5, a4⟩ w h; exact ⟨by kernel_rfl, by kernel_rfl, fun js => Eq.mpr (by kernel_rfl) (hr m a9 b5 b2 a8 a6 a7 a1 a0 a3 a2 a5 a4 w h)⟩)
theorem yIo {b0 : Nat} {o2_n o2_c : Nat} {o3_n o3_c : Nat} (hb : w.heap[b0]? = some (.cells (Z4 i0 i1 q0 o2_n o2_c q1 o3_n o3_c) 91)) (h :
 al w (.cells #[] 3) fun b1 w2 =>
 ∀ a0, Adv [] [] w2 a0 → a0.heap[b0]? = some (.cells (Z4 i0 i1 q0 o2_n o2_c q1 o3_n o3_c) 91) →
 yaJ yp6 (yGq 396 [0, 0, 1, 0, 1, 1]) (yGr [1, 1, 0, 1, 0] [] R) (yhC b0 ((some ⟨b1, 0, none⟩), 0, 0, 0, i0, i1, q0, o2_n, o2_c, q1, o3_n, o3_c)) a0) :
 CR pP 30 #[(.pointer (some ⟨b0, 0, none⟩))] w R :=
 yaZ Tryz.wide_mixed (an := yp7) Tryz.func30 rfl rfl (by kernel_rfl) rfl hb (Eq.mpr (by kernel_rfl) h)
def yp8 : LA := ⟨[0, 0, 1, 0, 1, 1], [0, 1, 5], [], 0, []⟩
def yp9 : List LA := [yp8]
abbrev yGs := dnF pP yp9 (code Tryz.f28)
abbrev yNi := yaO pP yp9 (code Tryz.f28)
abbrev yGt (p : List Nat) (K : List Kh) (R : VWP) := yaO pP yp9 (code Tryz.f28) p K (ya7 pP Tryz.f28 [] R)
def yi6 (a0 : OA) (a4 a2 : Nat) (a1 : OA) (a5 a3 : Nat) : Int → List Value × List TB := fun a6 => ([.slice a0 a4 a2, .slice a1 a5 a3, .int .i64 a6], [])
abbrev yDh (a0 : OA) (a4 a2 : Nat) (a1 : OA) (a5 a3 : Nat) (I : Nat → Int → World → Prop) (m : Nat) : Kh := KG (yi6 a0 a4 a2 a1 a5 a3) (U1 I) m
theorem yzR {I : Nat → Int → World → Prop} (m' : Nat) (h1 : m' < m) (h2 : I m' i0 w) : KS (yDh q0 n0 n1 q1 n2 n3 I m) (yi6 q0 n0 n1 q1 n2 n3 i0) w := ⟨m', h1, _, rfl, rfl, h2⟩
theorem yzS {a2 : OA} {a3 : OA} (I : Nat → Int → World → Prop) (m0 : Nat) (h0 : I m0 i0 w0)
 (hr : ∀ m a0 w, I m a0 w →
 brB (decide (a0 < (n0 : Int))) (
 ixA a2 n0 a0 1 fun q1 =>
 yaF .i64 w q1 fun x2 =>
 ixA a3 n2 a0 1 fun q3 =>
 yaF .i64 w q3 fun x4 =>
 brB (x2 != x4) (
 ∀ w5, Adv [] [] w w5 →
 R (.bool false) w5)
 (
 ∀ w6, Adv [] [] w w6 →
 KS (yDh a2 n0 n1 a3 n2 n3 I m) (yi6 a2 n0 n1 a3 n2 n3 (IntKind.wrap .i64 (a0 + 1))) w6))
 (
 R (.bool true) w)) :
 yaJ yp8 (yGs 396 [0, 0, 1, 0, 1, 1]) (yGt [1, 1, 0, 1, 0] [] R) (yi6 a2 n0 n1 a3 n2 n3 i0) w0 :=
 lrule (yi6 a2 n0 n1 a3 n2 n3) (U1 I) h0 (by rintro m a0 w h; exact ⟨by kernel_rfl, by kernel_rfl, fun js => Eq.mpr (by kernel_rfl) (hr m a0 w h)⟩)
theorem yIp (h :
 brB ((n0 : Int) != (n2 : Int)) (
 R (.bool false) w)
 (
 yaJ yp8 (yGs 396 [0, 0, 1, 0, 1, 1]) (yGt [1, 1, 0, 1, 0] [] R) (yi6 q0 n0 n1 q1 n2 n3 0) w)) :
 CR pP 28 #[.slice q0 n0 n1, .slice q1 n2 n3] w R :=
 yaA Tryz.wide_mixed (an := yp9) Tryz.func28 rfl rfl (by kernel_rfl) rfl (Eq.mpr (by kernel_rfl) h)
end
section
set_option maxRecDepth 100000
variable {R : VWP} {w w0 : World} {m : Nat} {i0 i1 i2 i3 i4 i5 i6 i7 i8 i9 j0 j1 j2 j3 j4 j5 j6 j7 j8 j9 k0 k1 k2 k3 k4 k5 k6 k7 k8 k9 l0 l1 l2 l3 l4 l5 l6 l7 l8 l9 : Int} {s0 s1 s2 s3 s4 s5 s6 s7 s8 s9 t0 t1 t2 t3 t4 t5 t6 t7 t8 t9 : BA} {n0 n1 n2 n3 n4 n5 n6 n7 n8 n9 o0 o1 o2 o3 o4 o5 o6 o7 o8 o9 p0 p1 p2 p3 p4 p5 p6 p7 p8 p9 : Nat} {q0 q1 q2 q3 q4 q5 q6 q7 q8 q9 r0 r1 r2 r3 r4 r5 r6 r7 r8 r9 : OA} {B0 B1 B2 B3 B4 B5 B6 B7 B8 B9 : Bool} {M0 M1 M2 M3 : Option Nat} {V0 V1 V2 V3 V4 V5 : Value} {A0 A1 A2 : Addr}
theorem yIq (h :
 Calls pP 8 #[.int .i64 2] w fun e w1 => ∃ p2 x3, e = .returned (.tuple #[.pointer p2, .int .i64 x3]) ∧
 brB (Option.isNone p2) (
 R (.bool false) w1)
 (
 brB (x3 != 0) (
 R (.bool false) w1)
 (
 ∀ b4, w1.heap.size ≤ b4 →
 ∀ w5, Adv [] [b4] w1 w5 →
 Calls pP 12 #[.pointer p2, (.agg (Z0 4 1 2 0 0 0 5 0 0 0 none 0 0 0 0 0 0 none 0 0 none 0 0))] w5 fun e w6 => ∃ x7 x8, e = .returned (.tuple #[.int .i64 x7, .int .i64 x8]) ∧ yaD [b4] w5 w6 ∧
 Calls pP 12 #[.pointer p2, (.agg (Z0 0 2 3 0 0 0 0 0 0 0 none 0 0 0 0 0 0 none 0 0 none 0 0))] w6 fun e w9 => ∃ g5 g6, e = .returned (.tuple #[.int .i64 g5, .int .i64 g6]) ∧ yaD [b4] w6 w9 ∧
 Calls pP 12 #[.pointer p2, (.agg (Z0 4 1 2 0 0 0 5 0 0 0 none 0 0 0 0 0 0 none 0 0 none 0 0))] w9 fun e c3 => ∃ ac g7, e = .returned (.tuple #[.int .i64 ac, .int .i64 g7]) ∧ yaD [b4] w9 c3 ∧
 Calls pP 13 #[.pointer p2, .int .i64 1] c3 fun e c5 => ∃ g8 g9 h0 h1 h2 h3 h4 h5 h6 h7 e4 f7 f1 h8 h9 u0 u1 e5 f8 f2 e6 f9 f3 u2, e = .returned (.tuple #[(.agg (Z0 g8 g9 h0 h1 h2 h3 h4 h5 h6 h7 e4 f7 f1 h8 h9 u0 u1 e5 f8 f2 e6 f9 f3)), .int .i64 u2]) ∧ yaD [b4] c3 c5 ∧
 ∀ a0, c5.heap.size ≤ a0 →
 ∀ c9, Adv [] [a0] c5 c9 →
 Calls pP 16 (Z13 p2 2 1 true) c9 fun e d0 => e = .returned (.tuple #[]) ∧ yaD [b4, a0] c9 d0 ∧
 Calls pP 15 #[.pointer p2, .int .i64 1] d0 fun e d1 => ∃ ad ae af ag ah ai aj ak am ao z3 z9 z6 ap aq ar au z4 aa z7 z5 ab z8 u3, e = .returned (.tuple #[(.agg (Z0 ad ae af ag ah ai aj ak am ao z3 z9 z6 ap aq ar au z4 aa z7 z5 ab z8)), .int .i64 u3]) ∧ yaD [b4, a0] d0 d1 ∧
 ∀ a2, d1.heap.size ≤ a2 →
 ∀ d2, Adv [] [a2] d1 d2 →
 Calls pP 18 #[.pointer p2] d2 fun e d3 => ∃ e7 g0 f4, e = .returned (.slice e7 g0 f4) ∧ yaD [b4, a0, a2] d2 d3 ∧
 Calls pP 17 (Z11 p2 1 2) d3 fun e d4 => ∃ g4, e = .returned (.bool g4) ∧ yaD [b4, a0, a2] d3 d4 ∧
 Calls pP 16 (Z13 p2 1 2 false) d4 fun e d5 => e = .returned (.tuple #[]) ∧ yaD [b4, a0, a2] d4 d5 ∧
 Calls pP 15 #[.pointer p2, .int .i64 1] d5 fun e d6 => ∃ u4 u5 u6 u7 u9 v0 v1 v2 v3 v4 e8 g1 f5 v5 v6 v7 v8 e9 g2 f6 f0 g3 b6 d7, e = .returned (.tuple #[(.agg (Z0 u4 u5 u6 u7 u9 v0 v1 v2 v3 v4 e8 g1 f5 v5 v6 v7 v8 e9 g2 f6 f0 g3 b6)), .int .i64 d7]) ∧ yaD [b4, a0, a2] d5 d6 ∧
 ∀ a1, d6.heap.size ≤ a1 →
 ∀ a8, Adv [] [a1] d6 a8 →
 Calls pP 15 #[.pointer p2, .int .i64 1] a8 fun e a9 => ∃ x6 x9 y0 y1 y2 y3 y4 y5 y6 y7 v9 x1 w7 y8 y9 z0 z1 w0 x2 w8 w2 x4 x0 d8, e = .returned (.tuple #[(.agg (Z0 x6 x9 y0 y1 y2 y3 y4 y5 y6 y7 v9 x1 w7 y8 y9 z0 z1 w0 x2 w8 w2 x4 x0)), .int .i64 d8]) ∧ yaD [b4, a0, a2, a1] a8 a9 ∧
 ∀ a3, a9.heap.size ≤ a3 →
 ∀ b0, Adv [] [a3] a9 b0 →
 Calls pP 19 #[.pointer p2, .int .i64 2] b0 fun e b1 => ∃ d9, e = .returned (.int .i64 d9) ∧ yaD [b4, a0, a2, a1, a3] b0 b1 ∧
 Calls pP 12 #[.pointer p2, (.agg (Z0 4 1 2 0 0 0 5 0 0 0 none 0 0 0 0 0 0 none 0 0 none 0 0))] b1 fun e b2 => ∃ e0 e1, e = .returned (.tuple #[.int .i64 e0, .int .i64 e1]) ∧ yaD [b4, a0, a2, a1, a3] b1 b2 ∧
 Calls pP 12 #[.pointer p2, (.agg (Z0 (-1) 0 0 0 0 0 0 0 0 0 none 0 0 0 0 0 0 none 0 0 none 0 0))] b2 fun e b3 => ∃ z2 e2, e = .returned (.tuple #[.int .i64 z2, .int .i64 e2]) ∧ yaD [b4, a0, a2, a1, a3] b2 b3 ∧
 Calls pP 8 #[.int .i64 0] b3 fun e a5 => ∃ x5 e3, e = .returned (.tuple #[.pointer x5, .int .i64 e3]) ∧ yaD [b4, a0, a2, a1, a3] b3 a5 ∧
 brB (x7 == 1) (
 brB (x8 == 0) (
 brB (g5 == 2) (
 brB (g6 == 0) (
 brB (g7 == 2) (
 Calls pP 14 #[(.agg (Z0 g8 g9 h0 h1 h2 h3 h4 h5 h6 h7 e4 f7 f1 h8 h9 u0 u1 e5 f8 f2 e6 f9 f3)), (.agg (Z0 4 1 2 0 0 0 5 0 0 0 none 0 0 0 0 0 0 none 0 0 none 0 0))] a5 fun e a6 => ∃ b9, e = .returned (.bool b9) ∧ yaD [b4, a0, a2, a1, a3] a5 a6 ∧
 brB b9 (
 brB (u2 == 0) (
 brB (u3 == 211) (
 al a6 (.cells #[.int .i64 2] 3) fun w3 c4 =>
 Calls pP 28 #[.slice e7 g0 f4, (.slice (some ⟨w3, 0, none⟩) 1 1)] c4 fun e a7 => ∃ c0, e = .returned (.bool c0) ∧ yaD [b4, a0, a2, a1, a3] c4 a7 ∧
 brB c0 (
 brB g4 (
 Calls pP 14 #[(.agg (Z0 u4 u5 u6 u7 u9 v0 v1 v2 v3 v4 e8 g1 f5 v5 v6 v7 v8 e9 g2 f6 f0 g3 b6)), (.agg (Z0 4 1 2 0 0 0 5 0 0 0 none 0 0 0 0 0 0 none 0 0 none 0 0))] a7 fun e a4 => ∃ c1, e = .returned (.bool c1) ∧ yaD [b4, a0, a2, a1, a3] a7 a4 ∧
 brB c1 (
 brB (d7 == 0) (
 brB (d8 == 210) (
 brB (d9 == 0) (
 brB (e0 == 3) (
 brB (e1 == 0) (
 brB (e2 == 180) (
 brB (e3 == 1) (
 Calls pP 10 #[.pointer p2] a4 fun e c6 => ∃ b5 b8 b7, e = .returned (.slice b5 b8 b7) ∧ yaD [b4, a0, a2, a1, a3] a4 c6 ∧
 al c6 (.cells #[.int .i64 3] 3) fun w4 c7 =>
 Calls pP 28 #[.slice b5 b8 b7, (.slice (some ⟨w4, 0, none⟩) 1 1)] c7 fun e c8 => ∃ c2, e = .returned (.bool c2) ∧ yaD [b4, a0, a2, a1, a3] c7 c8 ∧
 R (.bool c2) c8)
 (
 R (.bool false) a4))
 (
 R (.bool false) a4))
 (
 R (.bool false) a4))
 (
 R (.bool false) a4))
 (
 R (.bool false) a4))
 (
 R (.bool false) a4))
 (
 R (.bool false) a4))
 (
 R (.bool false) a4))
 (
 R (.bool false) a7))
 (
 R (.bool false) a7))
 (
 R (.bool false) a6))
 (
 R (.bool false) a6))
 (
 R (.bool false) a6))
 (
 R (.bool false) a5))
 (
 R (.bool false) a5))
 (
 R (.bool false) a5))
 (
 R (.bool false) a5))
 (
 R (.bool false) a5)))) :
 CR pP 9 #[] w R :=
 yaA Tryz.wide_mixed (an := []) Tryz.func9 rfl rfl (by kernel_rfl) rfl (Eq.mpr (by kernel_rfl) h)
def yqA : LA := ⟨[0, 0, 1, 0, 1, 1, 1, 1, 1], [1, 6, 8, 10], [], 0, []⟩
def ycJ : LA := ⟨[1, 1, 1, 1, 0, 0, 1, 0, 0, 1, 0, 1, 1, 1, 1, 1], [1, 6, 8, 10, 11, 13, 14, 15, 16, 17, 18], [(11, 0, 0), (17, 2, 0), (18, 3, 0)], 4, []⟩
def yqB : LA := ⟨[0, 0, 1, 1, 1, 1, 1, 1, 0, 0, 1, 0, 0, 1, 0, 1, 1, 1, 1, 1], [1, 6, 8, 10, 17, 20], [(17, 2, 0)], 4, []⟩
def yqC : List LA := [yqA, ycJ, yqB]
abbrev ydT := dnF pP yqC (code Tryz.f7)
abbrev yNj := yaO pP yqC (code Tryz.f7)
abbrev ydU (p : List Nat) (K : List Kh) (R : VWP) := yaO pP yqC (code Tryz.f7) p K (ya7 pP Tryz.f7 [] R)
def yhD (a1 : OA) (a3 a2 : Nat) (a5 : OA) : (Option Addr) × Int → List Value × List TB := fun (a4, a0) => ([.slice a1 a3 a2, .pointer a4, .pointer a5, .int .i64 a0], [])
def ydH : (Option Addr) × Nat × Nat × (Option Addr) × (Option Addr) × Int × Int × Int × Int × Int × Nat × Int × Int × Int × Int × Int × Int × Int × Int × Int × Int × Int × Int × Int × Int × (Option Addr) × Nat × Nat × Int × Int × Int × Int × (Option Addr) × Nat × Nat × (Option Addr) × Nat × Nat × Nat × Int × Int × Int × Int × Int × Int × Int × Int × Int × Int × (Option Addr) × Nat × Nat × Int × Int × Int × Int × (Option Addr) × Nat × Nat × (Option Addr) × Nat × Nat × Nat × Int × Int × Int × Int × Int × Int × Int × Int × Int × Int × (Option Addr) × Nat × Nat × Int × Int × Int × Int × (Option Addr) × Nat × Nat × (Option Addr) × Nat × Nat × Nat × Int × Int × Int × Int × Int × Int × Int × Int × Int × Int × (Option Addr) × Nat × Nat × Int × Int × Int × Int × (Option Addr) × Nat × Nat × (Option Addr) × Nat × Nat → List Value × List TB := fun (w2, w4, w3, w5, w6, v7, v8, v9, w0, w1, bm0, f6, f7, f8, f9, g0, g1, g2, g3, g4, g5, d6, d7, d8, d9, a0, c4, b2, e0, e1, e2, e3, a1, c5, b3, a2, c6, b4, bm1, g6, g7, g8, g9, h0, h1, h2, h3, h4, h5, a3, c7, b5, e4, e5, e6, e7, a4, c8, b6, a5, c9, b7, bm2, h6, h7, h8, h9, u0, u1, u2, u3, u4, u5, a6, d0, b8, e8, e9, f0, f1, a7, d1, b9, a8, d2, c0, bm3, u6, u7, u9, v0, v1, v2, v3, v4, v5, v6, a9, d3, c1, f2, f3, f4, f5, b0, d4, c2, b1, d5, c3) => ([.slice w2 w4 w3, .pointer w5, .pointer w6, .int .i64 v7, (.pointer (some ⟨bm0, 0, none⟩)), .int .i64 v8, .int .i64 v9, .int .i64 w0, .int .i64 w1, (.pointer (some ⟨bm2, 0, none⟩)), (.pointer (some ⟨bm3, 0, none⟩))], [⟨bm0, 64, [.int .i64 f6, .int .i64 f7, .int .i64 f8, .int .i64 f9, .int .i64 g0, .int .i64 g1, .int .i64 g2, .int .i64 g3, .int .i64 g4, .int .i64 g5, .int .i64 d6, .int .i64 d7, .int .i64 d8, .int .i64 d9, .slice a0 c4 b2, .int .i64 e0, .int .i64 e1, .int .i64 e2, .int .i64 e3, .slice a1 c5 b3, .slice a2 c6 b4], false⟩, ⟨bm1, 37, [.int .i64 g6, .int .i64 g7, .int .i64 g8, .int .i64 g9, .int .i64 h0, .int .i64 h1, .int .i64 h2, .int .i64 h3, .int .i64 h4, .int .i64 h5, .slice a3 c7 b5, .int .i64 e4, .int .i64 e5, .int .i64 e6, .int .i64 e7, .slice a4 c8 b6, .slice a5 c9 b7], false⟩, ⟨bm2, 37, [.int .i64 h6, .int .i64 h7, .int .i64 h8, .int .i64 h9, .int .i64 u0, .int .i64 u1, .int .i64 u2, .int .i64 u3, .int .i64 u4, .int .i64 u5, .slice a6 d0 b8, .int .i64 e8, .int .i64 e9, .int .i64 f0, .int .i64 f1, .slice a7 d1 b9, .slice a8 d2 c0], false⟩, ⟨bm3, 37, [.int .i64 u6, .int .i64 u7, .int .i64 u9, .int .i64 v0, .int .i64 v1, .int .i64 v2, .int .i64 v3, .int .i64 v4, .int .i64 v5, .int .i64 v6, .slice a9 d3 c1, .int .i64 f2, .int .i64 f3, .int .i64 f4, .int .i64 f5, .slice b0 d4 c2, .slice b1 d5 c3], false⟩])
def yi7 (v9 : OA) (w1 w0 : Nat) (w2 w3 : OA) (v7 : Int) (bm0 : Nat) (f6 f7 f8 f9 g0 g1 g2 g3 g4 g5 d6 d7 d8 d9 : Int) (a0 : OA) (c4 b2 : Nat) (e0 e1 e2 e3 : Int) (a1 : OA) (c5 b3 : Nat) (a2 : OA) (c6 b4 bm1 : Nat) (g6 g7 g8 g9 h0 h1 h2 h3 h4 h5 : Int) (a3 : OA) (c7 b5 : Nat) (e4 e5 e6 e7 : Int) (a4 : OA) (c8 b6 : Nat) (a5 : OA) (c9 b7 bm2 : Nat) (h6 h7 h8 h9 u0 u1 u2 u3 u4 u5 : Int) (a6 : OA) (d0 b8 : Nat) (e8 e9 f0 f1 : Int) (a7 : OA) (d1 b9 : Nat) (a8 : OA) (d2 c0 bm3 : Nat) (u6 u7 u9 v0 v1 v2 v3 v4 v5 v6 : Int) (a9 : OA) (d3 c1 : Nat) (f2 f3 f4 f5 : Int) (b0 : OA) (d4 c2 : Nat) (b1 : OA) (d5 c3 : Nat) : Int → List Value × List TB := fun v8 => ([.slice v9 w1 w0, .pointer w2, .pointer w3, .int .i64 v7, (.pointer (some ⟨bm2, 0, none⟩)), .int .i64 v8], [⟨bm0, 64, [.int .i64 f6, .int .i64 f7, .int .i64 f8, .int .i64 f9, .int .i64 g0, .int .i64 g1, .int .i64 g2, .int .i64 g3, .int .i64 g4, .int .i64 g5, .int .i64 d6, .int .i64 d7, .int .i64 d8, .int .i64 d9, .slice a0 c4 b2, .int .i64 e0, .int .i64 e1, .int .i64 e2, .int .i64 e3, .slice a1 c5 b3, .slice a2 c6 b4], false⟩, ⟨bm1, 37, [.int .i64 g6, .int .i64 g7, .int .i64 g8, .int .i64 g9, .int .i64 h0, .int .i64 h1, .int .i64 h2, .int .i64 h3, .int .i64 h4, .int .i64 h5, .slice a3 c7 b5, .int .i64 e4, .int .i64 e5, .int .i64 e6, .int .i64 e7, .slice a4 c8 b6, .slice a5 c9 b7], false⟩, ⟨bm2, 37, [.int .i64 h6, .int .i64 h7, .int .i64 h8, .int .i64 h9, .int .i64 u0, .int .i64 u1, .int .i64 u2, .int .i64 u3, .int .i64 u4, .int .i64 u5, .slice a6 d0 b8, .int .i64 e8, .int .i64 e9, .int .i64 f0, .int .i64 f1, .slice a7 d1 b9, .slice a8 d2 c0], false⟩, ⟨bm3, 37, [.int .i64 u6, .int .i64 u7, .int .i64 u9, .int .i64 v0, .int .i64 v1, .int .i64 v2, .int .i64 v3, .int .i64 v4, .int .i64 v5, .int .i64 v6, .slice a9 d3 c1, .int .i64 f2, .int .i64 f3, .int .i64 f4, .int .i64 f5, .slice b0 d4 c2, .slice b1 d5 c3], false⟩])
def ygT {A0 A1 A2 A3 A4 A5 A6 A7 A8 A9 A10 A11 A12 A13 A14 A15 A16 A17 A18 A19 A20 A21 A22 A23 A24 A25 A26 A27 A28 A29 A30 A31 A32 A33 A34 A35 A36 A37 A38 A39 A40 A41 A42 A43 A44 A45 A46 A47 A48 A49 A50 A51 A52 A53 A54 A55 A56 A57 A58 A59 A60 A61 A62 A63 A64 A65 A66 A67 A68 A69 A70 A71 A72 A73 A74 A75 A76 A77 A78 A79 A80 A81 A82 A83 A84 A85 A86 A87 A88 A89 A90 A91 A92 A93 A94 A95 A96 A97 A98 A99 A100 A101 A102 A103 A104 A105 A106 A107 A108 A109 : Type} (J : A0 → A1 → A2 → A3 → A4 → A5 → A6 → A7 → A8 → A9 → A10 → A11 → A12 → A13 → A14 → A15 → A16 → A17 → A18 → A19 → A20 → A21 → A22 → A23 → A24 → A25 → A26 → A27 → A28 → A29 → A30 → A31 → A32 → A33 → A34 → A35 → A36 → A37 → A38 → A39 → A40 → A41 → A42 → A43 → A44 → A45 → A46 → A47 → A48 → A49 → A50 → A51 → A52 → A53 → A54 → A55 → A56 → A57 → A58 → A59 → A60 → A61 → A62 → A63 → A64 → A65 → A66 → A67 → A68 → A69 → A70 → A71 → A72 → A73 → A74 → A75 → A76 → A77 → A78 → A79 → A80 → A81 → A82 → A83 → A84 → A85 → A86 → A87 → A88 → A89 → A90 → A91 → A92 → A93 → A94 → A95 → A96 → A97 → A98 → A99 → A100 → A101 → A102 → A103 → A104 → A105 → A106 → A107 → A108 → A109 → World → Prop) : A0 × A1 × A2 × A3 × A4 × A5 × A6 × A7 × A8 × A9 × A10 × A11 × A12 × A13 × A14 × A15 × A16 × A17 × A18 × A19 × A20 × A21 × A22 × A23 × A24 × A25 × A26 × A27 × A28 × A29 × A30 × A31 × A32 × A33 × A34 × A35 × A36 × A37 × A38 × A39 × A40 × A41 × A42 × A43 × A44 × A45 × A46 × A47 × A48 × A49 × A50 × A51 × A52 × A53 × A54 × A55 × A56 × A57 × A58 × A59 × A60 × A61 × A62 × A63 × A64 × A65 × A66 × A67 × A68 × A69 × A70 × A71 × A72 × A73 × A74 × A75 × A76 × A77 × A78 × A79 × A80 × A81 × A82 × A83 × A84 × A85 × A86 × A87 × A88 × A89 × A90 × A91 × A92 × A93 × A94 × A95 × A96 × A97 × A98 × A99 × A100 × A101 × A102 × A103 × A104 × A105 × A106 × A107 × A108 × A109 → World → Prop := fun (a0, a1, a2, a3, a4, a5, a6, a7, a8, a9, c0, c1, c2, c3, c4, c5, c6, c7, c8, c9, d0, d1, d2, d3, d4, d5, d6, d7, d8, d9, e0, e1, e2, e3, e4, e5, e6, e7, e8, e9, f0, f1, f2, f3, f4, f5, f6, f7, f8, f9, g0, g1, g2, g3, g4, g5, g6, g7, g8, g9, h0, h1, h2, h3, h4, h5, h6, h7, h8, h9, u0, u1, u2, u3, u4, u5, u6, u7, u9, v0, v1, v2, v3, v4, v5, v6, v7, v8, v9, w0, w1, w2, w3, w4, w5, w6, w7, w8, w9, x0, b0, b1, b2, b3, b4, b5, b6, b7, b8, b9) w_ => J a0 a1 a2 a3 a4 a5 a6 a7 a8 a9 c0 c1 c2 c3 c4 c5 c6 c7 c8 c9 d0 d1 d2 d3 d4 d5 d6 d7 d8 d9 e0 e1 e2 e3 e4 e5 e6 e7 e8 e9 f0 f1 f2 f3 f4 f5 f6 f7 f8 f9 g0 g1 g2 g3 g4 g5 g6 g7 g8 g9 h0 h1 h2 h3 h4 h5 h6 h7 h8 h9 u0 u1 u2 u3 u4 u5 u6 u7 u9 v0 v1 v2 v3 v4 v5 v6 v7 v8 v9 w0 w1 w2 w3 w4 w5 w6 w7 w8 w9 x0 b0 b1 b2 b3 b4 b5 b6 b7 b8 b9 w_
abbrev ydR (a0 : OA) (a2 a1 : Nat) (a3 : OA) (I : Nat → Option Addr → Int → World → Prop) (m : Nat) : Kh := KG (yhD a0 a2 a1 a3) (U2 I) m
theorem yzT {I : Nat → Option Addr → Int → World → Prop} (m' : Nat) (h1 : m' < m) (h2 : I m' q2 i0 w) : KS (ydR q0 n0 n1 q1 I m) (yhD q0 n0 n1 q1 (q2, i0)) w := ⟨m', h1, _, rfl, rfl, h2⟩
theorem yzU {a7 : OA} {a4 y4 : OA} (I : Nat → Option Addr → Int → World → Prop) (m0 : Nat) (h0 : I m0 y4 i0 w0)
 (hr : ∀ m a5 a9 w, I m a5 a9 w →
 brB (decide (a9 < (n0 : Int))) (
 brB (decide (a9 < 60)) (
 ixA a7 n0 a9 21 fun q7 =>
 yaF .i64 w q7 fun x8 => yaF .i64 w (Addr.add q7 1) fun x9 => yaF .i64 w (Addr.add q7 2) fun b0 => yaF .i64 w (Addr.add q7 3) fun b1 => yaF .i64 w (Addr.add q7 4) fun e5 => yaF .i64 w (Addr.add q7 5) fun e6 => yaF .i64 w (Addr.add q7 6) fun e7 => yaF .i64 w (Addr.add q7 7) fun e8 => yaF .i64 w (Addr.add q7 8) fun e9 => yaF .i64 w (Addr.add q7 9) fun f0 => yaF .i64 w (Addr.add q7 10) fun f1 => yaF .i64 w (Addr.add q7 11) fun f2 => yaF .i64 w (Addr.add q7 12) fun f3 => yaF .i64 w (Addr.add q7 13) fun f4 => yaS w (Addr.add q7 14) fun d6 e2 d9 => yaF .i64 w (Addr.add q7 15) fun f5 => yaF .i64 w (Addr.add q7 16) fun f6 => yaF .i64 w (Addr.add q7 17) fun f8 => yaF .i64 w (Addr.add q7 18) fun f9 => yaS w (Addr.add q7 19) fun d7 e3 e0 => yaS w (Addr.add q7 20) fun d8 e4 e1 =>
 ∀ a3, w.heap.size ≤ a3 →
 ∀ z8, Adv [] [a3] w z8 →
 Calls pP 11 #[(.agg (Z0 e5 e6 e7 e8 e9 f0 f1 f2 f3 f4 d6 e2 d9 f5 f6 f8 f9 d7 e3 e0 d8 e4 e1))] z8 fun e b2 => ∃ c2 c3 c4 c5 c6 c7 c8 c9 d0 d1 b3 b9 b6 d2 d3 d4 d5 b4 c0 b7 b5 c1 b8, e = .returned (.agg (Z0 c2 c3 c4 c5 c6 c7 c8 c9 d0 d1 b3 b9 b6 d2 d3 d4 d5 b4 c0 b7 b5 c1 b8)) ∧ yaD [a3] z8 b2 ∧
 ∀ a2, b2.heap.size ≤ a2 →
 ∀ a0, b2.heap.size ≤ a0 →
 ∀ a1, b2.heap.size ≤ a1 →
 brB (x8 == 0) (
 ∀ z9, Adv [] [a1, a0, a2] b2 z9 →
 Calls pP 12 #[.pointer a5, (.agg (Z0 c2 c3 c4 c5 c6 c7 c8 c9 d0 d1 b3 b9 b6 d2 d3 d4 d5 b4 c0 b7 b5 c1 b8))] z9 fun e aa => ∃ cs ct, e = .returned (.tuple #[.int .i64 cs, .int .i64 ct]) ∧ yaD [a3, a2, a0, a1] z9 aa ∧
 Calls pP 21 #[.pointer a4, (.agg (Z0 c2 c3 c4 c5 c6 c7 c8 c9 d0 d1 b3 b9 b6 d2 d3 d4 d5 b4 c0 b7 b5 c1 b8))] aa fun e cr => ∃ cu cv, e = .returned (.tuple #[.int .i64 cu, .int .i64 cv]) ∧ yaD [a3, a2, a0, a1] aa cr ∧
 yaR ycJ ((ydT 388 [1, 1, 1, 1, 0, 0, 1, 0, 0, 1, 0, 1, 1, 1, 1, 1]) (ydU [1, 1, 1, 1, 1, 0, 1, 0, 0, 1, 0, 0, 1, 1, 1] [(ydR a7 n0 n1 a4 I m)] R)) (ydH (a7, n0, n1, a5, a4, a9, cs, cu, ct, cv, a3, x8, x9, b0, b1, e5, e6, e7, e8, e9, f0, f1, f2, f3, f4, d6, e2, d9, f5, f6, f8, f9, d7, e3, e0, d8, e4, e1, a2, c2, c3, c4, c5, c6, c7, c8, c9, d0, d1, b3, b9, b6, d2, d3, d4, d5, b4, c0, b7, b5, c1, b8, a0, 0, 0, 0, 0, 0, 0, 0, 0, 0, 0, none, 0, 0, 0, 0, 0, 0, none, 0, 0, none, 0, 0, a1, 0, 0, 0, 0, 0, 0, 0, 0, 0, 0, none, 0, 0, 0, 0, 0, 0, none, 0, 0, none, 0, 0)) cr)
 (
 brB (x8 == 1) (
 ∀ g2, Adv [] [a1, a0, a2] b2 g2 →
 Calls pP 15 #[.pointer a5, .int .i64 x9] g2 fun e y7 => ∃ ab ac ad ae af ag ah ai aj ak u4 x0 v7 am an ao ap u5 x1 v8 u6 x2 v9 aq, e = .returned (.tuple #[(.agg (Z0 ab ac ad ae af ag ah ai aj ak u4 x0 v7 am an ao ap u5 x1 v8 u6 x2 v9)), .int .i64 aq]) ∧ yaD [a3, a2, a0, a1] g2 y7 ∧
 ∀ g3, Adv [a0] [] y7 g3 →
 Calls pP 22 #[.pointer a4, .int .i64 x9] g3 fun e y8 => ∃ ar au av aw ax ay az ba bb bc u7 x3 w1 bd be bf bg u9 x4 w2 v0 x5 w3 bh, e = .returned (.tuple #[(.agg (Z0 ar au av aw ax ay az ba bb bc u7 x3 w1 bd be bf bg u9 x4 w2 v0 x5 w3)), .int .i64 bh]) ∧ yaD [a3, a2, a0, a1] g3 y8 ∧
 ∀ y9, Adv [a1] [] y8 y9 →
 yaR ycJ ((ydT 388 [1, 1, 1, 1, 0, 0, 1, 0, 0, 1, 0, 1, 1, 1, 1, 1]) (ydU [1, 1, 1, 1, 1, 0, 1, 0, 0, 1, 0, 0, 1, 1, 1] [(ydR a7 n0 n1 a4 I m)] R)) (ydH (a7, n0, n1, a5, a4, a9, 0, 0, aq, bh, a3, x8, x9, b0, b1, e5, e6, e7, e8, e9, f0, f1, f2, f3, f4, d6, e2, d9, f5, f6, f8, f9, d7, e3, e0, d8, e4, e1, a2, c2, c3, c4, c5, c6, c7, c8, c9, d0, d1, b3, b9, b6, d2, d3, d4, d5, b4, c0, b7, b5, c1, b8, a0, ab, ac, ad, ae, af, ag, ah, ai, aj, ak, u4, x0, v7, am, an, ao, ap, u5, x1, v8, u6, x2, v9, a1, ar, au, av, aw, ax, ay, az, ba, bb, bc, u7, x3, w1, bd, be, bf, bg, u9, x4, w2, v0, x5, w3)) y9)
 (
 brB (x8 == 2) (
 ∀ g4, Adv [] [a1, a0, a2] b2 g4 →
 Calls pP 13 #[.pointer a5, .int .i64 x9] g4 fun e z0 => ∃ bi bj bk bl bm bn bo bp bq br v1 x6 w4 bt bu bv bw v2 x7 w5 v3 y0 w6 bx, e = .returned (.tuple #[(.agg (Z0 bi bj bk bl bm bn bo bp bq br v1 x6 w4 bt bu bv bw v2 x7 w5 v3 y0 w6)), .int .i64 bx]) ∧ yaD [a3, a2, a0, a1] g4 z0 ∧
 ∀ g5, Adv [a0] [] z0 g5 →
 Calls pP 23 #[.pointer a4, .int .i64 x9] g5 fun e z1 => ∃ bz ca cb cc cd ce cf ch ci cj v4 y1 w7 ck cl cm cn v5 y2 w8 v6 y3 w9 co, e = .returned (.tuple #[(.agg (Z0 bz ca cb cc cd ce cf ch ci cj v4 y1 w7 ck cl cm cn v5 y2 w8 v6 y3 w9)), .int .i64 co]) ∧ yaD [a3, a2, a0, a1] g5 z1 ∧
 ∀ z2, Adv [a1] [] z1 z2 →
 yaR ycJ ((ydT 388 [1, 1, 1, 1, 0, 0, 1, 0, 0, 1, 0, 1, 1, 1, 1, 1]) (ydU [1, 1, 1, 1, 1, 0, 1, 0, 0, 1, 0, 0, 1, 1, 1] [(ydR a7 n0 n1 a4 I m)] R)) (ydH (a7, n0, n1, a5, a4, a9, 0, 0, bx, co, a3, x8, x9, b0, b1, e5, e6, e7, e8, e9, f0, f1, f2, f3, f4, d6, e2, d9, f5, f6, f8, f9, d7, e3, e0, d8, e4, e1, a2, c2, c3, c4, c5, c6, c7, c8, c9, d0, d1, b3, b9, b6, d2, d3, d4, d5, b4, c0, b7, b5, c1, b8, a0, bi, bj, bk, bl, bm, bn, bo, bp, bq, br, v1, x6, w4, bt, bu, bv, bw, v2, x7, w5, v3, y0, w6, a1, bz, ca, cb, cc, cd, ce, cf, ch, ci, cj, v4, y1, w7, ck, cl, cm, cn, v5, y2, w8, v6, y3, w9)) z2)
 (
 brB (x8 == 3) (
 ∀ g6, Adv [] [a1, a0, a2] b2 g6 →
 Calls pP 19 #[.pointer a5, .int .i64 x9] g6 fun e g7 => ∃ cp, e = .returned (.int .i64 cp) ∧ yaD [a3, a2, a0, a1] g6 g7 ∧
 Calls pP 24 #[.pointer a4, .int .i64 x9] g7 fun e z3 => ∃ cq, e = .returned (.int .i64 cq) ∧ yaD [a3, a2, a0, a1] g7 z3 ∧
 yaR ycJ ((ydT 388 [1, 1, 1, 1, 0, 0, 1, 0, 0, 1, 0, 1, 1, 1, 1, 1]) (ydU [1, 1, 1, 1, 1, 0, 1, 0, 0, 1, 0, 0, 1, 1, 1] [(ydR a7 n0 n1 a4 I m)] R)) (ydH (a7, n0, n1, a5, a4, a9, 0, 0, cp, cq, a3, x8, x9, b0, b1, e5, e6, e7, e8, e9, f0, f1, f2, f3, f4, d6, e2, d9, f5, f6, f8, f9, d7, e3, e0, d8, e4, e1, a2, c2, c3, c4, c5, c6, c7, c8, c9, d0, d1, b3, b9, b6, d2, d3, d4, d5, b4, c0, b7, b5, c1, b8, a0, 0, 0, 0, 0, 0, 0, 0, 0, 0, 0, none, 0, 0, 0, 0, 0, 0, none, 0, 0, none, 0, 0, a1, 0, 0, 0, 0, 0, 0, 0, 0, 0, 0, none, 0, 0, 0, 0, 0, 0, none, 0, 0, none, 0, 0)) z3)
 (
 brB (x8 == 4) (
 brB (x8 == 4) (
 ∀ g8, Adv [] [a1, a0, a2] b2 g8 →
 Calls pP 16 (Z13 a5 b0 b1 (x8 == 4)) g8 fun e g9 => e = .returned (.tuple #[]) ∧ yaD [a3, a2, a0, a1] g8 g9 ∧
 Calls pP 25 (Z13 a4 b0 b1 (x8 == 4)) g9 fun e z4 => e = .returned (.tuple #[]) ∧ yaD [a3, a2, a0, a1] g9 z4 ∧
 yaR ycJ ((ydT 388 [1, 1, 1, 1, 0, 0, 1, 0, 0, 1, 0, 1, 1, 1, 1, 1]) (ydU [1, 1, 1, 1, 1, 0, 1, 0, 0, 1, 0, 0, 1, 1, 1] [(ydR a7 n0 n1 a4 I m)] R)) (ydH (a7, n0, n1, a5, a4, a9, 0, 0, 0, 0, a3, x8, x9, b0, b1, e5, e6, e7, e8, e9, f0, f1, f2, f3, f4, d6, e2, d9, f5, f6, f8, f9, d7, e3, e0, d8, e4, e1, a2, c2, c3, c4, c5, c6, c7, c8, c9, d0, d1, b3, b9, b6, d2, d3, d4, d5, b4, c0, b7, b5, c1, b8, a0, 0, 0, 0, 0, 0, 0, 0, 0, 0, 0, none, 0, 0, 0, 0, 0, 0, none, 0, 0, none, 0, 0, a1, 0, 0, 0, 0, 0, 0, 0, 0, 0, 0, none, 0, 0, 0, 0, 0, 0, none, 0, 0, none, 0, 0)) z4)
 (
 brB (x8 == 6) (
 ∀ h1, Adv [] [a1, a0, a2] b2 h1 →
 Calls pP 26 #[.pointer a5] h1 fun e h2 => ∃ g0, e = .returned (.pointer g0) ∧ yaD [a3, a2, a0, a1] h1 h2 ∧
 Calls pP 12 #[.pointer a5, (.agg (Z0 0 0 0 0 0 0 0 0 0 0 none 0 0 0 0 0 0 none 0 0 none 0 0))] h2 fun e h3 => ∃ cy cz, e = .returned (.tuple #[.int .i64 cy, .int .i64 cz]) ∧ yaD [a3, a2, a0, a1] h2 h3 ∧
 Calls pP 19 #[.pointer a5, .int .i64 x9] h3 fun e h4 => ∃ da, e = .returned (.int .i64 da) ∧ yaD [a3, a2, a0, a1] h3 h4 ∧
 Calls pP 16 (Z13 a5 b0 b1 true) h4 fun e h5 => e = .returned (.tuple #[]) ∧ yaD [a3, a2, a0, a1] h4 h5 ∧
 brB (Option.isNone g0) (
 R (.bool false) h5)
 (
 yaR ycJ ((ydT 388 [1, 1, 1, 1, 0, 0, 1, 0, 0, 1, 0, 1, 1, 1, 1, 1]) (ydU [1, 1, 1, 1, 1, 0, 1, 0, 0, 1, 0, 0, 1, 1, 1] [(ydR a7 n0 n1 a4 I m)] R)) (ydH (a7, n0, n1, g0, a4, a9, 0, 0, 0, 0, a3, x8, x9, b0, b1, e5, e6, e7, e8, e9, f0, f1, f2, f3, f4, d6, e2, d9, f5, f6, f8, f9, d7, e3, e0, d8, e4, e1, a2, c2, c3, c4, c5, c6, c7, c8, c9, d0, d1, b3, b9, b6, d2, d3, d4, d5, b4, c0, b7, b5, c1, b8, a0, 0, 0, 0, 0, 0, 0, 0, 0, 0, 0, none, 0, 0, 0, 0, 0, 0, none, 0, 0, none, 0, 0, a1, 0, 0, 0, 0, 0, 0, 0, 0, 0, 0, none, 0, 0, 0, 0, 0, 0, none, 0, 0, none, 0, 0)) h5))
 (
 ∀ z5, Adv [] [a1, a0, a2] b2 z5 →
 yaR ycJ ((ydT 388 [1, 1, 1, 1, 0, 0, 1, 0, 0, 1, 0, 1, 1, 1, 1, 1]) (ydU [1, 1, 1, 1, 1, 0, 1, 0, 0, 1, 0, 0, 1, 1, 1] [(ydR a7 n0 n1 a4 I m)] R)) (ydH (a7, n0, n1, a5, a4, a9, 0, 0, 0, 0, a3, x8, x9, b0, b1, e5, e6, e7, e8, e9, f0, f1, f2, f3, f4, d6, e2, d9, f5, f6, f8, f9, d7, e3, e0, d8, e4, e1, a2, c2, c3, c4, c5, c6, c7, c8, c9, d0, d1, b3, b9, b6, d2, d3, d4, d5, b4, c0, b7, b5, c1, b8, a0, 0, 0, 0, 0, 0, 0, 0, 0, 0, 0, none, 0, 0, 0, 0, 0, 0, none, 0, 0, none, 0, 0, a1, 0, 0, 0, 0, 0, 0, 0, 0, 0, 0, none, 0, 0, 0, 0, 0, 0, none, 0, 0, none, 0, 0)) z5)))
 (
 brB (x8 == 5) (
 ∀ h6, Adv [] [a1, a0, a2] b2 h6 →
 Calls pP 16 (Z13 a5 b0 b1 (x8 == 4)) h6 fun e h7 => e = .returned (.tuple #[]) ∧ yaD [a3, a2, a0, a1] h6 h7 ∧
 Calls pP 25 (Z13 a4 b0 b1 (x8 == 4)) h7 fun e z6 => e = .returned (.tuple #[]) ∧ yaD [a3, a2, a0, a1] h7 z6 ∧
 yaR ycJ ((ydT 388 [1, 1, 1, 1, 0, 0, 1, 0, 0, 1, 0, 1, 1, 1, 1, 1]) (ydU [1, 1, 1, 1, 1, 0, 1, 0, 0, 1, 0, 0, 1, 1, 1] [(ydR a7 n0 n1 a4 I m)] R)) (ydH (a7, n0, n1, a5, a4, a9, 0, 0, 0, 0, a3, x8, x9, b0, b1, e5, e6, e7, e8, e9, f0, f1, f2, f3, f4, d6, e2, d9, f5, f6, f8, f9, d7, e3, e0, d8, e4, e1, a2, c2, c3, c4, c5, c6, c7, c8, c9, d0, d1, b3, b9, b6, d2, d3, d4, d5, b4, c0, b7, b5, c1, b8, a0, 0, 0, 0, 0, 0, 0, 0, 0, 0, 0, none, 0, 0, 0, 0, 0, 0, none, 0, 0, none, 0, 0, a1, 0, 0, 0, 0, 0, 0, 0, 0, 0, 0, none, 0, 0, 0, 0, 0, 0, none, 0, 0, none, 0, 0)) z6)
 (
 brB (x8 == 6) (
 ∀ h8, Adv [] [a1, a0, a2] b2 h8 →
 Calls pP 26 #[.pointer a5] h8 fun e h9 => ∃ g1, e = .returned (.pointer g1) ∧ yaD [a3, a2, a0, a1] h8 h9 ∧
 Calls pP 12 #[.pointer a5, (.agg (Z0 0 0 0 0 0 0 0 0 0 0 none 0 0 0 0 0 0 none 0 0 none 0 0))] h9 fun e u0 => ∃ db dc, e = .returned (.tuple #[.int .i64 db, .int .i64 dc]) ∧ yaD [a3, a2, a0, a1] h9 u0 ∧
 Calls pP 19 #[.pointer a5, .int .i64 x9] u0 fun e u1 => ∃ dd, e = .returned (.int .i64 dd) ∧ yaD [a3, a2, a0, a1] u0 u1 ∧
 Calls pP 16 (Z13 a5 b0 b1 true) u1 fun e u2 => e = .returned (.tuple #[]) ∧ yaD [a3, a2, a0, a1] u1 u2 ∧
 brB (Option.isNone g1) (
 R (.bool false) u2)
 (
 yaR ycJ ((ydT 388 [1, 1, 1, 1, 0, 0, 1, 0, 0, 1, 0, 1, 1, 1, 1, 1]) (ydU [1, 1, 1, 1, 1, 0, 1, 0, 0, 1, 0, 0, 1, 1, 1] [(ydR a7 n0 n1 a4 I m)] R)) (ydH (a7, n0, n1, g1, a4, a9, 0, 0, 0, 0, a3, x8, x9, b0, b1, e5, e6, e7, e8, e9, f0, f1, f2, f3, f4, d6, e2, d9, f5, f6, f8, f9, d7, e3, e0, d8, e4, e1, a2, c2, c3, c4, c5, c6, c7, c8, c9, d0, d1, b3, b9, b6, d2, d3, d4, d5, b4, c0, b7, b5, c1, b8, a0, 0, 0, 0, 0, 0, 0, 0, 0, 0, 0, none, 0, 0, 0, 0, 0, 0, none, 0, 0, none, 0, 0, a1, 0, 0, 0, 0, 0, 0, 0, 0, 0, 0, none, 0, 0, 0, 0, 0, 0, none, 0, 0, none, 0, 0)) u2))
 (
 ∀ z7, Adv [] [a1, a0, a2] b2 z7 →
 yaR ycJ ((ydT 388 [1, 1, 1, 1, 0, 0, 1, 0, 0, 1, 0, 1, 1, 1, 1, 1]) (ydU [1, 1, 1, 1, 1, 0, 1, 0, 0, 1, 0, 0, 1, 1, 1] [(ydR a7 n0 n1 a4 I m)] R)) (ydH (a7, n0, n1, a5, a4, a9, 0, 0, 0, 0, a3, x8, x9, b0, b1, e5, e6, e7, e8, e9, f0, f1, f2, f3, f4, d6, e2, d9, f5, f6, f8, f9, d7, e3, e0, d8, e4, e1, a2, c2, c3, c4, c5, c6, c7, c8, c9, d0, d1, b3, b9, b6, d2, d3, d4, d5, b4, c0, b7, b5, c1, b8, a0, 0, 0, 0, 0, 0, 0, 0, 0, 0, 0, none, 0, 0, 0, 0, 0, 0, none, 0, 0, none, 0, 0, a1, 0, 0, 0, 0, 0, 0, 0, 0, 0, 0, none, 0, 0, 0, 0, 0, 0, none, 0, 0, none, 0, 0)) z7))))))))
 (
 Calls pP 9 #[] w fun e cw => ∃ y5, e = .returned (.bool y5) ∧
 R (.bool y5) cw))
 (
 Calls pP 9 #[] w fun e cx => ∃ y6, e = .returned (.bool y6) ∧
 R (.bool y6) cx)) :
 yaJ yqA (ydT 393 [0, 0, 1, 0, 1, 1, 1, 1, 1]) (ydU [1, 1, 1, 1, 1, 0, 1, 0] [] R) (yhD a7 n0 n1 a4 (y4, i0)) w0 :=
 lrule (yhD a7 n0 n1 a4) (U2 I) h0 (by rintro m ⟨a5, a9⟩ w h; exact ⟨by kernel_rfl, by kernel_rfl, fun js => Eq.mpr (by kernel_rfl) (hr m a5 a9 w h)⟩)
def ylI (z4 : OA) (z6 z5 : Nat) (e8 e9 : OA) (y9 z0 z1 z2 z3 : Int) (bm0 : Nat) (v2 v3 a0 a1 v4 v5 v6 v7 v8 v9 h2 h3 h4 h5 : Int) (f3 : OA) (g6 g0 : Nat) (h6 h7 h8 h9 : Int) (f4 : OA) (g7 g1 : Nat) (f5 : OA) (g8 g2 bm1 : Nat) (w0 w1 w2 w3 w4 w5 w6 w7 w8 w9 : Int) (f6 : OA) (g9 g3 : Nat) (u0 u1 u2 u3 : Int) (f8 : OA) (h0 g4 : Nat) (f9 : OA) (h1 g5 bm2 : Nat) (c8 c9 d0 d1 d2 d3 d4 d5 d6 d7 : Int) (a2 : OA) (b4 a8 : Nat) (c0 c1 c2 c3 : Int) (a3 : OA) (b5 a9 : Nat) (a4 : OA) (b6 b0 bm3 : Nat) (d8 d9 e0 e1 e2 e3 e4 e5 e6 e7 : Int) (a5 : OA) (b7 b1 : Nat) (c4 c5 c6 c7 : Int) (a6 : OA) (b8 b2 : Nat) (a7 : OA) (b9 b3 : Nat) (K1 : Kh) (R : VWP) (w : World) : Prop :=
 brB (z0 != z1) (
 ∀ y7, Adv [] [] w y7 →
 R (.bool false) y7)
 (
 brB (z2 != z3) (
 ∀ y8, Adv [] [] w y8 →
 R (.bool false) y8)
 (
 ∀ u4, Adv [] [] w u4 →
 Calls pP 14 #[(.agg (Z0 c8 c9 d0 d1 d2 d3 d4 d5 d6 d7 a2 b4 a8 c0 c1 c2 c3 a3 b5 a9 a4 b6 b0)), (.agg (Z0 d8 d9 e0 e1 e2 e3 e4 e5 e6 e7 a5 b7 b1 c4 c5 c6 c7 a6 b8 b2 a7 b9 b3))] u4 fun e f0 => ∃ y2, e = .returned (.bool y2) ∧ yaD [bm0, bm1, bm2, bm3] u4 f0 ∧
 brB (!y2) (
 R (.bool false) f0)
 (
 Calls pP 17 (Z11 e8 a0 a1) f0 fun e u5 => ∃ y3, e = .returned (.bool y3) ∧ yaD [bm0, bm1, bm2, bm3] f0 u5 ∧ (((.int .i64 a1) : Value) = (.int .i64 a1)) ∧ (((.int .i64 a0) : Value) = (.int .i64 a0)) ∧
 Calls pP 27 (Z11 e9 a0 a1) u5 fun e f1 => ∃ y4, e = .returned (.bool y4) ∧ yaD [bm0, bm1, bm2, bm3] u5 f1 ∧
 brB (!(y3 == y4)) (
 R (.bool false) f1)
 (
 Calls pP 10 #[.pointer e8] f1 fun e u6 => ∃ x0 x8 x4, e = .returned (.slice x0 x8 x4) ∧ yaD [bm0, bm1, bm2, bm3] f1 u6 ∧
 Calls pP 29 #[.pointer e9] u6 fun e u7 => ∃ x1 x9 x5, e = .returned (.slice x1 x9 x5) ∧ yaD [bm0, bm1, bm2, bm3] u6 u7 ∧
 Calls pP 28 #[.slice x0 x8 x4, .slice x1 x9 x5] u7 fun e f2 => ∃ y5, e = .returned (.bool y5) ∧ yaD [bm0, bm1, bm2, bm3] u7 f2 ∧
 brB (!y5) (
 R (.bool false) f2)
 (
 Calls pP 18 #[.pointer e8] f2 fun e u9 => ∃ x2 y0 x6, e = .returned (.slice x2 y0 x6) ∧ yaD [bm0, bm1, bm2, bm3] f2 u9 ∧
 Calls pP 30 #[.pointer e9] u9 fun e v0 => ∃ x3 y1 x7, e = .returned (.slice x3 y1 x7) ∧ yaD [bm0, bm1, bm2, bm3] u9 v0 ∧
 Calls pP 28 #[.slice x2 y0 x6, .slice x3 y1 x7] v0 fun e v1 => ∃ y6, e = .returned (.bool y6) ∧ yaD [bm0, bm1, bm2, bm3] v0 v1 ∧
 brB (!y6) (
 R (.bool false) v1)
 (
 yaJ yqB (ydT 385 [0, 0, 1, 1, 1, 1, 1, 1, 0, 0, 1, 0, 0, 1, 0, 1, 1, 1, 1, 1]) (ydU [1, 1, 1, 1, 1, 0, 1, 0, 0, 1, 0, 0, 1, 1, 1, 1, 1, 1, 0] [K1] R) (yi7 z4 z6 z5 e8 e9 y9 bm0 v2 v3 a0 a1 v4 v5 v6 v7 v8 v9 h2 h3 h4 h5 f3 g6 g0 h6 h7 h8 h9 f4 g7 g1 f5 g8 g2 bm1 w0 w1 w2 w3 w4 w5 w6 w7 w8 w9 f6 g9 g3 u0 u1 u2 u3 f8 h0 g4 f9 h1 g5 bm2 c8 c9 d0 d1 d2 d3 d4 d5 d6 d7 a2 b4 a8 c0 c1 c2 c3 a3 b5 a9 a4 b6 b0 bm3 d8 d9 e0 e1 e2 e3 e4 e5 e6 e7 a5 b7 b1 c4 c5 c6 c7 a6 b8 b2 a7 b9 b3 0) v1))))))
theorem yDi {bm bn bo bp bq br bt bu bv bw : Int} {ai aj ak am : Int} {bx bz ca cb cc cd ce cf ch ci : Int} {an ao ap aq : Int} {K1 : Kh} (J : Option Addr → Nat → Nat → Option Addr → Option Addr → Int → Int → Int → Int → Int → Nat → Int → Int → Int → Int → Int → Int → Int → Int → Int → Int → Int → Int → Int → Int → Option Addr → Nat → Nat → Int → Int → Int → Int → Option Addr → Nat → Nat → Option Addr → Nat → Nat → Nat → Int → Int → Int → Int → Int → Int → Int → Int → Int → Int → Option Addr → Nat → Nat → Int → Int → Int → Int → Option Addr → Nat → Nat → Option Addr → Nat → Nat → Nat → Int → Int → Int → Int → Int → Int → Int → Int → Int → Int → Option Addr → Nat → Nat → Int → Int → Int → Int → Option Addr → Nat → Nat → Option Addr → Nat → Nat → Nat → Int → Int → Int → Int → Int → Int → Int → Int → Int → Int → Option Addr → Nat → Nat → Int → Int → Int → Int → Option Addr → Nat → Nat → Option Addr → Nat → Nat → World → Prop) (h0 : J q0 n0 n1 q1 q2 i0 i1 i2 i3 i4 n2 i5 i6 i7 i8 i9 j0 j1 j2 j3 j4 j5 j6 j7 j8 q3 n3 n4 j9 k0 k1 k2 q4 n5 n6 q5 n7 n8 n9 k3 k4 k5 k6 k7 k8 k9 l0 l1 l2 q6 o0 o1 l3 l4 l5 l6 q7 o2 o3 q8 o4 o5 o6 bm bn bo bp bq br bt bu bv bw q9 o7 o8 ai aj ak am r0 o9 p0 r1 p1 p2 p3 bx bz ca cb cc cd ce cf ch ci r2 p4 p5 an ao ap aq r3 p6 p7 r4 p8 p9 w0)
 (hr : ∀ co cq cp cr cs cj ck cl cm cn bm0 f6 f8 f9 g0 g1 g2 g3 g4 g5 g6 i6 d7 d8 d9 a1 c5 b3 e0 e1 e2 e3 a2 c6 b4 a3 c7 b5 bm1 g7 g8 g9 h1 h2 h3 h4 h5 h6 h7 a4 c8 b6 e4 e5 e6 e7 a5 c9 b7 a6 d0 b8 bm2 h8 h9 u0 u1 u2 u3 u4 u5 u6 u7 a7 d1 b9 e8 e9 f0 f1 a8 d2 c0 a9 d3 c1 bm3 u9 v0 v1 v2 v3 v4 v5 v6 v7 v8 b0 d4 c2 f2 f3 f4 f5 b1 d5 c3 b2 d6 c4 w, J co cq cp cr cs cj ck cl cm cn bm0 f6 f8 f9 g0 g1 g2 g3 g4 g5 g6 i6 d7 d8 d9 a1 c5 b3 e0 e1 e2 e3 a2 c6 b4 a3 c7 b5 bm1 g7 g8 g9 h1 h2 h3 h4 h5 h6 h7 a4 c8 b6 e4 e5 e6 e7 a5 c9 b7 a6 d0 b8 bm2 h8 h9 u0 u1 u2 u3 u4 u5 u6 u7 a7 d1 b9 e8 e9 f0 f1 a8 d2 c0 a9 d3 c1 bm3 u9 v0 v1 v2 v3 v4 v5 v6 v7 v8 b0 d4 c2 f2 f3 f4 f5 b1 d5 c3 b2 d6 c4 w → ylI co cq cp cr cs cj ck cl cm cn bm0 f6 f8 f9 g0 g1 g2 g3 g4 g5 g6 i6 d7 d8 d9 a1 c5 b3 e0 e1 e2 e3 a2 c6 b4 a3 c7 b5 bm1 g7 g8 g9 h1 h2 h3 h4 h5 h6 h7 a4 c8 b6 e4 e5 e6 e7 a5 c9 b7 a6 d0 b8 bm2 h8 h9 u0 u1 u2 u3 u4 u5 u6 u7 a7 d1 b9 e8 e9 f0 f1 a8 d2 c0 a9 d3 c1 bm3 u9 v0 v1 v2 v3 v4 v5 v6 v7 v8 b0 d4 c2 f2 f3 f4 f5 b1 d5 c3 b2 d6 c4 K1 R w) :
 yaR ycJ ((ydT 388 [1, 1, 1, 1, 0, 0, 1, 0, 0, 1, 0, 1, 1, 1, 1, 1]) (ydU [1, 1, 1, 1, 1, 0, 1, 0, 0, 1, 0, 0, 1, 1, 1] [K1] R)) (ydH (q0, n0, n1, q1, q2, i0, i1, i2, i3, i4, n2, i5, i6, i7, i8, i9, j0, j1, j2, j3, j4, j5, j6, j7, j8, q3, n3, n4, j9, k0, k1, k2, q4, n5, n6, q5, n7, n8, n9, k3, k4, k5, k6, k7, k8, k9, l0, l1, l2, q6, o0, o1, l3, l4, l5, l6, q7, o2, o3, q8, o4, o5, o6, bm, bn, bo, bp, bq, br, bt, bu, bv, bw, q9, o7, o8, ai, aj, ak, am, r0, o9, p0, r1, p1, p2, p3, bx, bz, ca, cb, cc, cd, ce, cf, ch, ci, r2, p4, p5, an, ao, ap, aq, r3, p6, p7, r4, p8, p9)) w0 :=
 crule (ydH) (ygT J) h0 (by rintro ⟨co, cq, cp, cr, cs, cj, ck, cl, cm, cn, bm0, f6, f8, f9, g0, g1, g2, g3, g4, g5, g6, i6, d7, d8, d9, a1, c5, b3, e0, e1, e2, e3, a2, c6, b4, a3, c7, b5, bm1, g7, g8, g9, h1, h2, h3, h4, h5, h6, h7, a4, c8, b6, e4, e5, e6, e7, a5, c9, b7, a6, d0, b8, bm2, h8, h9, u0, u1, u2, u3, u4, u5, u6, u7, a7, d1, b9, e8, e9, f0, f1, a8, d2, c0, a9, d3, c1, bm3, u9, v0, v1, v2, v3, v4, v5, v6, v7, v8, b0, d4, c2, f2, f3, f4, f5, b1, d5, c3, b2, d6, c4⟩ w h; exact ⟨by kernel_rfl, by kernel_rfl, fun js => Eq.mpr (by kernel_rfl) (hr co cq cp cr cs cj ck cl cm cn bm0 f6 f8 f9 g0 g1 g2 g3 g4 g5 g6 i6 d7 d8 d9 a1 c5 b3 e0 e1 e2 e3 a2 c6 b4 a3 c7 b5 bm1 g7 g8 g9 h1 h2 h3 h4 h5 h6 h7 a4 c8 b6 e4 e5 e6 e7 a5 c9 b7 a6 d0 b8 bm2 h8 h9 u0 u1 u2 u3 u4 u5 u6 u7 a7 d1 b9 e8 e9 f0 f1 a8 d2 c0 a9 d3 c1 bm3 u9 v0 v1 v2 v3 v4 v5 v6 v7 v8 b0 d4 c2 f2 f3 f4 f5 b1 d5 c3 b2 d6 c4 w h)⟩)
theorem ydZ {y6 y7 z2 z3 z4 z5 z6 z7 z8 z9 : Int} {e8 e9 f0 f1 : Int} {aa ab ag ah ai aj ak am an ao : Int} {f2 f3 f4 f5 : Int} {K1 : Kh} (h : ylI q0 n0 n1 q1 q2 i0 i1 i2 i3 i4 n2 i5 i6 i7 i8 i9 j0 j1 j2 j3 j4 j5 j6 j7 j8 q3 n3 n4 j9 k0 k1 k2 q4 n5 n6 q5 n7 n8 n9 k3 k4 k5 k6 k7 k8 k9 l0 l1 l2 q6 o0 o1 l3 l4 l5 l6 q7 o2 o3 q8 o4 o5 o6 y6 y7 z2 z3 z4 z5 z6 z7 z8 z9 q9 o7 o8 e8 e9 f0 f1 r0 o9 p0 r1 p1 p2 p3 aa ab ag ah ai aj ak am an ao r2 p4 p5 f2 f3 f4 f5 r3 p6 p7 r4 p8 p9 K1 R w) :
 yaR ycJ ((ydT 388 [1, 1, 1, 1, 0, 0, 1, 0, 0, 1, 0, 1, 1, 1, 1, 1]) (ydU [1, 1, 1, 1, 1, 0, 1, 0, 0, 1, 0, 0, 1, 1, 1] [K1] R)) (ydH (q0, n0, n1, q1, q2, i0, i1, i2, i3, i4, n2, i5, i6, i7, i8, i9, j0, j1, j2, j3, j4, j5, j6, j7, j8, q3, n3, n4, j9, k0, k1, k2, q4, n5, n6, q5, n7, n8, n9, k3, k4, k5, k6, k7, k8, k9, l0, l1, l2, q6, o0, o1, l3, l4, l5, l6, q7, o2, o3, q8, o4, o5, o6, y6, y7, z2, z3, z4, z5, z6, z7, z8, z9, q9, o7, o8, e8, e9, f0, f1, r0, o9, p0, r1, p1, p2, p3, aa, ab, ag, ah, ai, aj, ak, am, an, ao, r2, p4, p5, f2, f3, f4, f5, r3, p6, p7, r4, p8, p9)) w :=
 yDi (fun ct cx cv cz db cn co cp cq cr bm0' ap aq ar au av aw ax ay az ba v6 v7 v8 v9 f6 u1 g9 w0 w1 w2 w3 f8 u2 h0 f9 u3 h1 bm1' bb bc bd be bf bg bh bi bj bk g0 u4 h2 x4 x5 x6 x7 g1 u5 h3 g2 u6 h4 bm2' bl bm bn bo bp bq br bt bu bv g3 u7 h5 y8 y9 z0 z1 g4 u9 h6 g5 v0 h7 bm3' bw bx bz ca cb cc cd ce cf ch g6 v1 h8 ac ad ae af g7 v2 h9 g8 v3 u0 w' => ct = q0 ∧ cx = n0 ∧ cv = n1 ∧ cz = q1 ∧ db = q2 ∧ cn = i0 ∧ co = i1 ∧ cp = i2 ∧ cq = i3 ∧ cr = i4 ∧ bm0' = n2 ∧ ap = i5 ∧ aq = i6 ∧ ar = i7 ∧ au = i8 ∧ av = i9 ∧ aw = j0 ∧ ax = j1 ∧ ay = j2 ∧ az = j3 ∧ ba = j4 ∧ v6 = j5 ∧ v7 = j6 ∧ v8 = j7 ∧ v9 = j8 ∧ f6 = q3 ∧ u1 = n3 ∧ g9 = n4 ∧ w0 = j9 ∧ w1 = k0 ∧ w2 = k1 ∧ w3 = k2 ∧ f8 = q4 ∧ u2 = n5 ∧ h0 = n6 ∧ f9 = q5 ∧ u3 = n7 ∧ h1 = n8 ∧ bm1' = n9 ∧ bb = k3 ∧ bc = k4 ∧ bd = k5 ∧ be = k6 ∧ bf = k7 ∧ bg = k8 ∧ bh = k9 ∧ bi = l0 ∧ bj = l1 ∧ bk = l2 ∧ g0 = q6 ∧ u4 = o0 ∧ h2 = o1 ∧ x4 = l3 ∧ x5 = l4 ∧ x6 = l5 ∧ x7 = l6 ∧ g1 = q7 ∧ u5 = o2 ∧ h3 = o3 ∧ g2 = q8 ∧ u6 = o4 ∧ h4 = o5 ∧ bm2' = o6 ∧ bl = y6 ∧ bm = y7 ∧ bn = z2 ∧ bo = z3 ∧ bp = z4 ∧ bq = z5 ∧ br = z6 ∧ bt = z7 ∧ bu = z8 ∧ bv = z9 ∧ g3 = q9 ∧ u7 = o7 ∧ h5 = o8 ∧ y8 = e8 ∧ y9 = e9 ∧ z0 = f0 ∧ z1 = f1 ∧ g4 = r0 ∧ u9 = o9 ∧ h6 = p0 ∧ g5 = r1 ∧ v0 = p1 ∧ h7 = p2 ∧ bm3' = p3 ∧ bw = aa ∧ bx = ab ∧ bz = ag ∧ ca = ah ∧ cb = ai ∧ cc = aj ∧ cd = ak ∧ ce = am ∧ cf = an ∧ ch = ao ∧ g6 = r2 ∧ v1 = p4 ∧ h8 = p5 ∧ ac = f2 ∧ ad = f3 ∧ ae = f4 ∧ af = f5 ∧ g7 = r3 ∧ v2 = p6 ∧ h9 = p7 ∧ g8 = r4 ∧ v3 = p8 ∧ u0 = p9 ∧ w' = w) ⟨rfl, rfl, rfl, rfl, rfl, rfl, rfl, rfl, rfl, rfl, rfl, rfl, rfl, rfl, rfl, rfl, rfl, rfl, rfl, rfl, rfl, rfl, rfl, rfl, rfl, rfl, rfl, rfl, rfl, rfl, rfl, rfl, rfl, rfl, rfl, rfl, rfl, rfl, rfl, rfl, rfl, rfl, rfl, rfl, rfl, rfl, rfl, rfl, rfl, rfl, rfl, rfl, rfl, rfl, rfl, rfl, rfl, rfl, rfl, rfl, rfl, rfl, rfl, rfl, rfl, rfl, rfl, rfl, rfl, rfl, rfl, rfl, rfl, rfl, rfl, rfl, rfl, rfl, rfl, rfl, rfl, rfl, rfl, rfl, rfl, rfl, rfl, rfl, rfl, rfl, rfl, rfl, rfl, rfl, rfl, rfl, rfl, rfl, rfl, rfl, rfl, rfl, rfl, rfl, rfl, rfl, rfl, rfl, rfl, rfl, rfl⟩ (by rintro ct cx cv cz db cn co cp cq cr bm0' ap aq ar au av aw ax ay az ba v6 v7 v8 v9 f6 u1 g9 w0 w1 w2 w3 f8 u2 h0 f9 u3 h1 bm1' bb bc bd be bf bg bh bi bj bk g0 u4 h2 x4 x5 x6 x7 g1 u5 h3 g2 u6 h4 bm2' bl bm bn bo bp bq br bt bu bv g3 u7 h5 y8 y9 z0 z1 g4 u9 h6 g5 v0 h7 bm3' bw bx bz ca cb cc cd ce cf ch g6 v1 h8 ac ad ae af g7 v2 h9 g8 v3 u0 w' ⟨rfl, rfl, rfl, rfl, rfl, rfl, rfl, rfl, rfl, rfl, rfl, rfl, rfl, rfl, rfl, rfl, rfl, rfl, rfl, rfl, rfl, rfl, rfl, rfl, rfl, rfl, rfl, rfl, rfl, rfl, rfl, rfl, rfl, rfl, rfl, rfl, rfl, rfl, rfl, rfl, rfl, rfl, rfl, rfl, rfl, rfl, rfl, rfl, rfl, rfl, rfl, rfl, rfl, rfl, rfl, rfl, rfl, rfl, rfl, rfl, rfl, rfl, rfl, rfl, rfl, rfl, rfl, rfl, rfl, rfl, rfl, rfl, rfl, rfl, rfl, rfl, rfl, rfl, rfl, rfl, rfl, rfl, rfl, rfl, rfl, rfl, rfl, rfl, rfl, rfl, rfl, rfl, rfl, rfl, rfl, rfl, rfl, rfl, rfl, rfl, rfl, rfl, rfl, rfl, rfl, rfl, rfl, rfl, rfl, rfl, rfl⟩; exact h)
abbrev yDj (v8 : OA) (w0 v9 : Nat) (w1 w2 : OA) (v7 : Int) (bm0 : Nat) (f6 f7 f8 f9 g0 g1 g2 g3 g4 g5 d6 d7 d8 d9 : Int) (a0 : OA) (c4 b2 : Nat) (e0 e1 e2 e3 : Int) (a1 : OA) (c5 b3 : Nat) (a2 : OA) (c6 b4 bm1 : Nat) (g6 g7 g8 g9 h0 h1 h2 h3 h4 h5 : Int) (a3 : OA) (c7 b5 : Nat) (e4 e5 e6 e7 : Int) (a4 : OA) (c8 b6 : Nat) (a5 : OA) (c9 b7 bm2 : Nat) (h6 h7 h8 h9 u0 u1 u2 u3 u4 u5 : Int) (a6 : OA) (d0 b8 : Nat) (e8 e9 f0 f1 : Int) (a7 : OA) (d1 b9 : Nat) (a8 : OA) (d2 c0 bm3 : Nat) (u6 u7 u9 v0 v1 v2 v3 v4 v5 v6 : Int) (a9 : OA) (d3 c1 : Nat) (f2 f3 f4 f5 : Int) (b0 : OA) (d4 c2 : Nat) (b1 : OA) (d5 c3 : Nat) (I : Nat → Int → World → Prop) (m : Nat) : Kh := KG (yi7 v8 w0 v9 w1 w2 v7 bm0 f6 f7 f8 f9 g0 g1 g2 g3 g4 g5 d6 d7 d8 d9 a0 c4 b2 e0 e1 e2 e3 a1 c5 b3 a2 c6 b4 bm1 g6 g7 g8 g9 h0 h1 h2 h3 h4 h5 a3 c7 b5 e4 e5 e6 e7 a4 c8 b6 a5 c9 b7 bm2 h6 h7 h8 h9 u0 u1 u2 u3 u4 u5 a6 d0 b8 e8 e9 f0 f1 a7 d1 b9 a8 d2 c0 bm3 u6 u7 u9 v0 v1 v2 v3 v4 v5 v6 a9 d3 c1 f2 f3 f4 f5 b0 d4 c2 b1 d5 c3) (U1 I) m
theorem yzV {h8 h9 u0 u1 u2 u3 u4 u5 u6 u7 : Int} {u9 v0 v1 v2 v3 v4 v5 v6 v7 v8 : Int} {f2 f3 f4 f5 : Int} {I : Nat → Int → World → Prop} {w0 : Int} (m' : Nat) (h1 : m' < m) (h2 : I m' w0 w) : KS (yDj q0 n0 n1 q1 q2 i0 n2 i1 i2 i3 i4 i5 i6 i7 i8 i9 j0 j1 j2 j3 j4 q3 n3 n4 j5 j6 j7 j8 q4 n5 n6 q5 n7 n8 n9 j9 k0 k1 k2 k3 k4 k5 k6 k7 k8 q6 o0 o1 k9 l0 l1 l2 q7 o2 o3 q8 o4 o5 o6 h8 h9 u0 u1 u2 u3 u4 u5 u6 u7 q9 o7 o8 l3 l4 l5 l6 r0 o9 p0 r1 p1 p2 p3 u9 v0 v1 v2 v3 v4 v5 v6 v7 v8 r2 p4 p5 f2 f3 f4 f5 r3 p6 p7 r4 p8 p9 I m) (yi7 q0 n0 n1 q1 q2 i0 n2 i1 i2 i3 i4 i5 i6 i7 i8 i9 j0 j1 j2 j3 j4 q3 n3 n4 j5 j6 j7 j8 q4 n5 n6 q5 n7 n8 n9 j9 k0 k1 k2 k3 k4 k5 k6 k7 k8 q6 o0 o1 k9 l0 l1 l2 q7 o2 o3 q8 o4 o5 o6 h8 h9 u0 u1 u2 u3 u4 u5 u6 u7 q9 o7 o8 l3 l4 l5 l6 r0 o9 p0 r1 p1 p2 p3 u9 v0 v1 v2 v3 v4 v5 v6 v7 v8 r2 p4 p5 f2 f3 f4 f5 r3 p6 p7 r4 p8 p9 w0) w := ⟨m', h1, _, rfl, rfl, h2⟩
theorem yzW {h8 h9 u0 u1 u2 u3 u4 u5 u6 u7 : Int} {u9 v0 v1 v2 v3 v4 v5 v6 v7 v8 : Int} {f2 f3 f4 f5 : Int} {K1 : Kh} (I : Nat → Int → World → Prop) (m0 : Nat) (h0 : I m0 l7 w0)
 (hr : ∀ m v9 w, I m v9 w →
 brB (decide (v9 < (o7 : Int))) (
 ixA q9 o7 v9 16 fun w9 =>
 st w (Addr.add w9 1) [.int .i64 99] fun w8 => yaD [n2, n9, o6, p3] w w8 ∧
 KS (yDj q0 n0 n1 q1 q2 i0 n2 i1 i2 i3 i4 i5 i6 i7 i8 i9 j0 j1 j2 j3 j4 q3 n3 n4 j5 j6 j7 j8 q4 n5 n6 q5 n7 n8 n9 j9 k0 k1 k2 k3 k4 k5 k6 k7 k8 q6 o0 o1 k9 l0 l1 l2 q7 o2 o3 q8 o4 o5 o6 h8 h9 u0 u1 u2 u3 u4 u5 u6 u7 q9 o7 o8 l3 l4 l5 l6 r0 o9 p0 r1 p1 p2 p3 u9 v0 v1 v2 v3 v4 v5 v6 v7 v8 r2 p4 p5 f2 f3 f4 f5 r3 p6 p7 r4 p8 p9 I m) (yi7 q0 n0 n1 q1 q2 i0 n2 i1 i2 i3 i4 i5 i6 i7 i8 i9 j0 j1 j2 j3 j4 q3 n3 n4 j5 j6 j7 j8 q4 n5 n6 q5 n7 n8 n9 j9 k0 k1 k2 k3 k4 k5 k6 k7 k8 q6 o0 o1 k9 l0 l1 l2 q7 o2 o3 q8 o4 o5 o6 h8 h9 u0 u1 u2 u3 u4 u5 u6 u7 q9 o7 o8 l3 l4 l5 l6 r0 o9 p0 r1 p1 p2 p3 u9 v0 v1 v2 v3 v4 v5 v6 v7 v8 r2 p4 p5 f2 f3 f4 f5 r3 p6 p7 r4 p8 p9 (IntKind.wrap .i64 (v9 + 1))) w8)
 (
 KS K1 (yhD q0 n0 n1 q2 (q1, (IntKind.wrap .i64 (i0 + 1)))) w)) :
 yaJ yqB (ydT 385 [0, 0, 1, 1, 1, 1, 1, 1, 0, 0, 1, 0, 0, 1, 0, 1, 1, 1, 1, 1]) (ydU [1, 1, 1, 1, 1, 0, 1, 0, 0, 1, 0, 0, 1, 1, 1, 1, 1, 1, 0] [K1] R) (yi7 q0 n0 n1 q1 q2 i0 n2 i1 i2 i3 i4 i5 i6 i7 i8 i9 j0 j1 j2 j3 j4 q3 n3 n4 j5 j6 j7 j8 q4 n5 n6 q5 n7 n8 n9 j9 k0 k1 k2 k3 k4 k5 k6 k7 k8 q6 o0 o1 k9 l0 l1 l2 q7 o2 o3 q8 o4 o5 o6 h8 h9 u0 u1 u2 u3 u4 u5 u6 u7 q9 o7 o8 l3 l4 l5 l6 r0 o9 p0 r1 p1 p2 p3 u9 v0 v1 v2 v3 v4 v5 v6 v7 v8 r2 p4 p5 f2 f3 f4 f5 r3 p6 p7 r4 p8 p9 l7) w0 :=
 lrule (yi7 q0 n0 n1 q1 q2 i0 n2 i1 i2 i3 i4 i5 i6 i7 i8 i9 j0 j1 j2 j3 j4 q3 n3 n4 j5 j6 j7 j8 q4 n5 n6 q5 n7 n8 n9 j9 k0 k1 k2 k3 k4 k5 k6 k7 k8 q6 o0 o1 k9 l0 l1 l2 q7 o2 o3 q8 o4 o5 o6 h8 h9 u0 u1 u2 u3 u4 u5 u6 u7 q9 o7 o8 l3 l4 l5 l6 r0 o9 p0 r1 p1 p2 p3 u9 v0 v1 v2 v3 v4 v5 v6 v7 v8 r2 p4 p5 f2 f3 f4 f5 r3 p6 p7 r4 p8 p9) (U1 I) h0 (by rintro m v9 w h; exact ⟨by kernel_rfl, by kernel_rfl, fun js => Eq.mpr (by kernel_rfl) (hr m v9 w h)⟩)
theorem yIr {a2 a1 : Nat} (h :
 Calls pP 8 #[(.int .i64 (IntKind.wrap .i64 (1 + (yh9 .i64 i0 15))))] w fun e w1 => ∃ p2 x3, e = .returned (.tuple #[.pointer p2, .int .i64 x3]) ∧
 Calls pP 20 #[(.int .i64 (IntKind.wrap .i64 (1 + (yh9 .i64 i0 15))))] w1 fun e w4 => ∃ p5 x6, e = .returned (.tuple #[.pointer p5, .int .i64 x6]) ∧
 brB (Option.isNone p2) (
 R (.bool false) w4)
 (
 brB (Option.isNone p5) (
 R (.bool false) w4)
 (
 brB (x3 != 0) (
 R (.bool false) w4)
 (
 brB (x6 != 0) (
 R (.bool false) w4)
 (
 yaJ yqA (ydT 393 [0, 0, 1, 0, 1, 1, 1, 1, 1]) (ydU [1, 1, 1, 1, 1, 0, 1, 0] [] R) (yhD q0 a2 a1 p5 (p2, 0)) w4))))) :
 CR pP 7 #[.int .i64 i0, .slice q0 a2 a1] w R :=
 yaA Tryz.wide_mixed (an := yqC) Tryz.func7 rfl rfl (by kernel_rfl) rfl (Eq.mpr (by kernel_rfl) h)
end
theorem yqD {w : World} {a a' : Option Addr} {n c n' c' : Nat} {l l' : List Int} (h : ycD w 1 yjK a n l) (h' : ycD w 1 yjK a' n' l') (hl : l.length ≤ 1000000) :
  Calls pP 28 #[.slice a n c, .slice a' n' c'] w fun e w' => e = .returned (.bool (decide (l = l'))) ∧ Mod [] w w' := by
 have hn := h.1
 have hn' := h'.1
 refine yaQ (yIp ?_)
 refine yaC (fun g => ?_) fun g => ?_
 ·have : l ≠ l' := fun e => by subst e; simp [hn, hn'] at g
  exact ⟨by rw [decide_eq_false this], Mod.refl _⟩
 have g : n = n' := by
  have g : (n : Int) = n' := by simpa using g
  omega
 refine yzS (fun mm x w' => ∃ k : Nat, x = k ∧ k ≤ l.length ∧ l.take k = l'.take k ∧ Mod [] w w' ∧ mm = l.length - k) l.length ⟨0, rfl, by omega, by simp, Mod.refl _, rfl⟩ ?_
 rintro mm x w1 ⟨k, rfl, hk, ht, M1, rfl⟩
 refine yaE (fun hlt => ?_) fun hge => ?_
 ·obtain ⟨y, hy⟩ : ∃ y, l[k]? = some y := ⟨_, List.getElem?_eq_getElem (by omega)⟩
  obtain ⟨y', hy'⟩ : ∃ y, l'[k]? = some y := ⟨_, List.getElem?_eq_getElem (by omega)⟩
  refine (h.keep0 M1).ix hy fun q hq => yaB (x := y) (by simpa [add_zero] using hq 0 _ rfl) ?_
  refine (h'.keep0 M1).ix hy' fun q hq => yaB (x := y') (by simpa [add_zero] using hq 0 _ rfl) ?_
  refine yaC (fun g => fun w2 A2 => ?_) fun g => fun w2 A2 => ?_
  ·have : l ≠ l' := fun e => by subst e; rw [hy] at hy'; cases hy'; simp at g
   exact ⟨by rw [decide_eq_false this], M1.go0 A2.mod (by simp)⟩
  ·have g : y = y' := by simpa using g
   exact yzR (l.length - (k + 1)) (by omega) ⟨k + 1, by rw [yaH (by omega) (by omega)]; omega, by omega, by rw [List.take_add_one, List.take_add_one, hy, hy', ht, g], M1.go0 A2.mod (by simp), rfl⟩
 ·have : l = l' := by
   rw [List.take_of_length_le (by omega), List.take_of_length_le (by omega)] at ht; exact ht
  exact ⟨by rw [decide_eq_true this], M1⟩
abbrev wmA : PMail := ⟨4, 1, 2, 0, 0, 0, 5, 0, 0, 0, [], ye4⟩
abbrev wmB : PMail := ⟨0, 2, 3, 0, 0, 0, 0, 0, 0, 0, [], ye4⟩
abbrev wmN : PMail := ⟨-1, 0, 0, 0, 0, 0, 0, 0, 0, 0, [], ye4⟩
theorem yqE {m : PMail} (hn : (yaW m).all num = true) (hk : 0 ≤ m.kind ∧ m.kind < 12) (hc : m.calls = []) (hr : m.r = ye4) : ybK m = 0 ∧ (ydG m).size ≤ 900000 := by
 obtain ⟨h1, h2⟩ := yzC hn hk hc hr
 have := ynH (m := m) (by omega)
 exact ⟨h1, by omega⟩
theorem yDk {w : World} {b : Nat} {x : Int} (h : w.heap[b]? = some (.cells #[.int .i64 x] 3)) : ycD w 1 yjK (some ⟨b, 0, none⟩) 1 [x] :=
 ⟨rfl, fun i y hy => by
  have hi := (List.getElem?_eq_some_iff.1 hy).1
  have hi : i = 0 := by simp at hi; omega
  subst hi
  simp at hy; subst hy
  refine ⟨_, rfl, fun j v hv => ?_⟩
  have hj : j = 0 := by have := (List.getElem?_eq_some_iff.1 hv).1; simp [yjK] at this; omega
  subst hj
  simp [yjK] at hv; subst hv
  rw [Nat.zero_mul, add_zero, add_zero, yaY h]; rfl⟩
set_option maxHeartbeats 8000000 in
theorem yzX (w : World) : Calls pP 9 #[] w fun e w' => e = .returned (.bool true) ∧ Mod [] w w' := by
 obtain ⟨eA, zA⟩ := yqE (m := wmA) (by decide) (by decide) rfl rfl
 obtain ⟨eB, zB⟩ := yqE (m := wmB) (by decide) (by decide) rfl rfl
 have eN : ybK wmN = 180 := by
  have : ydF wmN = 180 := by rw [ydF, if_pos (by decide)]
  rw [ybK, if_pos (by rw [this]; decide), this]
 refine yaQ (yIq ?_)
 refine (yuH 2 w).mono ?_
 rintro _ w1 ⟨_, rfl, M1, hv⟩
 rw [if_pos (by decide)] at hv
 obtain ⟨b, bl, ba, rfl, fb, fl, fa, h1⟩ := hv
 refine ⟨_, _, rfl, brF rfl (brF rfl ?_)⟩
 have lb := yaK h1.cells
 have ll := h1.lm.lt
 have la := h1.am.lt
 intro b4 f4 w5 A5
 have s5 := A5.mod.size
 have N5 := M1.go0 A5.mod (by simp)
 have h5 := h1.keep0 A5.mod
 have big : ∀ {x : Nat}, w1.heap.size ≤ x → x ≠ b ∧ x ≠ bl ∧ x ≠ ba := fun h => by omega
 have go1 : ∀ {x x' : World} {S : List Nat}, Mod S x x' → (∀ k ∈ S, k = b ∨ k = bl ∨ k = ba) → Mod [] w x → Mod [] w x' := fun M hS N => N.go0 M fun k hk => by rcases hS k hk with h | h | h <;> omega
 have kp : ∀ {x x' : World} {S bs : List Nat}, Mod S x x' → (∀ k ∈ S, k = b ∨ k = bl ∨ k = ba) → (∀ k ∈ bs, w1.heap.size ≤ k) → yaD bs x x' := fun M hS hb => yaD.of M fun k hk _ hk' => by
  have := hb k hk
  rcases hS k hk' with h | h | h <;> omega
 have sS : ∀ k ∈ [b, bl], k = b ∨ k = bl ∨ k = ba := fun k hk => by simp at hk; omega
 have sL : ∀ k ∈ [bl], k = b ∨ k = bl ∨ k = ba := fun k hk => by simp at hk; omega
 have sA : ∀ k ∈ [ba], k = b ∨ k = bl ∨ k = ba := fun k hk => by simp at hk; omega
 refine (yfN h5 (ydN w5 wmA rfl rfl) (by simp) (fun _ => zA) (by omega)).mono ?_
 have q1 : yfU 2 [] wmA = 0 := by rw [yfU, if_neg (by simpa using eA)]; rfl
 rw [q1]
 rintro _ w6 ⟨rfl, M6, h6⟩
 simp only [if_true] at h6
 refine ⟨_, _, rfl, kp M6 sS (by simp; omega), ?_⟩
 have N6 := go1 M6 sS N5
 have z6 := M6.size
 refine (yfN h6 (ydN w6 wmB rfl rfl) (by simp) (fun _ => zB) (by omega)).mono ?_
 have q2 : yfU 2 ([] ++ [(((0 + 1 : Nat) : Int), wmA)]) wmB = 0 := by rw [yfU, if_neg (by simpa using eB)]; rfl
 rw [q2]
 rintro _ w9 ⟨rfl, M9, h9⟩
 simp only [if_true] at h9
 refine ⟨_, _, rfl, kp M9 sS (by simp; omega), ?_⟩
 have N9 := go1 M9 sS N6
 have z9 := M9.size
 refine (yfN h9 (ydN w9 wmA rfl rfl) (by simp) (fun _ => zA) (by omega)).mono ?_
 have q3 : yfU 2 (([] ++ [(((0 + 1 : Nat) : Int), wmA)]) ++ [(((0 + 1 + 1 : Nat) : Int), wmB)]) wmA = 2 := by rw [yfU, if_neg (by simpa using eA)]; rfl
 rw [q3]
 rintro _ w12 ⟨rfl, M12, h12⟩
 rw [if_neg (by decide), if_neg (by decide)] at h12
 refine ⟨_, _, rfl, kp M12 sS (by simp; omega), ?_⟩
 have N12 := go1 M12 sS N9
 have z12 := M12.size
 have h12 : WiAt w12 b 2 2 bl ba [(1, wmA), (2, wmB)] [] := h12
 refine (yh4 h12 (by unfold r64; omega)).mono ?_
 rintro _ w15 ⟨_, rfl, ⟨s15, f15, p15, rfl, hO15, _⟩, M15⟩
 refine ⟨_, _, _, _, _, _, _, _, _, _, _, _, _, _, _, _, _, _, _, _, _, _, _, _, rfl, yaD.of0 M15, ?_⟩
 intro b40 f40 w41 A41
 have N41 := (N12.go0 M15 (by simp)).go0 A41.mod (by simp)
 have z15 := M15.size
 have z41 := A41.mod.size
 have h41 := (h12.keep0 M15).keep0 A41.mod
 have hO41 := hO15.keep0 A41.mod
 refine (ylF h41 (x := 2) (y := 1) (by unfold r64; omega) (by unfold r64; omega) true).mono ?_
 rintro _ w42 ⟨rfl, M42, h42⟩
 refine ⟨rfl, kp M42 sA (by simp; omega), ?_⟩
 have N42 := go1 M42 sA N41
 have z42 := M42.size
 have hO42 := hO41.keepB M42 (by simp; omega)
 have h42 : WiAt w42 b 2 2 bl ba [(1, wmA), (2, wmB)] [(1, 2)] := h42
 refine (yj1 h42 (id := 1) (by unfold r64; omega)).mono ?_
 rintro _ w43 ⟨_, rfl, ⟨s43, f43, p43, rfl, _, _⟩, M43, h43⟩
 refine ⟨_, _, _, _, _, _, _, _, _, _, _, _, _, _, _, _, _, _, _, _, _, _, _, _, rfl, kp M43 sL (by simp; omega), ?_⟩
 have N43 := go1 M43 sL N42
 have z43 := M43.size
 have hO43 := hO42.keepB M43 (by simp; omega)
 have h43 : WiAt w43 b 2 2 bl ba [(1, wmA), (2, wmB)] [(1, 2)] := h43
 intro b68 f68 w69 A69
 have z69 := A69.mod.size
 refine (yr4 (h43.keep0 A69.mod)).mono ?_
 rintro _ w70 ⟨a71, n72, c73, rfl, hR70, M70⟩
 refine ⟨_, _, _, rfl, yaD.of0 M70, ?_⟩
 have K70 : Mod [] w43 w70 := A69.mod.go0 M70 (by simp)
 have z70 := M70.size
 have hR70 : Row w70 w69.heap.size 3 1 yjK a71 n72 c73 [2] := hR70
 have h70 := h43.keep0 K70
 have hO70 := hO43.keep0 K70
 have N70 := N43.go0 K70 (by simp)
 refine (ylE h70 (x := 1) (y := 2) (by unfold r64; omega) (by unfold r64; omega)).mono ?_
 rintro _ w74 ⟨rfl, M74⟩
 refine ⟨_, rfl, yaD.of0 M74, ?_⟩
 have z74 := M74.size
 refine (ylF (h70.keep0 M74) (x := 1) (y := 2) (by unfold r64; omega) (by unfold r64; omega) false).mono ?_
 rintro _ w76 ⟨rfl, M76, h76⟩
 refine ⟨rfl, kp M76 sA (by simp; omega), ?_⟩
 have N76 := go1 M76 sA (N70.go0 M74 (by simp))
 have z76 := M76.size
 have hO76 := (hO70.keep0 M74).keepB M76 (by simp; omega)
 have hR76 := (hR70.keep0 M74).keep M76 fun ad ha hk => by have := hR70.base ad ha; simp at hk; omega
 have h76 : WiAt w76 b 2 2 bl ba [(1, wmA), (2, wmB)] [] := h76
 refine (yj1 h76 (id := 1) (by unfold r64; omega)).mono ?_
 rintro _ w77 ⟨_, rfl, ⟨s77, f77, p77, rfl, hO77, _⟩, M77, h77⟩
 refine ⟨_, _, _, _, _, _, _, _, _, _, _, _, _, _, _, _, _, _, _, _, _, _, _, _, rfl, kp M77 sL (by simp; omega), ?_⟩
 have z77 := M77.size
 have h77 : WiAt w77 b 2 2 bl ba [(2, wmB)] [] := h77
 intro b102 f102 w103 A103
 have z103 := A103.mod.size
 refine (yj1 (h77.keep0 A103.mod) (id := 1) (by unfold r64; omega)).mono ?_
 rintro _ w104 ⟨_, rfl, ⟨s104, f104, p104, rfl, _, _⟩, M104, h104⟩
 refine ⟨_, _, _, _, _, _, _, _, _, _, _, _, _, _, _, _, _, _, _, _, _, _, _, _, rfl, kp M104 sL (by simp; omega), ?_⟩
 have z104 := M104.size
 have h104 : WiAt w104 b 2 2 bl ba [(2, wmB)] [] := h104
 intro b129 f129 w130 A130
 have z130 := A130.mod.size
 refine (ypS (h104.keep0 A130.mod) (id := 2) (by unfold r64; omega)).mono ?_
 rintro _ w131 ⟨rfl, M131, h131⟩
 refine ⟨_, rfl, kp M131 sL (by simp; omega), ?_⟩
 have z131 := M131.size
 have h131 : WiAt w131 b 2 2 bl ba [] [] := h131
 have K77 := (((M77.trans A103.mod).trans M104).trans A130.mod).trans M131
 have N131 : Mod [] w w131 := N76.go0 K77 fun k hk => by simp at hk; omega
 refine (yfN h131 (ydN w131 wmA rfl rfl) (by simp) (fun _ => zA) (by omega)).mono ?_
 rw [q1]
 rintro _ w133 ⟨rfl, M133, h133⟩
 simp only [if_true] at h133
 refine ⟨_, _, rfl, kp M133 sS (by simp; omega), ?_⟩
 have z133 := M133.size
 refine (yfN h133 (ydN w133 wmN rfl rfl) (by simp) (fun h => by rw [eN] at h; cases h) (by omega)).mono ?_
 have q5 : yfU 2 ([] ++ [(((2 + 1 : Nat) : Int), wmA)]) wmN = 180 := by rw [yfU, if_pos (by rw [eN]; decide), eN]
 rw [q5]
 rintro _ w136 ⟨rfl, M136, h136⟩
 rw [if_neg (by decide), if_neg (by decide)] at h136
 refine ⟨_, _, rfl, kp M136 sS (by simp; omega), ?_⟩
 have z136 := M136.size
 refine (yuH 0 w136).mono ?_
 rintro _ w139 ⟨_, rfl, M139, hv⟩
 rw [if_neg (by decide)] at hv
 subst hv
 refine ⟨_, _, rfl, yaD.of0 M139, ?_⟩
 have z139 := M139.size
 have N139 : Mod [] w w139 := (go1 M136 sS (go1 M133 sS N131)).go0 M139 (by simp)
 have K2 : Mod [b, bl] w131 w139 := ((M133.trans M136).trans M139).less fun k hk _ => by simp at hk ⊢; omega
 have h139 : WiAt w139 b 2 3 bl ba [(3, wmA)] [] := h136.keep0 M139
 have hO1 : MailOwn w139 w12.heap.size wmA s15 f15 p15 := ((hO76.keepB K77 (by simp; omega)).keepB K2 (by simp; omega))
 have hO2 : MailOwn w139 w76.heap.size wmA s77 f77 p77 := ((((hO77.keep0 A103.mod).keepB M104 (by simp; omega)).keep0 A130.mod).keepB M131 (by simp; omega)).keepB K2 (by simp; omega)
 have hR139 : Row w139 w69.heap.size 3 1 yjK a71 n72 c73 [2] := (hR76.keep K77 fun ad ha hk => by have := hR76.base ad ha; simp at hk; omega).keep K2 fun ad ha hk => by have := hR76.base ad ha; simp at hk; omega
 refine brT rfl (brT rfl (brT rfl (brT rfl (brT rfl ?_))))
 refine (yoV (m := wmA) (m' := wmA) hO1.at (ydN w139 wmA rfl rfl) (by simp)).mono ?_
 rintro _ w142 ⟨rfl, M142⟩
 refine ⟨_, rfl, yaD.of0 M142, brT (by simp) (brT rfl (brT rfl ?_))⟩
 refine ycR fun b144 w145 c145 M145 f145 => ?_
 have N145 := (N139.go0 M142 (by simp)).go0 M145 (by simp)
 refine (yqD (((hR139.keep0 M142).keep0 M145).sl (fun _ => rfl)) (yDk c145) (by simp)).mono ?_
 rintro _ w146 ⟨rfl, M146⟩
 have K146 : Mod [] w139 w146 := (M142.go0 M145 (by simp)).go0 M146 (by simp)
 refine ⟨_, rfl, yaD.of0 M146, brT (by simp) (brT rfl ?_)⟩
 refine (yoV (m := wmA) (m' := wmA) (hO2.keep0 K146).at (ydN w146 wmA rfl rfl) (by simp)).mono ?_
 rintro _ w148 ⟨rfl, M148⟩
 have K148 := K146.go0 M148 (by simp)
 refine ⟨_, rfl, yaD.of0 M148, brT (by simp) (brT rfl (brT rfl (brT rfl (brT rfl (brT rfl (brT rfl (brT rfl ?_)))))))⟩
 refine (yuL (h139.keep0 K148)).mono ?_
 rintro _ w150 ⟨_, rfl, a151, n152, c153, rfl, hR150, M150⟩
 refine ⟨_, _, _, rfl, yaD.of0 M150, ?_⟩
 refine ycR fun b154 w155 c155 M155 f155 => ?_
 have hR150 : Row w150 w148.heap.size 3 1 yjK a151 n152 c153 [3] := hR150
 refine (yqD ((hR150.keep0 M155).sl (fun _ => rfl)) (yDk c155) (by simp)).mono ?_
 rintro _ w156 ⟨rfl, M156⟩
 exact ⟨_, rfl, yaD.of0 M156, by simp, (((N139.go0 K148 (by simp)).go0 M150 (by simp)).go0 M155 (by simp)).go0 M156 (by simp)⟩
theorem yGu {w0 w : World} (N : Mod [] w0 w) : Calls pP 9 #[] w fun e w' => ∃ t : Bool, e = .returned (.bool t) ∧ (Value.bool t = .bool true ∧ Mod [] w0 w') := by
 refine (yzX w).mono ?_
 rintro _ w1 ⟨rfl, M1⟩
 exact ⟨_, rfl, rfl, N.go0 M1 (by simp)⟩
theorem yIs {a b c d : Int} : prW a b = prW c d ↔ (a = c ∧ b = d) ∨ (a = d ∧ b = c) := by
 unfold prW
 simp only [Prod.mk.injEq]
 constructor
 ·intro ⟨h1, h2⟩; split at h1 <;> split at h1 <;> split at h2 <;> split at h2 <;> omega
 ·rintro (⟨rfl, rfl⟩ | ⟨rfl, rfl⟩)
  ·exact ⟨rfl, rfl⟩
  ·constructor <;> split <;> split <;> omega
theorem Row.store1 {α : Type} {w : World} {base T sz : Nat} {enc : α → List Value} {a : Option Addr} {n c : Nat} {l : List α} {i k : Nat} {x y : α} {v : Value} {F : World → Prop} (h : Row w base T sz enc a n c l) (hs : ∀ x, (enc x).length = sz) (hk : k < sz) (hl : yxC v = true) (hx : l[i]? = some x) (hy : enc y = (enc x).set k v)
  (hF : ∀ ad w', a = some ad → Row w' base T sz enc a n c (l.set i y) → Mod [ad.block] w w' → F w') : ixA a n (i : Int) sz fun q => st w (q.add k) [v] F := by
 obtain ⟨hn, hlen, ho⟩ := h
 have hi : i < l.length := (List.getElem?_eq_some_iff.1 hx).1
 rcases ho with ⟨ho, h0⟩ | ⟨g, cap, cur, hv, hb, hg, hnc, hcm, hsz, htk⟩
 ·omega
 ·simp only [Value.slice.injEq] at hv
  obtain ⟨rfl, _, rfl⟩ := hv
  have hle : (i + 1) * sz ≤ c * sz := Nat.mul_le_mul_right sz (by omega)
  have hle1 : i * sz + sz ≤ cur.size := by rw [hsz]; rw [Nat.add_mul, Nat.one_mul] at hle; exact hle
  refine ⟨⟨g, 0, none⟩, rfl, by omega, by omega, ?_⟩
  have ea : (Addr.add ⟨g, 0, none⟩ (((i : Int).toNat) * sz)).add k = ⟨g, i * sz + k, none⟩ := by
   rw [Int.toNat_natCast, ya6, ya6, Nat.zero_add]
  dsimp only
  rw [ea]
  refine ydX hg (by simp [hl]) (by simp; omega) fun w' h1 h2 => hF ⟨g, 0, none⟩ w' rfl ⟨by rw [List.length_set]; exact hn, ?_, .inr ⟨g, c, ybX cur (i * sz + k) [v], rfl, hb, h1, hnc, hcm, by rw [yjC]; exact hsz, ?_⟩⟩ h2
  ·rw [yg2 hs, List.length_set, hn]
  ·refine List.ext_getElem? fun j => ?_
   rw [List.getElem?_take]
   by_cases hj : j < n * sz
   ·rw [if_pos hj, ykS _ _ _ _ (by simp; omega)]
    have hsz0 : 0 < sz := by omega
    have hq : j / sz < l.length := Nat.div_lt_of_lt_mul (by rw [Nat.mul_comm, ← hn]; exact hj)
    have hr := Nat.mod_lt j hsz0
    have e : j / sz * sz + j % sz = j := by rw [Nat.mul_comm]; exact Nat.div_add_mod j sz
    have hcur : cur.toList[j]? = (enc l[j / sz])[j % sz]? := by
     have hm2 := yd6 hs l (j / sz) (j % sz) _ (List.getElem?_eq_getElem hq) hr
     rw [e] at hm2
     rw [← hm2, ← htk, List.getElem?_take, if_pos hj]
    by_cases he : j / sz = i
    ·rw [he] at e
     have hm := yd6 hs (l.set i y) i (j % sz) y (List.getElem?_set_self hi) hr
     rw [e] at hm
     rw [hm, hy, List.getElem?_set]
     have hxx : l[j / sz] = x := by
      have := (List.getElem?_eq_some_iff.1 hx).2
      simp only [he]; exact this
     by_cases hjk : k = j % sz
     ·rw [if_pos hjk, if_pos (show k < (enc x).length by rw [hs]; omega), if_pos (show i * sz + k ≤ j ∧ j < i * sz + k + [v].length by simp only [List.length_cons, List.length_nil]; omega)]
      have : j - (i * sz + k) = 0 := by omega
      rw [this]; rfl
     ·rw [if_neg hjk, if_neg (show ¬ (i * sz + k ≤ j ∧ j < i * sz + k + [v].length) by simp only [List.length_cons, List.length_nil]; omega), hcur, hxx]
    ·have hg' : (l.set i y)[j / sz]? = some l[j / sz] := by rw [List.getElem?_set_ne (Ne.symm he)]; exact List.getElem?_eq_getElem hq
     have hm := yd6 hs (l.set i y) (j / sz) (j % sz) _ hg' hr
     rw [e] at hm
     rw [hm, if_neg, hcur]
     simp only [List.length_cons, List.length_nil]
     rintro ⟨g1, g2⟩
     have h3 : i * sz ≤ j := by omega
     have h4 : j < (i + 1) * sz := by rw [Nat.add_mul]; omega
     exact he (Nat.div_eq_of_lt_le (by omega) (by omega))
   ·rw [if_neg hj, List.getElem?_eq_none]
    rw [yg2 hs, List.length_set, ← hn]; omega
theorem yET {m : PMail} (h : ybK (yfM m) = 0) : (ydG (yfM m)).size ≤ 700000 := by
 obtain ⟨h0, hl0⟩ := ycI h
 obtain ⟨_, h1, h2, h3⟩ := ycQ h0
 have l1 := ye8 h1 10
 rw [List.take_of_length_le (by rw [yf7]; omega)] at l1
 obtain ⟨q1, q2⟩ := yh2 h2
 have l2 := ydD (f := ye5) (c := 40000) (l := (yfM m).calls) fun x hx => (ye6 (q2 x hx).1 (q2 x hx).2).1
 have l3 := (yaM (yfM m).calls.length (by omega)).2
 have lc := yDa m
 have l4 : (ybZ (yfM m).calls).length ≤ 490000 := by unfold ybZ; rw [List.length_append]; omega
 have l5 : (yeC (yfM m).r).length ≤ 60000 := (RepGood.of h3).len3 (yfM m).r.parts.length
 have p2 := (yaV (bs (ybZ (yfM m).calls)) (by rw [yaG]; omega)).2
 have p3 := (yaV (bs (yeC (yfM m).r)) (by rw [yaG]; omega)).2
 rw [yaG] at p2 p3
 have l6 : (yb5 (yfM m)).length ≤ 600000 := by unfold yb5; rw [List.length_append, List.length_append]; omega
 have := ynH hl0
 omega
theorem yL1 {w : World} {q : Addr} {m : PMail} {s f p : Sl} {F : Int → Int → Int → Int → Int → Int → Int → Int → Int → Int → Option Addr → Nat → Nat → Int → Int → Int → Int → Option Addr → Nat → Nat → Option Addr → Nat → Nat → Prop} (c : ∀ j v, (m.cs s f p)[j]? = some v → w.cell? (q.add j) = some v) (hF : F m.kind m.fr m.to m.view m.normal m.last m.commit m.nonce m.base m.n s.a s.n s.c m.r.e m.r.off m.r.n m.r.gen f.a f.n f.c p.a p.n p.c) :
  yaF .i64 w q fun x0 => yaF .i64 w (q.add 1) fun x1 => yaF .i64 w (q.add 2) fun x2 => yaF .i64 w (q.add 3) fun x3 => yaF .i64 w (q.add 4) fun x4 => yaF .i64 w (q.add 5) fun x5 => yaF .i64 w (q.add 6) fun x6 => yaF .i64 w (q.add 7) fun x7 => yaF .i64 w (q.add 8) fun x8 => yaF .i64 w (q.add 9) fun x9 => yaS w (q.add 10) fun a10 n10 c10 => yaF .i64 w (q.add 11) fun x11 => yaF .i64 w (q.add 12) fun x12 => yaF .i64 w (q.add 13) fun x13 => yaF .i64 w (q.add 14) fun x14 => yaS w (q.add 15) fun a15 n15 c15 => yaS w (q.add 16) fun a16 n16 c16 => F x0 x1 x2 x3 x4 x5 x6 x7 x8 x9 a10 n10 c10 x11 x12 x13 x14 a15 n15 c15 a16 n16 c16 :=
 yaB (by have := c 0 _ rfl; rwa [add_zero] at this) (yaB (c 1 _ rfl) (yaB (c 2 _ rfl) (yaB (c 3 _ rfl) (yaB (c 4 _ rfl) (yaB (c 5 _ rfl) (yaB (c 6 _ rfl) (yaB (c 7 _ rfl) (yaB (c 8 _ rfl) (yaB (c 9 _ rfl) (ya5 (c 10 _ rfl) (yaB (c 11 _ rfl) (yaB (c 12 _ rfl) (yaB (c 13 _ rfl) (yaB (c 14 _ rfl) (ya5 (c 15 _ rfl) (ya5 (c 16 _ rfl) hF))))))))))))))))
def yNk (q : CV) : CV := ⟨⟨q.x.c, 99, q.x.op⟩, q.rs, q.ts⟩
structure WV where
 id : Int
 v : MV
def WV.cs (x : WV) : List Value := .int .i64 x.id :: x.v.cs
theorem WV.cs_len (x : WV) : x.cs.length = 18 := rfl
theorem WV.cs_one (x : WV) : ∀ u ∈ x.cs, u.oneCell' = true := by simp [WV.cs, MV.cs, PMail.cs, Value.oneCell']
theorem yIt : (Tryz.prog.info? 93).map (fun i => (i.zero, i.size, i.bytes)) = some (some (.agg #[.int .i64 0, .int .i64 0, .int .i64 0, .int .i64 0, .int .i64 0, .int .i64 0, .int .i64 0, .int .i64 0, .int .i64 0, .int .i64 0, .int .i64 0, .slice none 0 0, .int .i64 0, .int .i64 0, .int .i64 0, .int .i64 0, .slice none 0 0, .slice none 0 0]), 18, 192) := by kernel_rfl
def ylU (p : Int × Int) : List Value := [.int .i64 p.1, .int .i64 p.2]
theorem yw5 (p : Int × Int) : (ylU p).length = 2 := rfl
theorem yEU (p : Int × Int) : ∀ u ∈ ylU p, u.oneCell' = true := by simp [ylU, Value.oneCell']
theorem yL2 : (Tryz.prog.info? 85).map (fun i => (i.zero, i.size, i.bytes)) = some (some (.agg #[.int .i64 0, .int .i64 0]), 2, 16) := by kernel_rfl
theorem yMO {w : World} {q : Addr} {z : WV} {F : Int → Int → Int → Int → Int → Int → Int → Int → Int → Int → Int → Option Addr → Nat → Nat → Int → Int → Int → Int → Option Addr → Nat → Nat → Option Addr → Nat → Nat → Prop} (c : ∀ j v, z.cs[j]? = some v → w.cell? (q.add j) = some v) (hF : F z.id z.v.m.kind z.v.m.fr z.v.m.to z.v.m.view z.v.m.normal z.v.m.last z.v.m.commit z.v.m.nonce z.v.m.base z.v.m.n z.v.s.a z.v.s.n z.v.s.c z.v.m.r.e z.v.m.r.off z.v.m.r.n z.v.m.r.gen z.v.f.a z.v.f.n z.v.f.c z.v.p.a z.v.p.n z.v.p.c) :
  yaF .i64 w q fun y => yaF .i64 w (q.add 1) fun x0 => yaF .i64 w (q.add 2) fun x1 => yaF .i64 w (q.add 3) fun x2 => yaF .i64 w (q.add 4) fun x3 => yaF .i64 w (q.add 5) fun x4 => yaF .i64 w (q.add 6) fun x5 => yaF .i64 w (q.add 7) fun x6 => yaF .i64 w (q.add 8) fun x7 => yaF .i64 w (q.add 9) fun x8 => yaF .i64 w (q.add 10) fun x9 => yaS w (q.add 11) fun a10 n10 c10 => yaF .i64 w (q.add 12) fun x11 => yaF .i64 w (q.add 13) fun x12 => yaF .i64 w (q.add 14) fun x13 => yaF .i64 w (q.add 15) fun x14 => yaS w (q.add 16) fun a15 n15 c15 => yaS w (q.add 17) fun a16 n16 c16 => F y x0 x1 x2 x3 x4 x5 x6 x7 x8 x9 a10 n10 c10 x11 x12 x13 x14 a15 n15 c15 a16 n16 c16 :=
 yaB (by have := c 0 _ rfl; rwa [add_zero] at this) (yaB (c 1 _ rfl) (yaB (c 2 _ rfl) (yaB (c 3 _ rfl) (yaB (c 4 _ rfl) (yaB (c 5 _ rfl) (yaB (c 6 _ rfl) (yaB (c 7 _ rfl) (yaB (c 8 _ rfl) (yaB (c 9 _ rfl) (yaB (c 10 _ rfl) (ya5 (c 11 _ rfl) (yaB (c 12 _ rfl) (yaB (c 13 _ rfl) (yaB (c 14 _ rfl) (yaB (c 15 _ rfl) (ya5 (c 16 _ rfl) (ya5 (c 17 _ rfl) hF)))))))))))))))))
theorem yDl {w : World} {B : Nat} {f : Sl} {l : List WV} {y : WV} {bs : List Nat} {F : Option Addr → Nat → Nat → World → Prop} (hR : Row w B 93 18 WV.cs f.a f.n f.c l) (hl : l.length ≤ 1000000) (hB : B ≤ w.heap.size) (hbs : ∀ b ∈ bs, b ∉ ydY f.a)
  (hF : ∀ a' c' w', Row w' B 93 18 WV.cs a' (f.n + 1) c' (l ++ [y]) → Mod (ydY f.a) w w' → F a' (f.n + 1) c' w') :
  al w (.cells (WV.cs y).toArray 93) fun b w1 => ycE pP (Builtin.append_ #[88, 88] 88 #[.slice f.a f.n f.c, .slice (some ⟨b, 0, none⟩) 1 1]) w1 fun a n c w2 => yaD bs w1 w2 ∧ F a n c w2 := by
 refine ycR fun b w1 c1 M1 f1 => ?_
 have s1 := M1.size
 obtain ⟨i0, hi0, hz0, hz1, hz2⟩ := info_parts yIt
 refine ybQ (x := y) (hR.keep0 M1) Tryz.underlying88 hi0 hz0 hz1 hz2 rfl (by decide) c1 rfl (WV.cs_one _) (by omega) (by unfold maxLen; omega) (by omega) fun a' c' w8 hR8 hM8 => ?_
 have M8 := hM8 _ (ybY f.a)
 refine ⟨yaD.of M8 fun b hb _ => hbs b hb, hF a' c' w8 hR8 ?_⟩
 exact (M1.trans M8).less fun k hk _ => by simpa using hk
theorem yDm {w : World} {B : Nat} {f : Sl} {l : List (Int × Int)} {y : (Int × Int)} {bs : List Nat} {F : Option Addr → Nat → Nat → World → Prop} (hR : Row w B 85 2 ylU f.a f.n f.c l) (hl : l.length ≤ 1000000) (hB : B ≤ w.heap.size) (hbs : ∀ b ∈ bs, b ∉ ydY f.a)
  (hF : ∀ a' c' w', Row w' B 85 2 ylU a' (f.n + 1) c' (l ++ [y]) → Mod (ydY f.a) w w' → F a' (f.n + 1) c' w') :
  al w (.cells (ylU y).toArray 85) fun b w1 => ycE pP (Builtin.append_ #[89, 89] 89 #[.slice f.a f.n f.c, .slice (some ⟨b, 0, none⟩) 1 1]) w1 fun a n c w2 => yaD bs w1 w2 ∧ F a n c w2 := by
 refine ycR fun b w1 c1 M1 f1 => ?_
 have s1 := M1.size
 obtain ⟨i0, hi0, hz0, hz1, hz2⟩ := info_parts yL2
 refine ybQ (x := y) (hR.keep0 M1) Tryz.underlying89 hi0 hz0 hz1 hz2 rfl (by decide) c1 rfl (yEU _) (by omega) (by unfold maxLen; omega) (by omega) fun a' c' w8 hR8 hM8 => ?_
 have M8 := hM8 _ (ybY f.a)
 refine ⟨yaD.of M8 fun b hb _ => hbs b hb, hF a' c' w8 hR8 ?_⟩
 exact (M1.trans M8).less fun k hk _ => by simpa using hk
def yh5 (w : World) (k : Nat) (room : Int) (sent : Nat) (ll : List WV) (O : List (Int × Int)) : Prop :=
 ∃ sl so : Sl, w.heap[k]? = some (.cells #[.int .i64 room, .int .i64 (sent : Nat), .slice sl.a sl.n sl.c, .slice so.a so.n so.c] 91) ∧ Row w (k + 1) 93 18 WV.cs sl.a sl.n sl.c ll ∧ Row w (k + 1) 85 2 ylU so.a so.n so.c O
theorem yh5.keep {w : World} {k : Nat} {room : Int} {sent : Nat} {ll : List WV} {O : List (Int × Int)} {w' : World} {S : List Nat} (h : yh5 w k room sent ll O) (M : Mod S w w') (hS : ∀ i ∈ S, ∀ cs T, w.heap[i]? = some (.cells cs T) → T ≠ 91 ∧ T ≠ 93 ∧ T ≠ 85) : yh5 w' k room sent ll O := by
 obtain ⟨sl, so, h1, h2, h3⟩ := h
 refine ⟨sl, so, M.keep h1 fun hk => (hS _ hk _ _ h1).1 rfl, h2.keep M fun ad ha hk => ?_, h3.keep M fun ad ha hk => ?_⟩
 ·obtain ⟨_, cur, hc⟩ := h2.block ad ha; exact (hS _ hk _ _ hc).2.1 rfl
 ·obtain ⟨_, cur, hc⟩ := h3.block ad ha; exact (hS _ hk _ _ hc).2.2 rfl
theorem ygC {w : World} {k : Nat} {room : Int} {sent : Nat} {ll : List WV} {O : List (Int × Int)} {w' : World} {S : List Nat} {sl so : Sl} (h : w.heap[k]? = some (.cells #[.int .i64 room, .int .i64 (sent : Nat), .slice sl.a sl.n sl.c, .slice so.a so.n so.c] 91) ∧ Row w (k + 1) 93 18 WV.cs sl.a sl.n sl.c ll ∧ Row w (k + 1) 85 2 ylU so.a so.n so.c O) (M : Mod S w w') (hS : ∀ i ∈ S, ∀ cs T, w.heap[i]? = some (.cells cs T) → T = 71 ∨ T = 50) : w'.heap[k]? = some (.cells #[.int .i64 room, .int .i64 (sent : Nat), .slice sl.a sl.n sl.c, .slice so.a so.n so.c] 91) ∧ Row w' (k + 1) 93 18 WV.cs sl.a sl.n sl.c ll ∧ Row w' (k + 1) 85 2 ylU so.a so.n so.c O := by
 obtain ⟨h1, h2, h3⟩ := h
 have hS : ∀ i ∈ S, ∀ cs T, w.heap[i]? = some (.cells cs T) → T ≠ 91 ∧ T ≠ 93 ∧ T ≠ 85 := fun i hi cs T hT => by rcases hS i hi cs T hT with rfl | rfl <;> decide
 refine ⟨M.keep h1 fun hk => (hS _ hk _ _ h1).1 rfl, h2.keep M fun ad ha hk => ?_, h3.keep M fun ad ha hk => ?_⟩
 ·obtain ⟨_, cur, hc⟩ := h2.block ad ha; exact (hS _ hk _ _ hc).2.1 rfl
 ·obtain ⟨_, cur, hc⟩ := h3.block ad ha; exact (hS _ hk _ _ hc).2.2 rfl
theorem yh5.keep0 {w : World} {k : Nat} {room : Int} {sent : Nat} {ll : List WV} {O : List (Int × Int)} {w' : World} (h : yh5 w k room sent ll O) (M : Mod [] w w') : yh5 w' k room sent ll O := h.keep M (by simp)
def TgK (w : World) (k : Nat) (S : List Nat) : Prop := ∀ i ∈ S, k ≤ i ∧ ∃ cs T, w.heap[i]? = some (.cells cs T) ∧ (T = 91 ∨ T = 93)
theorem yh5.tg {w : World} {k : Nat} {room : Int} {sent : Nat} {ll : List WV} {O : List (Int × Int)} (h : yh5 w k room sent ll O) : TgK w k [k] := fun i hi => by
 simp at hi; subst hi
 obtain ⟨sl, so, h1, _⟩ := h
 exact ⟨Nat.le_refl _, _, _, h1, .inl rfl⟩
def ycP (z : Int × Int) (a b : Int) : Bool := (z.1 == a && z.2 == b) || (z.1 == b && z.2 == a)
def ynL (O : List (Int × Int)) (a b : Int) : Bool := O.any fun z => ycP z a b
def yGv (O : List (Int × Int)) (a b : Int) (is : Bool) : List (Int × Int) := if is = true ∧ a ≠ b then O.filter (fun z => !ycP z a b) ++ [(a, b)] else O.filter fun z => !ycP z a b
def kfind (ll : List WV) (id : Int) : Option MV := (ll.find? fun y => y.id == id).map (·.v)
def mv0 : MV := ⟨ycW, ybS, ybS, ybS⟩
def kE (ll : List WV) (O : List (Int × Int)) (id : Int) : Int := match kfind ll id with
 | none => 210
 | some v => if ynL O v.m.fr v.m.to = true then 211 else 0
def kV (ll : List WV) (O : List (Int × Int)) (id : Int) : MV := match kfind ll id with
 | none => mv0
 | some v => if ynL O v.m.fr v.m.to = true then mv0 else v
def klose (ll : List WV) (id : Int) : List WV := ll.filter fun y => y.id != id
theorem yIu {room : Int} (hr : 1 ≤ room ∧ room ≤ 4096) (w : World) :
  Calls pP 20 #[.int .i64 room] w fun e w' => ∃ v, e = .returned v ∧ ∃ k, v = .tuple #[.pointer (some ⟨k, 0, none⟩), .int .i64 0] ∧ w.heap.size ≤ k ∧ yh5 w' k room 0 [] [] ∧ Mod [] w w' := by
 refine yIg ?_
 refine yaE (fun g => by omega) fun _ => ?_
 refine yaE (fun g => by omega) fun _ => ?_
 intro b1 f1 w2 A2 h2
 exact ⟨b1, rfl, f1, ⟨ybS, ybS, h2, Row.nil _ _ _ _ _, Row.nil _ _ _ _ _⟩, A2.mod⟩
theorem ylJ {w : World} {k : Nat} {room : Int} {sent : Nat} {ll : List WV} {O : List (Int × Int)} (h : yh5 w k room sent ll O) (hO : O.length ≤ 1000000) (x y : Int) :
  Calls pP 27 #[.pointer (some ⟨k, 0, none⟩), .int .i64 x, .int .i64 y] w fun e w' => e = .returned (.bool (ynL O x y)) ∧ Mod [] w w' := by
 obtain ⟨sl, so, h1, h2, h3⟩ := h
 refine yaQ (yIi h1 ?_)
 have hn := h3.1
 refine yzJ (fun mm i w' => ∃ j : Nat, i = j ∧ j ≤ O.length ∧ (O.take j).any (ycP · x y) = false ∧ Mod [] w w' ∧ mm = O.length - j) O.length ⟨0, rfl, by omega, by simp, Mod.refl _, rfl⟩ ?_
 rintro mm i w1 ⟨j, rfl, hj, ht, M1, rfl⟩
 refine yaE (fun hlt => ?_) fun hge => ?_
 ·obtain ⟨z, hz⟩ : ∃ z, O[j]? = some z := ⟨_, List.getElem?_eq_getElem (by omega)⟩
  refine ((h3.keep0 M1).sl yw5).ix hz fun q hq => yaB (x := z.1) (by simpa [add_zero] using hq 0 _ rfl) (yaB (x := z.2) (hq 1 _ rfl) ?_)
  intro b4 f4
  have hp : ycP z x y = ((z.1 == x && z.2 == y) || (z.1 == y && z.2 == x)) := rfl
  have yes : ∀ {w5 : World}, ycP z x y = true → Mod [] w1 w5 → ((Value.bool true = .bool (ynL O x y)) ∧ Mod [] w w5) := fun g M => ⟨by rw [ynL, List.any_eq_true.2 ⟨z, List.mem_of_getElem? hz, g⟩], M1.go0 M (by simp)⟩
  have no : ycP z x y = false → (O.take (j + 1)).any (ycP · x y) = false := fun g => by rw [List.take_add_one, hz, List.any_append, ht]; simp [g]
  have e1 : IntKind.wrap .i64 ((j : Int) + 1) = ((j + 1 : Nat) : Int) := by rw [yaH (by omega) (by omega)]; omega
  refine yaC (fun g1 => yaC (fun g2 => fun w5 A5 _ => yes (by rw [hp, g1, g2]; rfl) A5.mod) fun g2 => yaC (fun g3 => yaC (fun g4 => fun w5 A5 _ => yes (by rw [hp, g1, g2, g3, g4]; rfl) A5.mod) fun g4 => fun w5 A5 => ?_) fun g3 => fun w5 A5 => ?_) fun g1 => yaC (fun g3 => yaC (fun g4 => fun w5 A5 _ => yes (by rw [hp, g1, g3, g4]; rfl) A5.mod) fun g4 => fun w5 A5 => ?_) fun g3 => fun w5 A5 => ?_
  ·exact ygN (O.length - (j + 1)) (by omega) ⟨j + 1, e1, by omega, no (by rw [hp, g1, g2, g3, g4]; rfl), M1.go0 A5.mod (by simp), rfl⟩
  ·exact ygN (O.length - (j + 1)) (by omega) ⟨j + 1, e1, by omega, no (by rw [hp, g1, g2, g3]; rfl), M1.go0 A5.mod (by simp), rfl⟩
  ·exact ygN (O.length - (j + 1)) (by omega) ⟨j + 1, e1, by omega, no (by rw [hp, g1, g3, g4]; rfl), M1.go0 A5.mod (by simp), rfl⟩
  ·exact ygN (O.length - (j + 1)) (by omega) ⟨j + 1, e1, by omega, no (by rw [hp, g1, g3]; rfl), M1.go0 A5.mod (by simp), rfl⟩
 ·intro w2 A2 _
  rw [List.take_of_length_le (by omega)] at ht
  exact ⟨by rw [ynL, ht], M1.go0 A2.mod (by simp)⟩
set_option maxHeartbeats 2000000 in
theorem yr5 {w : World} {k : Nat} {room : Int} {sent : Nat} {ll : List WV} {O : List (Int × Int)} (h : yh5 w k room sent ll O) (hl : ll.length ≤ 1000000) (hO : O.length ≤ 1000000) (id : Int) :
  Calls pP 23 #[.pointer (some ⟨k, 0, none⟩), .int .i64 id] w fun e w' => e = .returned (.tuple #[(kV ll O id).v, .int .i64 (kE ll O id)]) ∧ Mod [] w w' := by
 have h0 := h
 obtain ⟨sl, so, h1, h2, h3⟩ := h
 refine yaQ (yIj h1 ?_)
 intro b1 f1 w47 A47
 have hn := h2.1
 have k1 : ∀ i ∈ [b1], w.heap.size ≤ i := by simpa using f1
 refine yzL (fun mm i w' => ∃ j : Nat, i = j ∧ j ≤ ll.length ∧ (ll.take j).find? (fun y => y.id == id) = none ∧ Mod [] w w' ∧ mm = ll.length - j) ll.length ⟨0, rfl, by omega, by simp, A47.mod, rfl⟩ ?_
 rintro mm i w1 ⟨j, rfl, hj, ht, M1, rfl⟩
 refine yaE (fun hlt => ?_) fun hge => ?_
 ·obtain ⟨z, hz⟩ : ∃ z, ll[j]? = some z := ⟨_, List.getElem?_eq_getElem (by omega)⟩
  have sl1 := (h2.keep0 M1).sl WV.cs_len
  refine sl1.ix hz fun q hq => yaB (x := z.id) (by simpa [add_zero] using hq 0 _ rfl) ?_
  refine yaC (fun g => ?_) fun g => ?_
  ·have hf : kfind ll id = some z.v := by
    rw [kfind, ← List.take_append_drop j ll, List.find?_append, ht, List.drop_eq_getElem_cons (List.getElem?_eq_some_iff.1 hz).1, (List.getElem?_eq_some_iff.1 hz).2, List.find?_cons, g]; rfl
   refine sl1.ixW hz fun q4 hq4 => ?_
   intro w5 A5
   refine yaB (x := z.v.m.fr) (by rw [ydA]; exact hq4 w5 A5.mod 2 _ rfl) ?_
   refine sl1.ixW hz fun q7 hq7 => ?_
   refine yaB (x := z.v.m.to) (by rw [ydA]; exact hq7 w5 A5.mod 3 _ rfl) ?_
   intro w9 A9 h9
   have N9 : Mod [] w w9 := (M1.go0 A5.mod (by simp)).go0 A9.mod (by simp)
   refine (ylJ (h0.keep0 N9) hO z.v.m.fr z.v.m.to).mono ?_
   rintro _ w10 ⟨rfl, M10⟩
   have N10 := N9.go0 M10 (by simp)
   refine ⟨_, rfl, yaD.of0 M10, _, _, _, _, _, _, _, _, N10.keep0 h1, ?_⟩
   refine yaC (fun g2 => fun w20 A20 _ => ⟨?_, N10.go0 A20.mod k1⟩) fun g2 => ?_
   ·rw [kV, kE, hf]; simp only [g2, if_true]; rfl
   ·refine ((h2.keep0 N10).sl WV.cs_len).ix hz fun q21 hq21 => ?_
    refine yL1 (m := z.v.m) (s := z.v.s) (f := z.v.f) (p := z.v.p) (fun j v hv => by rw [ydA, Nat.add_comm]; exact hq21 (j + 1) v hv) ?_
    intro w45 A45 _
    refine ⟨?_, N10.go0 A45.mod k1⟩
    rw [kV, kE, hf]; simp only [g2]; rfl
  ·have e1 : IntKind.wrap .i64 ((j : Int) + 1) = ((j + 1 : Nat) : Int) := by rw [yaH (by omega) (by omega)]; omega
   exact yzK (ll.length - (j + 1)) (by omega) ⟨j + 1, e1, by omega, by rw [List.take_add_one, hz, List.find?_append, ht]; simp [g], M1, rfl⟩
 ·intro w46 A46 _
  rw [List.take_of_length_le (by omega)] at ht
  refine ⟨?_, M1.go0 A46.mod k1⟩
  have hf : kfind ll id = none := by rw [kfind, ht]; rfl
  rw [kV, kE, hf]; rfl
theorem ycM {α : Type} {w : World} {base T sz : Nat} {enc : α → List Value} {a : Option Addr} {n c : Nat} {l : List α} (h : Row w base T sz enc a n c l) : ∀ i ∈ ydY a, base ≤ i ∧ i < w.heap.size := fun i hi => ⟨(ya0 h i hi).1, (ya0 h i hi).2.1⟩
set_option maxHeartbeats 2000000 in
theorem yw6 {w : World} {k : Nat} {room : Int} {sent : Nat} {ll : List WV} {O : List (Int × Int)} {sl so : Sl} (h1 : w.heap[k]? = some (.cells #[.int .i64 room, .int .i64 (sent : Nat), .slice sl.a sl.n sl.c, .slice so.a so.n so.c] 91)) (h2 : Row w (k + 1) 93 18 WV.cs sl.a sl.n sl.c ll) (h3 : Row w (k + 1) 85 2 ylU so.a so.n so.c O) (hl : ll.length ≤ 1000) (id : Int) :
  Calls pP 24 #[.pointer (some ⟨k, 0, none⟩), .int .i64 id] w fun e w' => e = .returned (.int .i64 (if (klose ll id).length = ll.length then 210 else 0)) ∧ (∃ sl' : Sl, w'.heap[k]? = some (.cells #[.int .i64 room, .int .i64 (sent : Nat), .slice sl'.a sl'.n sl'.c, .slice so.a so.n so.c] 91) ∧ Row w' (k + 1) 93 18 WV.cs sl'.a sl'.n sl'.c (klose ll id) ∧ Row w' (k + 1) 85 2 ylU so.a so.n so.c O ∧ (∀ i ∈ ydY sl'.a, i ∈ ydY sl.a ∨ w.heap.size ≤ i)) ∧ Mod [k] w w' := by
 refine yaQ (yIk h1 ?_)
 refine ycR fun b1 w2 c2 M2 f2 => ?_
 have hn := h2.1
 have lk := yaK h1
 refine yzM (fun mm a n c i w' => ∃ j : Nat, i = j ∧ j ≤ ll.length ∧ Row w' w.heap.size 93 18 WV.cs a n c (klose (ll.take j) id) ∧ Mod [] w w' ∧ mm = ll.length - j) ll.length ⟨0, rfl, by omega, Row.fresh0 c2 f2, M2, rfl⟩ ?_
 rintro mm a n c i w3 ⟨j, rfl, hj, hR, M3, rfl⟩
 refine yaE (fun hlt => ?_) fun hge => ?_
 ·obtain ⟨z, hz⟩ : ∃ z, ll[j]? = some z := ⟨_, List.getElem?_eq_getElem (by omega)⟩
  have sl1 := (h2.keep0 M3).sl WV.cs_len
  have e1 : IntKind.wrap .i64 ((j : Int) + 1) = ((j + 1 : Nat) : Int) := by rw [yaH (by omega) (by omega)]; omega
  have s3 := M3.size
  refine sl1.ix hz fun q hq => yaB (x := z.id) (by simpa [add_zero] using hq 0 _ rfl) ?_
  refine yaC (fun g => ?_) fun g => ?_
  ·have ek : klose (ll.take (j + 1)) id = klose (ll.take j) id ++ [z] := by
    rw [klose, List.take_add_one, hz, List.filter_append]; simp [klose, g]
   refine sl1.ix hz fun q hq => yMO (z := z) hq ?_
   have hlen : (klose (ll.take j) id).length ≤ 1000 := by
    have := List.length_filter_le (fun y : WV => y.id != id) (ll.take j)
    rw [List.length_take] at this; unfold klose; omega
   refine yDl (f := ⟨a, n, c⟩) (y := z) hR (by omega) s3 (fun b hb => ?_) fun a' c' w' hR' M' => ?_
   ·simp at hb; subst hb
    intro hk; have := (ycM hR _ hk).1; omega
   ·exact ynI (ll.length - (j + 1)) (by omega) ⟨j + 1, e1, by omega, by rw [ek]; exact hR', M3.go0 M' fun i hi => (ycM hR i hi).1, rfl⟩
  ·have ek : klose (ll.take (j + 1)) id = klose (ll.take j) id := by
    rw [klose, List.take_add_one, hz, List.filter_append]; simp [klose, g]
   exact ynI (ll.length - (j + 1)) (by omega) ⟨j + 1, e1, by omega, by rw [ek]; exact hR, M3, rfl⟩
 ·rw [List.take_of_length_le (by omega)] at hR
  have hn2 := hR.1
  refine yaC (fun g => fun w4 A4 h4 => ?_) fun g => fun w4 A4 h4 => ?_
  ·have g : (klose ll id).length = ll.length := by
    have g : (n : Int) = sl.n := by simpa using g
    omega
   have e : klose ll id = ll := by
    unfold klose at g ⊢
    exact List.filter_eq_self.2 fun y hy => (List.length_filter_eq_length_iff.1 g) y hy
   rw [if_pos g, e]
   have N4 := M3.go0 A4.mod (by simp)
   exact ⟨rfl, ⟨sl, N4.keep0 h1, h2.keep0 N4, h3.keep0 N4, fun i hi => .inl hi⟩, N4.less (by simp)⟩
  ·have g : ¬ (klose ll id).length = ll.length := by
    have g : ¬ (n : Int) = sl.n := by simpa using g
    omega
   rw [if_neg g]
   have N4 : Mod [k] w w4 := (M3.trans A4.mod).less (by simp)
   refine ⟨rfl, ⟨⟨a, n, c⟩, h4, (hR.keep A4.mod fun ad ha hk => ?_).rebase (by omega), h3.keep N4 fun ad ha hk => ?_, fun i hi => .inr (ycM hR i hi).1⟩, N4⟩
   ·have := hR.base ad ha; simp at hk; omega
   ·obtain ⟨_, cur, hc⟩ := h3.block ad ha
    simp at hk; rw [hk, h1] at hc; cases hc
theorem yEV {w : World} {k : Nat} {room : Int} {sent : Nat} {ll : List WV} {O : List (Int × Int)} (h : yh5 w k room sent ll O) (hl : ll.length ≤ 1000) (id : Int) :
  Calls pP 24 #[.pointer (some ⟨k, 0, none⟩), .int .i64 id] w fun e w' => e = .returned (.int .i64 (if (klose ll id).length = ll.length then 210 else 0)) ∧ yh5 w' k room sent (klose ll id) O ∧ Mod [k] w w' := by
 obtain ⟨sl, so, h1, h2, h3⟩ := h
 exact (yw6 h1 h2 h3 hl id).mono fun e w' ⟨h4, ⟨sl', h5, h6, h7, _⟩, h8⟩ => ⟨h4, ⟨sl', so, h5, h6, h7⟩, h8⟩
set_option maxHeartbeats 2000000 in
theorem yEW {w : World} {k : Nat} {room : Int} {sent : Nat} {ll : List WV} {O : List (Int × Int)} {sl so : Sl} (h1 : w.heap[k]? = some (.cells #[.int .i64 room, .int .i64 (sent : Nat), .slice sl.a sl.n sl.c, .slice so.a so.n so.c] 91)) (h2 : Row w (k + 1) 93 18 WV.cs sl.a sl.n sl.c ll) (h3 : Row w (k + 1) 85 2 ylU so.a so.n so.c O) (hl : ll.length ≤ 1000) (hO : O.length ≤ 1000000) (id : Int) :
  Calls pP 22 #[.pointer (some ⟨k, 0, none⟩), .int .i64 id] w fun e w' => e = .returned (.tuple #[(kV ll O id).v, .int .i64 (kE ll O id)]) ∧ (∃ sl' : Sl, w'.heap[k]? = some (.cells #[.int .i64 room, .int .i64 (sent : Nat), .slice sl'.a sl'.n sl'.c, .slice so.a so.n so.c] 91) ∧ Row w' (k + 1) 93 18 WV.cs sl'.a sl'.n sl'.c (if kE ll O id = 0 then klose ll id else ll) ∧ Row w' (k + 1) 85 2 ylU so.a so.n so.c O ∧ (∀ i ∈ ydY sl'.a, i ∈ ydY sl.a ∨ w.heap.size ≤ i)) ∧ Mod [k] w w' := by
 have h0 : yh5 w k room sent ll O := ⟨sl, so, h1, h2, h3⟩
 have lk := yaK h1
 refine yaQ (yIl h1 ?_)
 intro b1 f1 w2 A2 _
 have k1 : ∀ i ∈ [b1], w.heap.size ≤ i := by simpa using f1
 refine (yr5 (h0.keep0 A2.mod) (by omega) hO id).mono ?_
 rintro _ w3 ⟨rfl, M3⟩
 have N3 := A2.mod.go0 M3 (by simp)
 refine ⟨_, _, _, _, _, _, _, _, _, _, _, _, _, _, _, _, _, _, _, _, _, _, _, _, rfl, yaD.of0 M3, _, _, _, _, _, _, _, _, N3.keep0 h1, ?_⟩
 intro b36 f36
 refine yaC (fun g => fun w37 A37 _ => ?_) fun g => fun w49 A49 h49 => ?_
 ·have g : kE ll O id = 0 := by simpa using g
  have N37 := N3.go0 A37.mod (by simp)
  have s3 := N3.size
  have s2 := A2.mod.size
  have l1 := A2.lt b1 (by simp)
  have s37 := (M3.go0 A37.mod (by simp)).size
  refine (yw6 (N37.keep0 h1) (h2.keep0 N37) (h3.keep0 N37) hl id).mono ?_
  rintro _ w38 ⟨rfl, ⟨sl', h41, h42, h43, h44⟩, M38⟩
  refine ⟨_, rfl, yaD.of M38 (by simp; omega), _, _, _, _, _, _, _, _, h41, ?_⟩
  intro w48 A48 _
  rw [if_pos g]
  have N48 : Mod [k] w w48 := ((N37.trans M38).trans A48.mod).less fun i hi hlt => by simp at hi ⊢; omega
  refine ⟨rfl, ⟨sl', A48.mod.keep h41 (by simp; omega), h42.keep A48.mod fun ad ha hk => ?_, h43.keep A48.mod fun ad ha hk => ?_, fun i hi => (h44 i hi).imp (fun h => h) fun hh => by have := N37.size; omega⟩, N48⟩
  ·simp at hk
   rcases h44 _ (ybY _ _ ha) with hh | hh
   ·have := (ycM h2 _ hh).2; omega
   ·omega
  ·have := (ycM h3 _ (ybY _ _ ha)).2; simp at hk; omega
 ·have g : ¬ kE ll O id = 0 := by simpa using g
  rw [if_neg g]
  have N49 := N3.go0 A49.mod k1
  exact ⟨rfl, ⟨sl, N49.keep0 h1, h2.keep0 N49, h3.keep0 N49, fun i hi => .inl hi⟩, N49.less (by simp)⟩
set_option maxHeartbeats 2000000 in
theorem yDn {w : World} {k : Nat} {room : Int} {sent : Nat} {ll : List WV} {O : List (Int × Int)} (h : yh5 w k room sent ll O) (hO : O.length ≤ 1000) (x y : Int) (is : Bool) :
  Calls pP 25 #[.pointer (some ⟨k, 0, none⟩), .int .i64 x, .int .i64 y, .bool is] w fun e w' => e = .returned (.tuple #[]) ∧ yh5 w' k room sent ll (yGv O x y is) ∧ Mod [k] w w' := by
 have h0 := h
 obtain ⟨sl, so, h1, h2, h3⟩ := h
 refine yaQ (yIm h1 ?_)
 refine ycR fun b1 w2 c2 M2 f2 => ?_
 have hn := h3.1
 have lk := yaK h1
 refine yzN (fun mm a n c i w' => ∃ j : Nat, i = j ∧ j ≤ O.length ∧ Row w' w.heap.size 85 2 ylU a n c ((O.take j).filter fun z => !ycP z x y) ∧ Mod [] w w' ∧ mm = O.length - j) O.length ⟨0, rfl, by omega, Row.fresh0 c2 f2, M2, rfl⟩ ?_
 rintro mm a n c i w3 ⟨j, rfl, hj, hR, M3, rfl⟩
 have s3 := M3.size
 have hlen : ((O.take j).filter fun z => !ycP z x y).length ≤ 1000 := by
  have := List.length_filter_le (fun z => !ycP z x y) (O.take j)
  rw [List.length_take] at this; omega
 refine yaE (fun hlt => ?_) fun hge => ?_
 ·obtain ⟨z, hz⟩ : ∃ z, O[j]? = some z := ⟨_, List.getElem?_eq_getElem (by omega)⟩
  have e1 : IntKind.wrap .i64 ((j : Int) + 1) = ((j + 1 : Nat) : Int) := by rw [yaH (by omega) (by omega)]; omega
  refine ((h3.keep0 M3).sl yw5).ix hz fun q hq => yaB (x := z.1) (by simpa [add_zero] using hq 0 _ rfl) (yaB (x := z.2) (hq 1 _ rfl) ?_)
  intro b6 f6
  have hp : ycP z x y = ((z.1 == x && z.2 == y) || (z.1 == y && z.2 == x)) := rfl
  have yes : ∀ {w5 : World}, ycP z x y = true → Mod [] w3 w5 → KS (yeW x y is k room sent sl.a sl.n sl.c so.a so.n so.c (fun mm a n c i w' => ∃ j : Nat, i = j ∧ j ≤ O.length ∧ Row w' w.heap.size 85 2 ylU a n c ((O.take j).filter fun z => !ycP z x y) ∧ Mod [] w w' ∧ mm = O.length - j) (O.length - j)) (yc3 x y is k room sent sl.a sl.n sl.c so.a so.n so.c (a, n, c, IntKind.wrap .i64 ((j : Int) + 1))) w5 := fun {w5} g M5 =>
   ynJ (O.length - (j + 1)) (by omega) ⟨j + 1, e1, by omega, by rw [List.take_add_one, hz, List.filter_append]; simp only [Option.toList_some, List.filter_cons, g, Bool.not_true, Bool.false_eq_true, if_false, List.filter_nil, List.append_nil]; exact hR.keep0 M5, M3.go0 M5 (by simp), rfl⟩
  have no : ∀ {w5 : World}, ycP z x y = false → Mod [] w3 w5 → b6 < w5.heap.size → al w5 (.cells (ylU z).toArray 85) fun b w6 => ycE pP (Builtin.append_ #[89, 89] 89 #[.slice a n c, .slice (some ⟨b, 0, none⟩) 1 1]) w6 fun a' n' c' w7 => yaD [k, b6] w6 w7 ∧ KS (yeW x y is k room sent sl.a sl.n sl.c so.a so.n so.c (fun mm a n c i w' => ∃ j : Nat, i = j ∧ j ≤ O.length ∧ Row w' w.heap.size 85 2 ylU a n c ((O.take j).filter fun z => !ycP z x y) ∧ Mod [] w w' ∧ mm = O.length - j) (O.length - j)) (yc3 x y is k room sent sl.a sl.n sl.c so.a so.n so.c (a', n', c', IntKind.wrap .i64 ((j : Int) + 1))) w7 := fun {w5} g M5 l5 => by
   have s5 := M5.size
   refine yDm (f := ⟨a, n, c⟩) (y := z) (hR.keep0 M5) (by omega) (by omega) (fun b hb hk => ?_) fun a' c' w' hR' M' => ?_
   ·have := ycM hR _ hk
    simp at hb; omega
   ·exact ynJ (O.length - (j + 1)) (by omega) ⟨j + 1, e1, by omega, by rw [List.take_add_one, hz, List.filter_append]; simp only [Option.toList_some, List.filter_cons, g, Bool.not_false, if_true, List.filter_nil]; exact hR', (M3.go0 M5 (by simp)).go0 M' fun i hi => (ycM hR i hi).1, rfl⟩
  refine yaC (fun g1 => yaC (fun g2 => fun w5 A5 => yes (by rw [hp, g1, g2]; rfl) A5.mod) fun g2 => yaC (fun g3 => yaC (fun g4 => fun w5 A5 => no ?_ A5.mod (A5.lt b6 (by simp))) fun g4 => fun w5 A5 => yes ?_ A5.mod) fun g3 => fun w5 A5 => no (by rw [hp, g1, g2, g3]; rfl) A5.mod (A5.lt b6 (by simp))) fun g1 => yaC (fun g3 => yaC (fun g4 => fun w5 A5 => no ?_ A5.mod (A5.lt b6 (by simp))) fun g4 => fun w5 A5 => yes ?_ A5.mod) fun g3 => fun w5 A5 => no (by rw [hp, g1, g3]; rfl) A5.mod (A5.lt b6 (by simp))
  ·have g4 : (z.2 == x) = false := by simpa using g4
   rw [hp, g1, g2, g3, g4]; rfl
  ·have g4 : (z.2 == x) = true := by simpa using g4
   rw [hp, g1, g2, g3, g4]; rfl
  ·have g4 : (z.2 == x) = false := by simpa using g4
   rw [hp, g1, g3, g4]; rfl
  ·have g4 : (z.2 == x) = true := by simpa using g4
   rw [hp, g1, g3, g4]; rfl
 ·rw [List.take_of_length_le (by omega)] at hR hlen
  have fin : ∀ {w5 : World} {a n : _} {c : Nat} {Q : List (Int × Int)}, Row w5 w.heap.size 85 2 ylU a n c Q → Mod [] w w5 → ∀ w6, Adv [k] [] w5 w6 → w6.heap[k]? = some (.cells #[.int .i64 room, .int .i64 (sent : Nat), .slice sl.a sl.n sl.c, .slice a n c] 91) → yh5 w6 k room sent ll Q ∧ Mod [k] w w6 := fun {w5 a n c Q} hR5 M5 w6 A6 h6 => by
   have N6 : Mod [k] w w6 := (M5.trans A6.mod).less (by simp)
   refine ⟨⟨sl, ⟨a, n, c⟩, h6, h2.keep N6 fun ad ha hk => ?_, (hR5.keep A6.mod fun ad ha hk => ?_).rebase (by omega)⟩, N6⟩
   ·obtain ⟨_, cur, hc⟩ := h2.block ad ha
    simp at hk; rw [hk, h1] at hc; cases hc
   ·have := hR5.base ad ha; simp at hk; omega
  refine yaC (fun g1 => yaC (fun g2 => ?_) fun g2 => fun w6 A6 h6 => ?_) fun g1 => fun w6 A6 h6 => ?_
  ·have g2 : x ≠ y := by simpa using g2
   refine yDm (f := ⟨a, n, c⟩) (y := (x, y)) hR (by omega) s3 (fun b hb hk => ?_) fun a' c' w' hR' M' => ?_
   ·have := ycM hR _ hk
    simp at hb; omega
   ·intro w6 A6 h6
    rw [yGv, if_pos ⟨g1, g2⟩]
    exact ⟨rfl, fin hR' (M3.go0 M' fun i hi => (ycM hR i hi).1) w6 A6 h6⟩
  ·have g2 : ¬ x ≠ y := by simpa using g2
   rw [yGv, if_neg fun g => g2 g.2]
   exact ⟨rfl, fin hR M3 w6 A6 h6⟩
  ·rw [yGv, if_neg fun g => by rw [g1] at g; exact absurd g.1 (by decide)]
   exact ⟨rfl, fin hR M3 w6 A6 h6⟩
theorem yIv {w : World} {k : Nat} {room : Int} {sent : Nat} {ll : List WV} {O : List (Int × Int)} (h : yh5 w k room sent ll O) (hl : ll.length ≤ 1000) :
  Calls pP 29 #[.pointer (some ⟨k, 0, none⟩)] w fun e w' => ∃ v, e = .returned v ∧ ∃ (a : Option Addr) (n c : Nat), v = .slice a n c ∧ Row w' w.heap.size 3 1 yjK a n c (ll.map (·.id)) ∧ Mod [] w w' := by
 obtain ⟨sl, so, h1, h2, h3⟩ := h
 refine yIn h1 ?_
 refine ycR fun b1 w2 c2 M2 f2 => ?_
 have hn := h2.1
 have lk := yaK h1
 refine yzP (fun mm a n c i w' => ∃ j : Nat, i = j ∧ j ≤ ll.length ∧ Row w' w.heap.size 3 1 yjK a n c ((ll.take j).map (·.id)) ∧ Mod [] w w' ∧ mm = ll.length - j) ll.length ⟨0, rfl, by omega, Row.fresh0 c2 f2, M2, rfl⟩ ?_
 rintro mm a n c i w3 ⟨j, rfl, hj, hR, M3, rfl⟩
 have s3 := M3.size
 refine yaE (fun hlt => ?_) fun hge => ?_
 ·obtain ⟨z, hz⟩ : ∃ z, ll[j]? = some z := ⟨_, List.getElem?_eq_getElem (by omega)⟩
  have e1 : IntKind.wrap .i64 ((j : Int) + 1) = ((j + 1 : Nat) : Int) := by rw [yaH (by omega) (by omega)]; omega
  refine ((h2.keep0 M3).sl WV.cs_len).ix hz fun q hq => yaB (x := z.id) (by simpa [add_zero] using hq 0 _ rfl) ?_
  refine yuF (f := ⟨a, n, c⟩) (y := z.id) hR (by rw [List.length_map, List.length_take]; omega) s3 (fun b hb hk => ?_) fun a' c' w' hR' M' => ?_
  ·have := ycM hR _ hk
   simp at hb; omega
  ·exact yzO (ll.length - (j + 1)) (by omega) ⟨j + 1, e1, by omega, by rw [List.take_add_one, hz, List.map_append]; exact hR', M3.go0 M' fun i hi => (ycM hR i hi).1, rfl⟩
 ·intro w4 A4 _
  rw [List.take_of_length_le (by omega)] at hR
  exact ⟨a, n, c, rfl, hR.keep0 A4.mod, M3.go0 A4.mod (by simp)⟩
def krdy (ll : List WV) (O : List (Int × Int)) : List Int := (ll.filter fun y => !ynL O y.v.m.fr y.v.m.to).map (·.id)
set_option maxHeartbeats 2000000 in
theorem yDo {w : World} {k : Nat} {room : Int} {sent : Nat} {ll : List WV} {O : List (Int × Int)} (h : yh5 w k room sent ll O) (hl : ll.length ≤ 1000) (hO : O.length ≤ 1000000) :
  Calls pP 30 #[.pointer (some ⟨k, 0, none⟩)] w fun e w' => ∃ v, e = .returned v ∧ ∃ (a : Option Addr) (n c : Nat), v = .slice a n c ∧ Row w' w.heap.size 3 1 yjK a n c (krdy ll O) ∧ Mod [] w w' := by
 have h0 := h
 obtain ⟨sl, so, h1, h2, h3⟩ := h
 refine yIo h1 ?_
 refine ycR fun b1 w2 c2 M2 f2 => ?_
 intro w26 A26 _
 have hn := h2.1
 have lk := yaK h1
 refine yzQ (fun mm a n c i y0 y1 a2 n2 c2 a3 n3 c3 w' => ∃ j : Nat, i = j ∧ y0 = room ∧ y1 = (sent : Nat) ∧ a2 = sl.a ∧ n2 = sl.n ∧ c2 = sl.c ∧ a3 = so.a ∧ n3 = so.n ∧ c3 = so.c ∧ j ≤ ll.length ∧ Row w' w.heap.size 3 1 yjK a n c (krdy (ll.take j) O) ∧ Mod [] w w' ∧ mm = ll.length - j) ll.length ⟨0, rfl, rfl, rfl, rfl, rfl, rfl, rfl, rfl, rfl, by omega, (Row.fresh0 c2 f2).keep0 A26.mod, M2.go0 A26.mod (by simp), rfl⟩ ?_
 rintro mm a n c i y0 y1 a2 n2 c2 a3 n3 c3 w3 ⟨j, rfl, rfl, rfl, rfl, rfl, rfl, rfl, rfl, rfl, hj, hR, M3, rfl⟩ _
 have s3 := M3.size
 refine yaE (fun hlt => ?_) fun hge => ?_
 ·obtain ⟨z, hz⟩ : ∃ z, ll[j]? = some z := ⟨_, List.getElem?_eq_getElem (by omega)⟩
  have e1 : IntKind.wrap .i64 ((j : Int) + 1) = ((j + 1 : Nat) : Int) := by rw [yaH (by omega) (by omega)]; omega
  have sl3 := (h2.keep0 M3).sl WV.cs_len
  refine sl3.ixW hz fun q hq => ?_
  intro w4 A4 _
  refine yaB (x := z.v.m.fr) (by rw [ydA]; exact hq w4 A4.mod 2 _ rfl) ?_
  refine sl3.ixW hz fun q hq => ?_
  refine yaB (x := z.v.m.to) (by rw [ydA]; exact hq w4 A4.mod 3 _ rfl) ?_
  have N4 := M3.go0 A4.mod (by simp)
  refine (ylJ (h0.keep0 N4) hO z.v.m.fr z.v.m.to).mono ?_
  rintro _ w8 ⟨rfl, M8⟩
  have N8 := N4.go0 M8 (by simp)
  have K8 : Mod [] w3 w8 := A4.mod.go0 M8 (by simp)
  refine ⟨_, rfl, _, _, _, _, _, _, _, _, N8.keep0 h1, ?_⟩
  refine yaC (fun g => ?_) fun g => ?_
  ·have ek : krdy (ll.take (j + 1)) O = krdy (ll.take j) O ++ [z.id] := by
    rw [krdy, List.take_add_one, hz, List.filter_append, List.map_append]; simp only [Option.toList_some, List.filter_cons, g, if_true, List.filter_nil]; rfl
   have hlen : (krdy (ll.take j) O).length ≤ 1000 := by
    have := List.length_filter_le (fun y : WV => !ynL O y.v.m.fr y.v.m.to) (ll.take j)
    rw [List.length_take] at this; unfold krdy; rw [List.length_map]; omega
   refine ((h2.keep0 N8).sl WV.cs_len).ix hz fun q hq => yaB (x := z.id) (by simpa [add_zero] using hq 0 _ rfl) ?_
   refine yuF (f := ⟨a, n, c⟩) (y := z.id) (hR.keep0 K8) (by omega) N8.size (fun b hb hk => ?_) fun a' c' w' hR' M' => ?_
   ·have := ycM hR _ hk
    simp at hb; omega
   ·exact ynK (ll.length - (j + 1)) (by omega) ⟨j + 1, e1, rfl, rfl, rfl, rfl, rfl, rfl, rfl, rfl, by omega, by rw [ek]; exact hR', N8.go0 M' fun i hi => (ycM hR i hi).1, rfl⟩
  ·have ek : krdy (ll.take (j + 1)) O = krdy (ll.take j) O := by
    rw [krdy, List.take_add_one, hz, List.filter_append, List.map_append]; simp only [Option.toList_some, List.filter_cons, g, Bool.false_eq_true, if_false, List.filter_nil, List.map_nil, List.append_nil]; rfl
   exact ynK (ll.length - (j + 1)) (by omega) ⟨j + 1, e1, rfl, rfl, rfl, rfl, rfl, rfl, rfl, rfl, by omega, by rw [ek]; exact hR.keep0 K8, N8, rfl⟩
 ·rw [List.take_of_length_le (by omega)] at hR
  exact ⟨a, n, c, rfl, hR, M3⟩
def ksend (room : Int) (ll : List WV) (m : PMail) : Int := if ybK m ≠ 0 then ybK m else if (ll.length : Int) ≥ room then 2 else 0
set_option maxHeartbeats 2000000 in
theorem yEX {w : World} {k : Nat} {room : Int} {sent : Nat} {ll : List WV} {O : List (Int × Int)} {sl so : Sl} (h : w.heap[k]? = some (.cells #[.int .i64 room, .int .i64 (sent : Nat), .slice sl.a sl.n sl.c, .slice so.a so.n so.c] 91) ∧ Row w (k + 1) 93 18 WV.cs sl.a sl.n sl.c ll ∧ Row w (k + 1) 85 2 ylU so.a so.n so.c O) (hl : ll.length ≤ 1000) (hs : sent ≤ 1000000) {m : PMail} {s f p : Sl} (hm : MailAt w m s f p) (hlc : m.calls.length ≤ 100000) :
  Calls pP 21 #[.pointer (some ⟨k, 0, none⟩), m.v s f p] w fun e w' => e = .returned (.tuple #[.int .i64 (if ksend room ll m = 0 then ((sent + 1 : Nat) : Int) else 0), .int .i64 (ksend room ll m)]) ∧
   (yh5 w' k room (if ksend room ll m = 0 then sent + 1 else sent) (if ksend room ll m = 0 then ll ++ [⟨((sent + 1 : Nat) : Int), ⟨m, s, f, p⟩⟩] else ll) O) ∧ Mod (k :: ydY sl.a) w w' := by
 have h0 : yh5 w k room sent ll O := ⟨sl, so, h⟩
 obtain ⟨h1, h2, h3⟩ := h
 refine yaQ (yIh h1 ?_)
 intro b1 f1 w2 A2
 have hn := h2.1
 have lk := yaK h1
 refine (yC6 (hm.keep0 A2.mod) hlc).mono ?_
 rintro _ w3 ⟨rfl, M3⟩
 have N3 := A2.mod.go0 M3 (by simp)
 refine ⟨_, _, rfl, yaD.of0 M3, ?_⟩
 refine yaC (fun g => fun w6 A6 _ => ?_) fun g => ?_
 ·have g : ybK m ≠ 0 := by simpa using g
  have e : ksend room ll m = ybK m := by rw [ksend, if_pos g]
  rw [e, if_neg g, if_neg g, if_neg g]
  have N6 := N3.go0 A6.mod (by simp)
  exact ⟨rfl, h0.keep0 N6, N6.less (by simp)⟩
 have g : ybK m = 0 := by simpa using g
 refine yaE (fun g2 => fun w7 A7 _ => ?_) fun g2 => ?_
 ·have e : ksend room ll m = 2 := by rw [ksend, if_neg (by simpa using g), if_pos (by omega)]
  rw [e, if_neg (by decide), if_neg (by decide), if_neg (by decide)]
  have N7 := N3.go0 A7.mod (by simp)
  exact ⟨rfl, h0.keep0 N7, N7.less (by simp)⟩
 have e : ksend room ll m = 0 := by rw [ksend, if_neg (by simpa using g), if_neg (by omega)]
 rw [e, if_pos rfl, if_pos rfl, if_pos rfl]
 have e1 : IntKind.wrap .i64 ((sent : Nat) + 1 : Int) = ((sent + 1 : Nat) : Int) := by rw [yaH (by omega) (by omega)]; omega
 rw [e1]
 intro w8 A8
 have N8 : Mod [k] w w8 := (N3.trans A8.mod).less (by simp)
 have nk : ∀ i ∈ ydY sl.a, i ≠ k := fun i hi e => by
  obtain ⟨_, _, cur, hc⟩ := ya0 h2 i hi
  rw [e, h1] at hc; cases hc
 have h28 : Row w8 (k + 1) 93 18 WV.cs sl.a sl.n sl.c ll := h2.keep N8 fun ad ha hk => nk _ (ybY _ _ ha) (by simpa using hk)
 have no : ∀ i ∈ ydY so.a, i ∉ k :: ydY sl.a := fun i hi hk => by
  obtain ⟨_, _, cur, hc⟩ := ya0 h3 i hi
  rcases List.mem_cons.1 hk with e | hk
  ·rw [e, h1] at hc; cases hc
  ·obtain ⟨_, _, cur', hc'⟩ := ya0 h2 i hk
   rw [hc] at hc'; cases hc'
 have s2 := A2.mod.size
 refine yDl (f := sl) (y := ⟨((sent + 1 : Nat) : Int), ⟨m, s, f, p⟩⟩) h28 (by omega) (by have := N8.size; omega) (fun b hb hk => ?_) fun a' c' w' hR' M' => ?_
 ·have := nk _ hk
  have := (ycM h2 _ hk).2
  simp at hb; omega
 ·intro w15 A15 h15
  have N15 : Mod (k :: ydY sl.a) w w15 := ((N8.trans M').trans A15.mod).less fun i hi _ => by
   simp at hi ⊢; rcases hi with hi | hi | hi
   ·exact .inl hi
   ·exact .inr hi
   ·exact .inl hi
  refine ⟨rfl, ⟨⟨a', sl.n + 1, c'⟩, so, h15, hR'.keep A15.mod fun ad ha hk => ?_, h3.keep N15 fun ad ha hk => no _ (ybY _ _ ha) hk⟩, N15⟩
  ·have := hR'.base ad ha
   simp at hk; omega
theorem yL3 {w : World} {k : Nat} {room : Int} {sent : Nat} {ll : List WV} {O : List (Int × Int)} {sl so : Sl} (h : w.heap[k]? = some (.cells #[.int .i64 room, .int .i64 (sent : Nat), .slice sl.a sl.n sl.c, .slice so.a so.n so.c] 91) ∧ Row w (k + 1) 93 18 WV.cs sl.a sl.n sl.c ll ∧ Row w (k + 1) 85 2 ylU so.a so.n so.c O) : TgK w k (k :: ydY sl.a) := fun i hi => by
 obtain ⟨h1, h2, h3⟩ := h
 rcases List.mem_cons.1 hi with e | hi
 ·rw [e]; exact ⟨Nat.le_refl _, _, _, h1, .inl rfl⟩
 ·obtain ⟨hb, _, cur, hc⟩ := ya0 h2 i hi
  exact ⟨by omega, _, _, hc, .inr rfl⟩
structure WOp where
 kind : Int
 id : Int
 a : Int
 b : Int
 m : MR
def WOp.cs (q : WOp) : List Value := .int .i64 q.kind :: .int .i64 q.id :: .int .i64 q.a :: .int .i64 q.b :: q.m.cs
structure WOpRd (w : World) (q : WOp) : Prop where
 m : MailRd w q.m.m q.m.s q.m.f q.m.p
 id : r64 q.id
 a : r64 q.a
 b : r64 q.b
theorem yDp {n : Int} (h : (Lit.int .i64 n).wf = true) : r64 n := by
 simp [Lit.wf, IntKind.min, IntKind.max, IntKind.signed, IntKind.bits] at h; exact h
theorem cWO : Tryz.prog.cellsOf 64 = 21 := by kernel_rfl
theorem yEY (w : World) (row : List Value) (h : OkT pP w 64 row) (hl : row.length = Tryz.prog.cellsOf 64) : ∃ x : WOp, row = WOp.cs x ∧ WOpRd w x := by
 rw [cWO] at hl
 obtain ⟨_, hf⟩ := h.struct_inv Tryz.underlying64
 simp [cI, cMl] at hf
 obtain ⟨h1, h2, h3, h4, h5⟩ := hf
 match row, hl with
 | a :: b :: c :: d :: t, hl =>
  have hlt : t.length = 17 := by simpa using hl
  obtain ⟨x1, e1, _⟩ := h1.int_inv Tryz.underlying3
  obtain ⟨x2, e2, g2⟩ := h2.int_inv Tryz.underlying3
  obtain ⟨x3, e3, g3⟩ := h3.int_inv Tryz.underlying3
  obtain ⟨x4, e4, g4⟩ := h4.int_inv Tryz.underlying3
  obtain ⟨x5, e5, g5⟩ := yEy w _ h5 (by rw [cMl]; simp; omega)
  simp at e1 e2 e3 e4
  subst e1 e2 e3 e4
  refine ⟨⟨x1, x2, x3, x4, x5⟩, ?_, ⟨g5, yDp g2, yDp g3, yDp g4⟩⟩
  have ht : t = List.take 17 t := (List.take_of_length_le (by omega)).symm
  have e5 : List.take 17 t = x5.cs := e5
  rw [ht, e5]; rfl
theorem yL4 {w : World} {q : Addr} {z : WOp} {F : Int → Int → Int → Int → Int → Int → Int → Int → Int → Int → Int → Int → Int → Int → Option Addr → Nat → Nat → Int → Int → Int → Int → Option Addr → Nat → Nat → Option Addr → Nat → Nat → Prop} (c : ∀ j v, z.cs[j]? = some v → w.cell? (q.add j) = some v) (hF : F z.kind z.id z.a z.b z.m.m.kind z.m.m.fr z.m.m.to z.m.m.view z.m.m.normal z.m.m.last z.m.m.commit z.m.m.nonce z.m.m.base z.m.m.n z.m.s.a z.m.s.n z.m.s.c z.m.m.r.e z.m.m.r.off z.m.m.r.n z.m.m.r.gen z.m.f.a z.m.f.n z.m.f.c z.m.p.a z.m.p.n z.m.p.c) :
  yaF .i64 w q fun y0 => yaF .i64 w (q.add 1) fun y1 => yaF .i64 w (q.add 2) fun y2 => yaF .i64 w (q.add 3) fun y3 => yaF .i64 w (q.add 4) fun x0 => yaF .i64 w (q.add 5) fun x1 => yaF .i64 w (q.add 6) fun x2 => yaF .i64 w (q.add 7) fun x3 => yaF .i64 w (q.add 8) fun x4 => yaF .i64 w (q.add 9) fun x5 => yaF .i64 w (q.add 10) fun x6 => yaF .i64 w (q.add 11) fun x7 => yaF .i64 w (q.add 12) fun x8 => yaF .i64 w (q.add 13) fun x9 => yaS w (q.add 14) fun a10 n10 c10 => yaF .i64 w (q.add 15) fun x11 => yaF .i64 w (q.add 16) fun x12 => yaF .i64 w (q.add 17) fun x13 => yaF .i64 w (q.add 18) fun x14 => yaS w (q.add 19) fun a15 n15 c15 => yaS w (q.add 20) fun a16 n16 c16 => F y0 y1 y2 y3 x0 x1 x2 x3 x4 x5 x6 x7 x8 x9 a10 n10 c10 x11 x12 x13 x14 a15 n15 c15 a16 n16 c16 :=
 yaB (by have := c 0 _ rfl; rwa [add_zero] at this) (yaB (c 1 _ rfl) (yaB (c 2 _ rfl) (yaB (c 3 _ rfl) (yaB (c 4 _ rfl) (yaB (c 5 _ rfl) (yaB (c 6 _ rfl) (yaB (c 7 _ rfl) (yaB (c 8 _ rfl) (yaB (c 9 _ rfl) (yaB (c 10 _ rfl) (yaB (c 11 _ rfl) (yaB (c 12 _ rfl) (yaB (c 13 _ rfl) (ya5 (c 14 _ rfl) (yaB (c 15 _ rfl) (yaB (c 16 _ rfl) (yaB (c 17 _ rfl) (yaB (c 18 _ rfl) (ya5 (c 19 _ rfl) (ya5 (c 20 _ rfl) hF))))))))))))))))))))
def lof (ll : List WV) : PL := ll.map fun y => (y.id, y.v.m)
theorem yIw (ll : List WV) : (lof ll).length = ll.length := by simp [lof]
theorem yuO (ll : List WV) : (lof ll).map (·.1) = ll.map (·.id) := by simp [lof]
theorem yIx (ll : List WV) (y : WV) : lof (ll ++ [y]) = lof ll ++ [(y.id, y.v.m)] := by simp [lof]
theorem yDq (ll : List WV) (id : Int) : lkp (lof ll) id = (kfind ll id).map (·.m) := by
 induction ll with
 | nil => rfl
 | cons y r ih =>
  show (if y.id = id then some y.v.m else lkp (lof r) id) = _
  rw [ih, kfind, kfind, List.find?_cons]
  by_cases h : y.id = id
  ·rw [if_pos h, show (y.id == id) = true by simpa using h]; rfl
  ·rw [if_neg h, show (y.id == id) = false by simpa using h]
theorem yDr {ll : List WV} {id : Int} (h : ((lof ll).map (·.1)).Nodup) : Go.Proofs.YtjellhflalbbmaaGreat.del (lof ll) id = lof (klose ll id) := by
 rw [yuO] at h
 induction ll with
 | nil => rfl
 | cons y r ih =>
  rw [List.map_cons, List.nodup_cons] at h
  show (if y.id = id then lof r else (y.id, y.v.m) :: Go.Proofs.YtjellhflalbbmaaGreat.del (lof r) id) = _
  rw [klose, List.filter_cons]
  by_cases e : y.id = id
  ·rw [if_pos e, show (y.id != id) = false by simpa using e, if_neg (by decide)]
   have : List.filter (fun y : WV => y.id != id) r = r := List.filter_eq_self.2 fun z hz => by
    have : z.id ≠ y.id := fun h' => h.1 (by rw [← h']; exact List.mem_map.2 ⟨z, hz, rfl⟩)
    simpa [← e] using this
   rw [this]
  ·rw [if_neg e, show (y.id != id) = true by simpa using e, if_pos rfl, ih h.2]; rfl
theorem yDs {ll : List WV} {A O : List (Int × Int)} (h : ∀ x y, yqG A x y = ynL O x y) (id : Int) : twE (lof ll) A id = kE ll O id ∧ twM (lof ll) A id = (kV ll O id).m := by
 unfold twE twM kE kV
 rw [yDq]
 cases kfind ll id with
 | none => exact ⟨rfl, rfl⟩
 | some v =>
  simp only [Option.map_some, h]
  refine ⟨trivial, ?_⟩
  split <;> rfl
theorem yEZ (room : Int) (ll : List WV) (m : PMail) : yfU room (lof ll) m = ksend room ll m := by rw [yfU, ksend, yIw]
theorem yDt {ll : List WV} {A O : List (Int × Int)} (h : ∀ x y, yqG A x y = ynL O x y) : yIF (lof ll) A = krdy ll O := by
 unfold yIF krdy lof
 rw [List.filter_map, List.map_map]
 simp only [Function.comp_def, h]
theorem yL5 {ll : List WV} {A O : List (Int × Int)} (h : ∀ x y, yqG A x y = ynL O x y) (hn : ((lof ll).map (·.1)).Nodup) (id : Int) : tkL (lof ll) A id = lof (if kE ll O id = 0 then klose ll id else ll) := by
 rw [tkL, (yDs h id).1]
 split
 ·exact yDr hn
 ·rfl
theorem yL6 {w : World} {ll : List WV} (O : List (Int × Int)) (id : Int) (h : ∀ y ∈ ll, MailOwn w 0 y.v.m y.v.s y.v.f y.v.p) : MailAt w (kV ll O id).m (kV ll O id).s (kV ll O id).f (kV ll O id).p := by
 unfold kV
 cases hf : kfind ll id with
 | none => exact ydN w ycW rfl rfl
 | some v =>
  simp only
  split
  ·exact ydN w ycW rfl rfl
  ·rw [kfind, Option.map_eq_some_iff] at hf
   obtain ⟨y, hy, rfl⟩ := hf
   exact (h y (List.mem_of_find?_eq_some hy)).at
theorem ynM {ll : List WV} {id : Int} : (klose ll id).length = ll.length ↔ kfind ll id = none := by
 rw [klose, List.length_filter_eq_length_iff, kfind, Option.map_eq_none_iff, List.find?_eq_none]
 simp
theorem yE0 {ll : List WV} (id : Int) : (if (lkp (lof ll) id).isSome then (0 : Int) else 210) = if (klose ll id).length = ll.length then 210 else 0 := by
 rw [yDq]
 cases h : kfind ll id with
 | none => rw [if_pos (ynM.2 h)]; rfl
 | some v =>
  have g : ¬ (klose ll id).length = ll.length := fun g => by rw [ynM.1 g] at h; cases h
  rw [if_neg g]; rfl
theorem yr6 (ll : List WV) (id : Int) : (klose ll id).length ≤ ll.length := List.length_filter_le _ _
theorem yr7 {ll : List WV} {id : Int} {y : WV} (h : y ∈ klose ll id) : y ∈ ll := (List.mem_filter.1 h).1
theorem yw7 (O : List (Int × Int)) (a b : Int) (is : Bool) : (yGv O a b is).length ≤ O.length + 1 := by
 have := List.length_filter_le (fun z => !ycP z a b) O
 unfold yGv
 split
 ·rw [List.length_append]; simp; omega
 ·omega
theorem yi8 {z : Int × Int} {x y : Int} : ycP z x y = true ↔ prW z.1 z.2 = prW x y := by
 rw [yIs]; simp [ycP]
theorem yw8 {O : List (Int × Int)} {x y : Int} : ynL O x y = true ↔ ∃ z ∈ O, prW z.1 z.2 = prW x y := by
 rw [ynL, List.any_eq_true]
 constructor
 ·rintro ⟨z, hz, h⟩; exact ⟨z, hz, yi8.1 h⟩
 ·rintro ⟨z, hz, h⟩; exact ⟨z, hz, yi8.2 h⟩
theorem yw9 {A : List (Int × Int)} {x y : Int} : yqG A x y = true ↔ prW x y ∈ A := by simp [yqG]
theorem yDu {A O : List (Int × Int)} (h : ∀ x y, yqG A x y = ynL O x y) (hn : A.Nodup) (a b : Int) (is : Bool) (x y : Int) : yqG (ylD A a b is) x y = ynL (yGv O a b is) x y := by
 have H : ∀ {x y}, prW x y ∈ A ↔ ∃ z ∈ O, prW z.1 z.2 = prW x y := fun {x y} => by rw [← yw9, h, yw8]
 have E : ∀ {p : Int × Int}, p ∈ O.filter (fun z => !ycP z a b) ↔ p ∈ O ∧ prW p.1 p.2 ≠ prW a b := fun {p} => by
  rw [List.mem_filter]
  refine and_congr_right fun _ => ?_
  rw [Bool.not_eq_true', ← Bool.not_eq_true, yi8]
 have F : prW x y ∈ A.erase (prW a b) ↔ ∃ z ∈ O.filter (fun z => !ycP z a b), prW z.1 z.2 = prW x y := by
  rw [hn.mem_erase_iff, H]
  constructor
  ·rintro ⟨h1, z, h2, h3⟩; exact ⟨z, E.2 ⟨h2, by rw [h3]; exact h1⟩, h3⟩
  ·rintro ⟨z, h2, h3⟩; exact ⟨by rw [← h3]; exact (E.1 h2).2, z, (E.1 h2).1, h3⟩
 rw [Bool.eq_iff_iff, yw9, yw8, ylD, yGv]
 by_cases g : is = true ∧ a ≠ b
 ·rw [if_pos g, if_pos g, List.mem_append, F]
  constructor
  ·rintro (⟨z, h1, h2⟩ | h1)
   ·exact ⟨z, List.mem_append.2 (.inl h1), h2⟩
   ·exact ⟨(a, b), List.mem_append.2 (.inr (by simp)), by rw [List.mem_singleton] at h1; exact h1.symm⟩
  ·rintro ⟨z, h1, h2⟩
   rcases List.mem_append.1 h1 with h1 | h1
   ·exact .inl ⟨z, h1, h2⟩
   ·rw [List.mem_singleton] at h1; subst h1
    exact .inr (by rw [List.mem_singleton]; exact h2.symm)
 ·rw [if_neg g, if_neg g, F]
def FrW (w : World) (S : List Nat) : Prop := ∀ i ∈ S, ∀ cs T, w.heap[i]? = some (.cells cs T) → T = 71 ∨ T = 91 ∨ T = 93
theorem FrW.own {w w' : World} {S : List Nat} {base : Nat} {m : PMail} {s f p : Sl} (F : FrW w S) (h : MailOwn w base m s f p) (M : Mod S w w') : MailOwn w' base m s f p := h.keepT M fun k hk cs T hT => by
 rcases F k hk cs T hT with rfl | rfl | rfl <;> decide
theorem FrW.wi {w : World} {b : Nat} {room : Int} {next bl ba : Nat} {L : PL} {A : List (Int × Int)} (h : WiAt w b room next bl ba L A) {S : List Nat} (hS : ∀ i ∈ S, i = b ∨ i = bl ∨ i = ba) : FrW w S := fun i hi cs T hT => by
 rcases hS i hi with rfl | rfl | rfl
 ·rw [h.cells] at hT; cases hT; exact .inl rfl
 ·obtain ⟨es, cl, hb, _⟩ := h.lm; rw [hb] at hT; cases hT
 ·obtain ⟨es, cl, hb, _⟩ := h.am; rw [hb] at hT; cases hT
theorem FrW.tg {w : World} {k : Nat} {S : List Nat} (h : TgK w k S) : FrW w S := fun i hi cs T hT => by
 obtain ⟨_, cs', T', h1, h2⟩ := h i hi
 rw [h1] at hT; cases hT
 exact .inr h2
theorem FrW.new {w : World} {S : List Nat} (h : ∀ i ∈ S, w.heap.size ≤ i) : FrW w S := fun i hi cs T hT => by
 have := yaK hT; have := h i hi; omega
theorem FrW.app {w : World} {S S' : List Nat} (h : FrW w S) (h' : FrW w S') : FrW w (S ++ S') := fun i hi => by
 rcases List.mem_append.1 hi with hi | hi
 ·exact h i hi
 ·exact h' i hi
theorem yh5.keepW {w w' : World} {k : Nat} {room : Int} {sent : Nat} {ll : List WV} {O : List (Int × Int)} {S : List Nat} (h : yh5 w k room sent ll O) (M : Mod S w w') (hS : ∀ i ∈ S, ∀ cs T, w.heap[i]? = some (.cells cs T) → T = 71 ∨ T = 50) : yh5 w' k room sent ll O :=
 h.keep M fun i hi cs T hT => by rcases hS i hi cs T hT with rfl | rfl <;> decide
theorem yhE {w : World} {b : Nat} {room : Int} {next bl ba : Nat} {L : PL} {A : List (Int × Int)} (h : WiAt w b room next bl ba L A) {S : List Nat} (hS : ∀ i ∈ S, i = b ∨ i = bl ∨ i = ba) : ∀ i ∈ S, ∀ cs T, w.heap[i]? = some (.cells cs T) → T = 71 ∨ T = 50 := fun i hi cs T hT => by
 rcases hS i hi with rfl | rfl | rfl
 ·rw [h.cells] at hT; cases hT; exact .inl rfl
 ·obtain ⟨es, cl, hb, _⟩ := h.lm; rw [hb] at hT; cases hT
 ·obtain ⟨es, cl, hb, _⟩ := h.am; rw [hb] at hT; cases hT
theorem WiAt.keepK {w w' : World} {b : Nat} {room : Int} {next bl ba k : Nat} {L : PL} {A : List (Int × Int)} {S : List Nat} (h : WiAt w b room next bl ba L A) (M : Mod S w w') (hS : TgK w k S) : WiAt w' b room next bl ba L A := by
 refine h.keep M (fun hi => ?_) (fun hi => ?_) fun hi => ?_
 ·obtain ⟨_, cs', T', h1, h2⟩ := hS _ hi
  rw [h.cells] at h1; cases h1
  rcases h2 with h2 | h2 <;> exact absurd h2 (by decide)
 ·obtain ⟨_, cs', T', h1, h2⟩ := hS _ hi
  obtain ⟨es, cl, hb, _⟩ := h.lm
  rw [hb] at h1; cases h1
 ·obtain ⟨_, cs', T', h1, h2⟩ := hS _ hi
  obtain ⟨es, cl, hb, _⟩ := h.am
  rw [hb] at h1; cases h1
set_option maxHeartbeats 4000000 in
theorem yDv {wz : World} {b : Nat} {room : Int} {next bl ba k : Nat} {A O : List (Int × Int)} {ll : List WV} {a1 : Option Addr} {n1 c1 : Nat} {x r e : Int} {o : WOp} {g p q : MV} {b0 b1 b2 b3 B : Nat} {K1 : Kh} {R : VWP}
  (h : WiAt wz b room next bl ba (lof ll) A) (hk : yh5 wz k room next ll O) (ho : ∀ x y, yqG A x y = ynL O x y) (hl : ll.length ≤ 1000) (hO : O.length ≤ 1000) (ra : r64 o.a) (rb : r64 o.b)
  (hp : MailOwn wz B p.m p.s p.f p.p) (hq : MailAt wz q.m q.s q.f q.p) (hm : p.m = q.m) (hc : p.m.calls.length ≤ 100000) (hB : b0 < B ∧ b1 < B ∧ b2 < B ∧ b3 < B)
  (hr : ∀ w6 S6, Mod S6 wz w6 → (∀ i ∈ S6, B ≤ i ∧ ∃ cur, wz.heap[i]? = some (.cells cur 50)) → KS K1 (yhD a1 n1 c1 (some ⟨k, 0, none⟩) (some ⟨b, 0, none⟩, IntKind.wrap .i64 (x + 1))) w6) :
  ylI a1 n1 c1 (some ⟨b, 0, none⟩) (some ⟨k, 0, none⟩) x r r e e b0 o.kind o.id o.a o.b o.m.m.kind o.m.m.fr o.m.m.to o.m.m.view o.m.m.normal o.m.m.last o.m.m.commit o.m.m.nonce o.m.m.base o.m.m.n o.m.s.a o.m.s.n o.m.s.c o.m.m.r.e o.m.m.r.off o.m.m.r.n o.m.m.r.gen o.m.f.a o.m.f.n o.m.f.c o.m.p.a o.m.p.n o.m.p.c b1 g.m.kind g.m.fr g.m.to g.m.view g.m.normal g.m.last g.m.commit g.m.nonce g.m.base g.m.n g.s.a g.s.n g.s.c g.m.r.e g.m.r.off g.m.r.n g.m.r.gen g.f.a g.f.n g.f.c g.p.a g.p.n g.p.c b2 p.m.kind p.m.fr p.m.to p.m.view p.m.normal p.m.last p.m.commit p.m.nonce p.m.base p.m.n p.s.a p.s.n p.s.c p.m.r.e p.m.r.off p.m.r.n p.m.r.gen p.f.a p.f.n p.f.c p.p.a p.p.n p.p.c b3 q.m.kind q.m.fr q.m.to q.m.view q.m.normal q.m.last q.m.commit q.m.nonce q.m.base q.m.n q.s.a q.s.n q.s.c q.m.r.e q.m.r.off q.m.r.n q.m.r.gen q.f.a q.f.n q.f.c q.p.a q.p.n q.p.c K1 R wz := by
 unfold ylI
 refine brF (by simp) (brF (by simp) ?_)
 intro w1 A1
 refine (yoV (hp.keep0 A1.mod).at (hq.keep0 A1.mod) (by omega)).mono ?_
 rintro _ w2 ⟨rfl, M2⟩
 refine ⟨_, rfl, yaD.of0 M2, brF (by rw [hm]; simp) ?_⟩
 have N2 : Mod [] wz w2 := A1.mod.go0 M2 (by simp)
 refine (ylE (h.keep0 N2) ra rb).mono ?_
 rintro _ w3 ⟨rfl, M3⟩
 refine ⟨_, rfl, yaD.of0 M3, rfl, rfl, ?_⟩
 have N3 := N2.go0 M3 (by simp)
 refine (ylJ (hk.keep0 N3) (by omega) o.a o.b).mono ?_
 rintro _ w4 ⟨rfl, M4⟩
 refine ⟨_, rfl, yaD.of0 M4, brF (by rw [ho]; simp) ?_⟩
 have N4 := N3.go0 M4 (by simp)
 refine (yuL (h.keep0 N4)).mono ?_
 rintro _ w5 ⟨_, rfl, a5, n5, c5, rfl, hR5, M5⟩
 refine ⟨_, _, _, rfl, yaD.of0 M5, ?_⟩
 have N5 := N4.go0 M5 (by simp)
 refine (yIv (hk.keep0 N5) hl).mono ?_
 rintro _ w6 ⟨_, rfl, a6, n6, c6, rfl, hR6, M6⟩
 refine ⟨_, _, _, rfl, yaD.of0 M6, ?_⟩
 have N6 := N5.go0 M6 (by simp)
 refine (yqD ((hR5.keep0 M6).sl fun _ => rfl) (hR6.sl fun _ => rfl) (by rw [yuO, List.length_map]; omega)).mono ?_
 rintro _ w7 ⟨rfl, M7⟩
 refine ⟨_, rfl, yaD.of0 M7, brF (by rw [yuO]; simp) ?_⟩
 have N7 := N6.go0 M7 (by simp)
 refine (yr4 (h.keep0 N7)).mono ?_
 rintro _ w8 ⟨a8, n8, c8, rfl, hR8, M8⟩
 refine ⟨_, _, _, rfl, yaD.of0 M8, ?_⟩
 have N8 := N7.go0 M8 (by simp)
 refine (yDo (hk.keep0 N8) hl (by omega)).mono ?_
 rintro _ w9 ⟨_, rfl, a9, n9, c9, rfl, hR9, M9⟩
 refine ⟨_, _, _, rfl, yaD.of0 M9, ?_⟩
 have N9 := N8.go0 M9 (by simp)
 have hkl : (krdy ll O).length ≤ 1000 := by
  have := List.length_filter_le (fun y : WV => !ynL O y.v.m.fr y.v.m.to) ll
  unfold krdy; rw [List.length_map]; omega
 refine (yqD ((hR8.keep0 M9).sl fun _ => rfl) (hR9.sl fun _ => rfl) (by rw [yDt ho]; omega)).mono ?_
 rintro _ w10 ⟨rfl, M10⟩
 refine ⟨_, rfl, yaD.of0 M10, brF (by rw [yDt ho]; simp) ?_⟩
 have N10 := N9.go0 M10 (by simp)
 obtain ⟨lc, hlc, _, hcs⟩ := hp.calls
 have hcl : lc.length ≤ 100000 := by have := congrArg List.length hcs; rw [List.length_map] at this; omega
 have hsn := hlc.1
 refine yzW (fun mm x w' => ∃ (j : Nat) (lc' : List CV), x = j ∧ j ≤ lc.length ∧ lc'.length = lc.length ∧ Row w' B 50 16 CV.cs p.s.a p.s.n p.s.c lc' ∧ Mod (ydY p.s.a) wz w' ∧ mm = lc.length - j) lc.length ⟨0, lc, rfl, by omega, rfl, hlc.keep0 N10, N10.less (by simp), rfl⟩ ?_
 rintro mm y w11 ⟨j, lc', rfl, hj, hll', hR', M11, rfl⟩
 refine yaE (fun hlt => ?_) fun hge => ?_
 ·obtain ⟨z, hz⟩ : ∃ z, lc'[j]? = some z := ⟨_, List.getElem?_eq_getElem (by omega)⟩
  refine Row.store1 (y := yNk z) (k := 1) (v := .int .i64 99) hR' CV.cs_len (by omega) rfl hz rfl fun ad w12 ha hR12 M12 => ?_
  have hbk : ad.block ∈ ydY p.s.a := ybY _ _ ha
  have hbb := (ya0 hlc _ hbk).1
  refine ⟨yaD.of M12 (by simp; omega), yzV (lc.length - (j + 1)) (by omega) ⟨j + 1, lc'.set j (yNk z), by rw [yaH (by omega) (by omega)]; omega, by omega, by simp [hll'], hR12, (M11.trans M12).less fun i hi _ => by
   rcases List.mem_append.1 hi with hi | hi
   ·exact hi
   ·simp at hi; subst hi; exact hbk, rfl⟩⟩
 ·exact hr w11 _ M11 fun i hi => ⟨(ya0 hlc i hi).1, (ya0 hlc i hi).2.2⟩
set_option maxHeartbeats 32000000 in
theorem yDw {a : Option Addr} {n c : Nat} {lm : List WOp} (room : Int) (w : World) (h : ycD w 21 WOp.cs a n lm) (hO : ∀ q ∈ lm, WOpRd w q) :
  Calls pP 7 #[.int .i64 room, .slice a n c] w fun e w' => e = .returned (.bool true) ∧ Mod [] w w' := by
 have rK := yyL (x := room) (m := 15) (by decide) (by decide)
 refine yaQ (yIr ?_)
 obtain ⟨rm, hrm⟩ : ∃ rm, rm = IntKind.wrap .i64 (1 + yh9 .i64 room 15) := ⟨_, rfl⟩
 have hr : 1 ≤ rm ∧ rm ≤ 16 := by rw [hrm, yaH (by omega) (by omega)]; omega
 rw [← hrm]
 refine (yuH rm w).mono ?_
 rintro _ w1 ⟨_, rfl, M1, hv⟩
 rw [if_pos (by omega)] at hv
 obtain ⟨b, bl, ba, rfl, fb, fl, fa, h1⟩ := hv
 refine ⟨_, _, rfl, ?_⟩
 refine (yIu (by omega) w1).mono ?_
 rintro _ w2 ⟨_, rfl, k, rfl, fk, hk2, M2⟩
 refine ⟨_, _, rfl, brF rfl (brF rfl (brF rfl (brF rfl ?_)))⟩
 have s1 := M1.size
 have hn := h.1
 refine yzU (fun mm p6 x10 w' => ∃ (i next b bl ba : Nat) (A : List (Int × Int)) (ll : List WV) (O : List (Int × Int)), p6 = some ⟨b, 0, none⟩ ∧ x10 = (i : Nat) ∧ i ≤ 60 ∧ i ≤ lm.length ∧ next ≤ i ∧ ll.length ≤ i ∧ O.length ≤ i ∧ WiAt w' b rm next bl ba (lof ll) A ∧ yh5 w' k rm next ll O ∧ (∀ x y, yqG A x y = ynL O x y) ∧ (∀ y ∈ ll, MailOwn w' 0 y.v.m y.v.s y.v.f y.v.p ∧ y.v.m.calls.length ≤ 12) ∧ Mod [] w w' ∧ w.heap.size ≤ b ∧ w.heap.size ≤ bl ∧ w.heap.size ≤ ba ∧ mm = 60 - i) 60 ⟨0, 0, b, bl, ba, [], [], [], rfl, rfl, by omega, by omega, by omega, by simp, by simp, h1.keep0 M2, hk2, fun x y => rfl, by simp, M1.go0 M2 (by simp), fb, fl, fa, rfl⟩ ?_
 clear h1 hk2 fb fl fa b bl ba
 rintro mm p6 x w9 ⟨i, next, b, bl, ba, A, ll, O, rfl, rfl, hi, hil, hnx, hll, hOl, h9, hk9, ho, hms, N9, fb, fl, fa, rfl⟩
 have fk : w.heap.size ≤ k := by omega
 refine yaE (fun hlt => ?_) fun hge => yGu N9
 refine yaE (fun hlt60 => ?_) fun hge => yGu N9
 obtain ⟨x, hx⟩ : ∃ x, lm[i]? = some x := ⟨_, List.getElem?_eq_getElem (by omega)⟩
 have hxr := hO x (List.mem_of_getElem? hx)
 refine (h.keep0 N9).ix hx fun q hq => ?_
 refine yL4 (z := x) hq ?_
 intro b35 f35 w36 A36
 refine (yHZ (hxr.m.keep0 (N9.go0 A36.mod (by simp)))).mono ?_
 rintro _ w37 ⟨_, rfl, sa, fa2, pa, rfl, hA, M37⟩
 refine ⟨_, _, _, _, _, _, _, _, _, _, _, _, _, _, _, _, _, _, _, _, _, _, _, rfl, yaD.of0 M37, ?_⟩
 intro b61 f61 b62 f62 b63 f63
 have z9 := A36.mod.size
 have z36 := M37.size
 have zl35 := A36.lt b35 (by simp)
 have K37 : Mod [] w9 w37 := A36.mod.go0 M37 (by simp)
 have h37 := h9.keep0 K37
 have N37 : Mod [] w w37 := N9.go0 K37 (by simp)
 have z0 := N37.size
 have ms37 : ∀ y ∈ ll, MailOwn w37 0 y.v.m y.v.s y.v.f y.v.p ∧ y.v.m.calls.length ≤ 12 := fun y hy => ⟨(hms y hy).1.keep0 K37, (hms y hy).2⟩
 have lb := yaK h9.cells
 have lbl := h9.lm.lt
 have lba := h9.am.lt
 have hk37 := hk9.keep0 K37
 obtain ⟨sl, so, hin9⟩ := hk9
 have lk := yaK hin9.1
 have lsl := ycM hin9.2.1
 have lso := ycM hin9.2.2
 have hin37 : w37.heap[k]? = some (.cells #[.int .i64 rm, .int .i64 (next : Nat), .slice sl.a sl.n sl.c, .slice so.a so.n so.c] 91) ∧ Row w37 (k + 1) 93 18 WV.cs sl.a sl.n sl.c ll ∧ Row w37 (k + 1) 85 2 ylU so.a so.n so.c O := ygC hin9 K37 (by simp)
 have la12 := yDa x.m.m
 have e1 : IntKind.wrap .i64 ((i : Int) + 1) = ((i + 1 : Nat) : Int) := by rw [yaH (by omega) (by omega)]; omega
 have tail : ∀ {wz : World} {b' next' bl' ba' : Nat} {A' O' : List (Int × Int)} {ll' : List WV} {r e : Int} {p q : MV} {S : List Nat} (B : Nat), WiAt wz b' rm next' bl' ba' (lof ll') A' → yh5 wz k rm next' ll' O' → (∀ x y, yqG A' x y = ynL O' x y) → next' ≤ i + 1 → ll'.length ≤ i + 1 → O'.length ≤ i + 1 → (∀ y ∈ ll', MailOwn w37 0 y.v.m y.v.s y.v.f y.v.p ∧ y.v.m.calls.length ≤ 12) → Mod S w37 wz → FrW w37 S → (∀ j ∈ S, w.heap.size ≤ j) → w.heap.size ≤ b' → w.heap.size ≤ bl' → w.heap.size ≤ ba' → MailOwn wz B p.m p.s p.f p.p → w37.heap.size ≤ B → (b35 < B ∧ b61 < B ∧ b62 < B ∧ b63 < B) → (b' < B ∧ bl' < B ∧ ba' < B) → MailAt wz q.m q.s q.f q.p → p.m = q.m → p.m.calls.length ≤ 100000 →
   ylI a n c (some ⟨b', 0, none⟩) (some ⟨k, 0, none⟩) (i : Int) r r e e b35 x.kind x.id x.a x.b x.m.m.kind x.m.m.fr x.m.m.to x.m.m.view x.m.m.normal x.m.m.last x.m.m.commit x.m.m.nonce x.m.m.base x.m.m.n x.m.s.a x.m.s.n x.m.s.c x.m.m.r.e x.m.m.r.off x.m.m.r.n x.m.m.r.gen x.m.f.a x.m.f.n x.m.f.c x.m.p.a x.m.p.n x.m.p.c b61 (⟨yfM x.m.m, sa, fa2, pa⟩ : MV).m.kind (⟨yfM x.m.m, sa, fa2, pa⟩ : MV).m.fr (⟨yfM x.m.m, sa, fa2, pa⟩ : MV).m.to (⟨yfM x.m.m, sa, fa2, pa⟩ : MV).m.view (⟨yfM x.m.m, sa, fa2, pa⟩ : MV).m.normal (⟨yfM x.m.m, sa, fa2, pa⟩ : MV).m.last (⟨yfM x.m.m, sa, fa2, pa⟩ : MV).m.commit (⟨yfM x.m.m, sa, fa2, pa⟩ : MV).m.nonce (⟨yfM x.m.m, sa, fa2, pa⟩ : MV).m.base (⟨yfM x.m.m, sa, fa2, pa⟩ : MV).m.n (⟨yfM x.m.m, sa, fa2, pa⟩ : MV).s.a (⟨yfM x.m.m, sa, fa2, pa⟩ : MV).s.n (⟨yfM x.m.m, sa, fa2, pa⟩ : MV).s.c (⟨yfM x.m.m, sa, fa2, pa⟩ : MV).m.r.e (⟨yfM x.m.m, sa, fa2, pa⟩ : MV).m.r.off (⟨yfM x.m.m, sa, fa2, pa⟩ : MV).m.r.n (⟨yfM x.m.m, sa, fa2, pa⟩ : MV).m.r.gen (⟨yfM x.m.m, sa, fa2, pa⟩ : MV).f.a (⟨yfM x.m.m, sa, fa2, pa⟩ : MV).f.n (⟨yfM x.m.m, sa, fa2, pa⟩ : MV).f.c (⟨yfM x.m.m, sa, fa2, pa⟩ : MV).p.a (⟨yfM x.m.m, sa, fa2, pa⟩ : MV).p.n (⟨yfM x.m.m, sa, fa2, pa⟩ : MV).p.c b62 p.m.kind p.m.fr p.m.to p.m.view p.m.normal p.m.last p.m.commit p.m.nonce p.m.base p.m.n p.s.a p.s.n p.s.c p.m.r.e p.m.r.off p.m.r.n p.m.r.gen p.f.a p.f.n p.f.c p.p.a p.p.n p.p.c b63 q.m.kind q.m.fr q.m.to q.m.view q.m.normal q.m.last q.m.commit q.m.nonce q.m.base q.m.n q.s.a q.s.n q.s.c q.m.r.e q.m.r.off q.m.r.n q.m.r.gen q.f.a q.f.n q.f.c q.p.a q.p.n q.p.c (ydR a n c (some ⟨k, 0, none⟩) (fun mm p6 x10 w' => ∃ (i next b bl ba : Nat) (A : List (Int × Int)) (ll : List WV) (O : List (Int × Int)), p6 = some ⟨b, 0, none⟩ ∧ x10 = (i : Nat) ∧ i ≤ 60 ∧ i ≤ lm.length ∧ next ≤ i ∧ ll.length ≤ i ∧ O.length ≤ i ∧ WiAt w' b rm next bl ba (lof ll) A ∧ yh5 w' k rm next ll O ∧ (∀ x y, yqG A x y = ynL O x y) ∧ (∀ y ∈ ll, MailOwn w' 0 y.v.m y.v.s y.v.f y.v.p ∧ y.v.m.calls.length ≤ 12) ∧ Mod [] w w' ∧ w.heap.size ≤ b ∧ w.heap.size ≤ bl ∧ w.heap.size ≤ ba ∧ mm = 60 - i) (60 - i)) (fun v w' => v = .bool true ∧ Mod [] w w') wz := by
  intro wz b' next' bl' ba' A' O' ll' r e p q S B hW hK ho' hn' hl' hO' hms' MS hF hS fb' fl' fa' hp hB1 hB2 hB3 hq hm hc
  refine yDv (g := ⟨yfM x.m.m, sa, fa2, pa⟩) (o := x) hW hK ho' (by omega) (by omega) hxr.a hxr.b hp hq hm hc hB2 fun w6 S6 M6 hS6 => ?_
  have ge : ∀ j ∈ S6, w37.heap.size ≤ j := fun j hj => by have := (hS6 j hj).1; omega
  refine yzT (60 - (i + 1)) (by omega) ⟨i + 1, next', b', bl', ba', A', ll', O', rfl, e1, by omega, by omega, by omega, by omega, by omega, hW.keep M6 (fun hj => ?_) (fun hj => ?_) (fun hj => ?_), hK.keepW M6 (fun j hj cs T hT => ?_), ho', fun y hy => ⟨(hF.app (FrW.new ge)).own (hms' y hy).1 (MS.trans M6), (hms' y hy).2⟩, (N37.go0 MS hS).go0 M6 (fun j hj => by have := ge j hj; omega), fb', fl', fa', rfl⟩
  ·have := (hS6 _ hj).1; omega
  ·have := (hS6 _ hj).1; omega
  ·have := (hS6 _ hj).1; omega
  ·obtain ⟨_, cur, hc⟩ := hS6 j hj
   rw [hc] at hT; cases hT; exact .inr rfl
 have k62 : b62 ≠ k ∧ b62 ∉ ydY sl.a ∧ b62 ∉ ydY so.a := ⟨by omega, fun hh => by have := (lsl _ hh).2; omega, fun hh => by have := (lso _ hh).2; omega⟩
 have k63 : b63 ≠ k ∧ b63 ∉ ydY sl.a ∧ b63 ∉ ydY so.a := ⟨by omega, fun hh => by have := (lsl _ hh).2; omega, fun hh => by have := (lso _ hh).2; omega⟩
 obtain ⟨zE, zS⟩ := yqE (m := ycW) (by decide) (by decide) rfl rfl
 obtain ⟨tE, tM⟩ := yDs (ll := ll) ho x.id
 have kn : ∀ j ∈ [b, bl, ba], ∀ l ∈ [b35, b61, b62, b63], l ≠ j := fun j hj l hl => by simp at hj hl; omega
 refine yaC (fun g0 => ?_) fun g0 => ?_
 ·
  intro w64 A64
  have z64 := A64.mod.size
  have l61 := A64.lt b61 (by simp)
  have l62 := A64.lt b62 (by simp)
  have l63 := A64.lt b63 (by simp)
  have hs := yfN (h37.keep0 A64.mod) (hA.keep0 A64.mod).at (by omega) (fun g => by have := yET g; omega) (by omega)
  rw [yEZ] at hs
  refine hs.mono ?_
  rintro _ w65 ⟨rfl, M65, h65⟩
  refine ⟨_, _, rfl, yaD.of M65 (by simp; omega), ?_⟩
  have z65 := M65.size
  have hin65 := ygC (ygC hin37 A64.mod (by simp)) M65 (yhE (h37.keep0 A64.mod) (by simp))
  have hA65 := (FrW.wi (h37.keep0 A64.mod) (S := [b, bl]) (by simp)).own (hA.keep0 A64.mod) M65
  refine (yEX hin65 (by omega) (by omega) hA65.at (by omega)).mono ?_
  rintro _ w68 ⟨rfl, hk68, M68⟩
  have z68 := M68.size
  have hS : TgK w37 k (k :: ydY sl.a) := yL3 hin37
  refine ⟨_, _, rfl, yaD.of M68 (fun j hj _ hj' => ?_), ?_⟩
  ·rcases List.mem_cons.1 hj' with e | hj'
   ·simp at hj; omega
   ·have := (lsl _ hj').2; simp at hj; omega
  have h68 := h65.keepK M68 (yL3 hin65)
  have F : FrW w37 (([] ++ [b, bl]) ++ (k :: ydY sl.a)) := ((FrW.new (by simp)).app (FrW.wi h37 (by simp))).app (FrW.tg hS)
  have MS := (A64.mod.trans M65).trans M68
  have ge : ∀ j ∈ (([] ++ [b, bl]) ++ (k :: ydY sl.a)), w.heap.size ≤ j := fun j hj => by
   rcases List.mem_append.1 hj with hj | hj
   ·simp at hj; omega
   ·have := (hS j hj).1; omega
  by_cases g : ksend rm ll (yfM x.m.m) = 0
  ·rw [if_pos g, if_pos g] at h68 hk68
   refine ydZ (tail (p := mv0) (q := mv0) w68.heap.size (ll' := ll ++ [⟨((next + 1 : Nat) : Int), ⟨yfM x.m.m, sa, fa2, pa⟩⟩]) (by rw [yIx]; exact h68) hk68 ho (by omega) (by simp; omega) (by omega) (fun y hy => ?_) MS F ge fb fl fa (ygA w68 _ ycW rfl rfl) (by omega) ⟨by omega, by omega, by omega, by omega⟩ ⟨by omega, by omega, by omega⟩ (ydN w68 ycW rfl rfl) rfl (by decide))
   rcases List.mem_append.1 hy with hy | hy
   ·exact ms37 y hy
   ·rw [List.mem_singleton] at hy; subst hy
    exact ⟨hA.rebase (by omega), la12⟩
  ·rw [if_neg g, if_neg g] at h68 hk68
   exact ydZ (tail (p := mv0) (q := mv0) w68.heap.size h68 hk68 ho (by omega) (by omega) (by omega) ms37 MS F ge fb fl fa (ygA w68 _ ycW rfl rfl) (by omega) ⟨by omega, by omega, by omega, by omega⟩ ⟨by omega, by omega, by omega⟩ (ydN w68 ycW rfl rfl) rfl (by decide))
 refine yaC (fun g1 => ?_) fun g1 => ?_
 ·
  intro w102 A102
  have z102 := A102.mod.size
  have l61 := A102.lt b61 (by simp)
  have l62 := A102.lt b62 (by simp)
  have l63 := A102.lt b63 (by simp)
  refine (yj1 (h37.keep0 A102.mod) hxr.id).mono ?_
  rintro _ w103 ⟨_, rfl, ⟨s3, f3, p3, rfl, hP, hPl⟩, M103, h103⟩
  rw [tE, yL5 ho h37.keys] at *
  refine ⟨_, _, _, _, _, _, _, _, _, _, _, _, _, _, _, _, _, _, _, _, _, _, _, _, rfl, yaD.of M103 (by simp; omega), ?_⟩
  have z103 := M103.size
  intro w128 A128
  have z128 := A128.mod.size
  have M128 := (A102.mod.trans M103).trans A128.mod
  have only : ∀ j ∈ ([] ++ [bl]) ++ [b62], ∀ cs T, w37.heap[j]? = some (.cells cs T) → T = 71 ∨ T = 50 := fun j hj cs T hT => by
   rcases List.mem_append.1 hj with hj | hj
   ·exact yhE h37 (S := [bl]) (by simp) j (by simpa using hj) cs T hT
   ·have := yaK hT; simp at hj; omega
  have hin128 := ygC hin37 M128 only
  refine (yEW hin128.1 hin128.2.1 hin128.2.2 (by omega) (by omega) x.id).mono ?_
  rintro _ w129 ⟨rfl, ⟨sl', q1, q2, q3, q4⟩, M129⟩
  refine ⟨_, _, _, _, _, _, _, _, _, _, _, _, _, _, _, _, _, _, _, _, _, _, _, _, rfl, yaD.of M129 (by simp; omega), ?_⟩
  have z129 := M129.size
  intro w154 A154
  have z154 := A154.mod.size
  have hk154 : yh5 w154 k rm next (if kE ll O x.id = 0 then klose ll x.id else ll) O := ⟨sl', so, A154.mod.keep q1 (by simp; omega), q2.keep A154.mod fun ad ha hh => ?_, q3.keep A154.mod fun ad ha hh => ?_⟩
  rotate_left
  ·simp at hh
   rcases q4 _ (ybY _ _ ha) with hh' | hh'
   ·rw [hh] at hh'; exact k63.2.1 hh'
   ·omega
  ·simp at hh; exact k63.2.2 (hh ▸ ybY _ _ ha)
  have h128 := h103.keep A128.mod (by simp; omega) (by simp; omega) (by simp; omega)
  have h129 := h128.keepK M129 (S := [k]) fun j hj => by simp at hj; subst hj; exact ⟨Nat.le_refl _, _, _, hin128.1, .inl rfl⟩
  have h154 := h129.keep A154.mod (by simp; omega) (by simp; omega) (by simp; omega)
  have hP154 := ((hP.keepB A128.mod (by simp; omega)).keepB M129 (by simp; omega)).keepB A154.mod (by simp; omega)
  have MS := (M128.trans M129).trans A154.mod
  have F : FrW w37 ((((([] ++ [bl]) ++ [b62])) ++ [k]) ++ [b63]) := ((((FrW.new (by simp)).app (FrW.wi h37 (by simp))).app (FrW.new (by simp; omega))).app (FrW.tg (k := k) fun j hj => by simp at hj; subst hj; exact ⟨Nat.le_refl _, _, _, hin37.1, .inl rfl⟩)).app (FrW.new (by simp; omega))
  refine ydZ (tail (p := ⟨twM (lof ll) A x.id, s3, f3, p3⟩) (q := kV ll O x.id) w102.heap.size h154 hk154 ho (by omega) ?_ (by omega) (fun y hy => ms37 y ?_) MS F (by simp; omega) fb fl fa hP154 (by omega) ⟨by omega, by omega, by omega, by omega⟩ ⟨by omega, by omega, by omega⟩ (yL6 O x.id fun y hy => F.own (ms37 y hy).1 MS) tM hPl)
  ·have := yr6 ll x.id; split <;> omega
  ·split at hy
   ·exact yr7 hy
   ·exact hy
 refine yaC (fun g2 => ?_) fun g2 => ?_
 ·
  intro w102 A102
  have z102 := A102.mod.size
  have l61 := A102.lt b61 (by simp)
  have l62 := A102.lt b62 (by simp)
  have l63 := A102.lt b63 (by simp)
  refine (yh4 (h37.keep0 A102.mod) hxr.id).mono ?_
  rintro _ w103 ⟨_, rfl, ⟨s3, f3, p3, rfl, hP, hPl⟩, M103⟩
  rw [tE]
  refine ⟨_, _, _, _, _, _, _, _, _, _, _, _, _, _, _, _, _, _, _, _, _, _, _, _, rfl, yaD.of0 M103, ?_⟩
  have z103 := M103.size
  intro w128 A128
  have z128 := A128.mod.size
  have M128 := (A102.mod.trans M103).trans A128.mod
  have only : ∀ j ∈ ([] ++ []) ++ [b62], ∀ cs T, w37.heap[j]? = some (.cells cs T) → T = 71 ∨ T = 50 := fun j hj cs T hT => by
   have := yaK hT; simp at hj; omega
  have hin128 := ygC hin37 M128 only
  refine (yr5 ⟨sl, so, hin128⟩ (by omega) (by omega) x.id).mono ?_
  rintro _ w129 ⟨rfl, M129⟩
  refine ⟨_, _, _, _, _, _, _, _, _, _, _, _, _, _, _, _, _, _, _, _, _, _, _, _, rfl, yaD.of0 M129, ?_⟩
  have z129 := M129.size
  intro w154 A154
  have MS := (M128.trans M129).trans A154.mod
  have hin154 := ygC hin37 MS fun j hj cs T hT => by have := yaK hT; simp at hj; omega
  have h154 := h37.keep MS (by simp; omega) (by simp; omega) (by simp; omega)
  have hP154 := ((hP.keepB A128.mod (by simp; omega)).keep0 M129).keepB A154.mod (by simp; omega)
  have F : FrW w37 ((((([] ++ []) ++ [b62])) ++ []) ++ [b63]) := FrW.new (by simp; omega)
  exact ydZ (tail (p := ⟨twM (lof ll) A x.id, s3, f3, p3⟩) (q := kV ll O x.id) w102.heap.size h154 ⟨sl, so, hin154⟩ ho (by omega) (by omega) (by omega) ms37 MS F (by simp; omega) fb fl fa hP154 (by omega) ⟨by omega, by omega, by omega, by omega⟩ ⟨by omega, by omega, by omega⟩ (yL6 O x.id fun y hy => F.own (ms37 y hy).1 MS) tM hPl)
 refine yaC (fun g3 => ?_) fun g3 => ?_
 ·
  intro w64 A64
  have z64 := A64.mod.size
  have l61 := A64.lt b61 (by simp)
  have l62 := A64.lt b62 (by simp)
  have l63 := A64.lt b63 (by simp)
  have hs := ypS (h37.keep0 A64.mod) hxr.id
  rw [yE0, yDr h37.keys] at hs
  refine hs.mono ?_
  rintro _ w65 ⟨rfl, M65, h65⟩
  refine ⟨_, rfl, yaD.of M65 (by simp; omega), ?_⟩
  have z65 := M65.size
  have hk65 := (hk37.keep0 A64.mod).keepW M65 (yhE (h37.keep0 A64.mod) (by simp))
  have hin65 := ygC (ygC hin37 A64.mod (by simp)) M65 (yhE (h37.keep0 A64.mod) (by simp))
  refine (yEV hk65 (by omega) x.id).mono ?_
  rintro _ w68 ⟨rfl, hk68, M68⟩
  have z68 := M68.size
  refine ⟨_, rfl, yaD.of M68 (by simp; omega), ?_⟩
  have h68 := h65.keepK M68 hk65.tg
  have F : FrW w37 (([] ++ [bl]) ++ [k]) := ((FrW.new (by simp)).app (FrW.wi h37 (by simp))).app (FrW.tg hk37.tg)
  have := yr6 ll x.id
  exact ydZ (tail (p := mv0) (q := mv0) w68.heap.size h68 hk68 ho (by omega) (by omega) (by omega) (fun y hy => ms37 y (yr7 hy)) ((A64.mod.trans M65).trans M68) F (by simp; omega) fb fl fa (ygA w68 _ ycW rfl rfl) (by omega) ⟨by omega, by omega, by omega, by omega⟩ ⟨by omega, by omega, by omega⟩ (ydN w68 ycW rfl rfl) rfl (by decide))
 refine yaC (fun g4 => brT g4 ?_) fun g4 => ?_
 ·
  intro w64 A64
  have z64 := A64.mod.size
  have l61 := A64.lt b61 (by simp)
  have l62 := A64.lt b62 (by simp)
  have l63 := A64.lt b63 (by simp)
  refine (ylF (h37.keep0 A64.mod) hxr.a hxr.b (x.kind == 4)).mono ?_
  rintro _ w65 ⟨rfl, M65, h65⟩
  refine ⟨rfl, yaD.of M65 (by simp; omega), ?_⟩
  have z65 := M65.size
  have hk65 := (hk37.keep0 A64.mod).keepW M65 (yhE (h37.keep0 A64.mod) (by simp))
  refine (yDn hk65 (by omega) x.a x.b (x.kind == 4)).mono ?_
  rintro _ w68 ⟨rfl, hk68, M68⟩
  have z68 := M68.size
  refine ⟨rfl, yaD.of M68 (by simp; omega), ?_⟩
  have h68 := h65.keepK M68 hk65.tg
  have F : FrW w37 (([] ++ [ba]) ++ [k]) := ((FrW.new (by simp)).app (FrW.wi h37 (by simp))).app (FrW.tg hk37.tg)
  have := yw7 O x.a x.b (x.kind == 4)
  exact ydZ (tail (p := mv0) (q := mv0) w68.heap.size h68 hk68 (yDu ho h37.nodup x.a x.b (x.kind == 4)) (by omega) (by omega) (by omega) ms37 ((A64.mod.trans M65).trans M68) F (by simp; omega) fb fl fa (ygA w68 _ ycW rfl rfl) (by omega) ⟨by omega, by omega, by omega, by omega⟩ ⟨by omega, by omega, by omega⟩ (ydN w68 ycW rfl rfl) rfl (by decide))
 refine yaC (fun g5 => ?_) fun g5 => ?_
 ·
  intro w64 A64
  have z64 := A64.mod.size
  have l61 := A64.lt b61 (by simp)
  have l62 := A64.lt b62 (by simp)
  have l63 := A64.lt b63 (by simp)
  refine (ylF (h37.keep0 A64.mod) hxr.a hxr.b (x.kind == 4)).mono ?_
  rintro _ w65 ⟨rfl, M65, h65⟩
  refine ⟨rfl, yaD.of M65 (by simp; omega), ?_⟩
  have z65 := M65.size
  have hk65 := (hk37.keep0 A64.mod).keepW M65 (yhE (h37.keep0 A64.mod) (by simp))
  refine (yDn hk65 (by omega) x.a x.b (x.kind == 4)).mono ?_
  rintro _ w68 ⟨rfl, hk68, M68⟩
  have z68 := M68.size
  refine ⟨rfl, yaD.of M68 (by simp; omega), ?_⟩
  have h68 := h65.keepK M68 hk65.tg
  have F : FrW w37 (([] ++ [ba]) ++ [k]) := ((FrW.new (by simp)).app (FrW.wi h37 (by simp))).app (FrW.tg hk37.tg)
  have := yw7 O x.a x.b (x.kind == 4)
  exact ydZ (tail (p := mv0) (q := mv0) w68.heap.size h68 hk68 (yDu ho h37.nodup x.a x.b (x.kind == 4)) (by omega) (by omega) (by omega) ms37 ((A64.mod.trans M65).trans M68) F (by simp; omega) fb fl fa (ygA w68 _ ycW rfl rfl) (by omega) ⟨by omega, by omega, by omega, by omega⟩ ⟨by omega, by omega, by omega⟩ (ydN w68 ycW rfl rfl) rfl (by decide))
 refine yaC (fun g6 => ?_) fun g6 => ?_
 ·
  intro w64 A64
  have z64 := A64.mod.size
  have l61 := A64.lt b61 (by simp)
  have l62 := A64.lt b62 (by simp)
  have l63 := A64.lt b63 (by simp)
  refine (yER (h37.keep0 A64.mod)).mono ?_
  rintro _ w65 ⟨_, rfl, b', bl', ba', rfl, fb', fl', fa', h65, M65⟩
  refine ⟨_, rfl, yaD.of0 M65, ?_⟩
  have z65 := M65.size
  have lb' := yaK h65.cells
  have ll' := h65.lm.lt
  have la' := h65.am.lt
  have K65 := A64.mod.go0 M65 (by simp)
  refine (yfN (h37.keep0 K65) (ydN w65 ycW rfl rfl) (by decide) (fun _ => zS) (by omega)).mono ?_
  rintro _ w66 ⟨rfl, M66, h66⟩
  refine ⟨_, _, rfl, yaD.of M66 (by simp; omega), ?_⟩
  have z66 := M66.size
  refine (ypS h66 hxr.id).mono ?_
  rintro _ w67 ⟨rfl, M67, h67⟩
  refine ⟨_, rfl, yaD.of M67 (by simp; omega), ?_⟩
  have z67 := M67.size
  refine (ylF h67 hxr.a hxr.b true).mono ?_
  rintro _ w68 ⟨rfl, M68, _⟩
  have z68 := M68.size
  refine ⟨rfl, yaD.of M68 (by simp; omega), brF rfl ?_⟩
  have h68 := ((h65.keep M66 (by simp; omega) (by simp; omega) (by simp; omega)).keep M67 (by simp; omega) (by simp; omega) (by simp; omega)).keep M68 (by simp; omega) (by simp; omega) (by simp; omega)
  have MS := ((K65.trans M66).trans M67).trans M68
  have F : FrW w37 ((([] ++ [b, bl]) ++ [bl]) ++ [ba]) := FrW.wi h37 (by simp)
  have hk68 := hk37.keepW MS (yhE h37 (by simp))
  exact ydZ (tail (p := mv0) (q := mv0) w68.heap.size h68 hk68 ho (by omega) (by omega) (by omega) ms37 MS F (by simp; omega) (by omega) (by omega) (by omega) (ygA w68 _ ycW rfl rfl) (by omega) ⟨by omega, by omega, by omega, by omega⟩ ⟨by omega, by omega, by omega⟩ (ydN w68 ycW rfl rfl) rfl (by decide))
 ·intro w64 A64
  have z64 := A64.mod.size
  have l61 := A64.lt b61 (by simp)
  have l62 := A64.lt b62 (by simp)
  have l63 := A64.lt b63 (by simp)
  exact ydZ (tail (p := mv0) (q := mv0) w64.heap.size (h37.keep0 A64.mod) (hk37.keep0 A64.mod) ho (by omega) (by omega) (by omega) ms37 A64.mod (FrW.new (by simp)) (by simp) fb fl fa (ygA w64 _ ycW rfl rfl) (by omega) ⟨by omega, by omega, by omega, by omega⟩ ⟨by omega, by omega, by omega⟩ (ydN w64 ycW rfl rfl) rfl (by decide))
end Go.Proofs.YtjellhflalbbmaaGreat
namespace Go.Proofs.YtjellhflalbbmaaGreat.wiresDoes
open Go.ChangeShapes Go.WideShapes Go.ChangeAt Go.RowKit
open Go.ChangeMaps (open_string shut_string)
set_option linter.unusedVariables false
theorem own : ownKnob Tryz.prog.godebug = none := by kernel_rfl
theorem laidOut : laidOutB Tryz.prog = true := by kernel_rfl
set_option maxRecDepth 100000 in
theorem lifted (os : Os) (started : os.Started) (H : Type) (enc : TypeId × Value → H) :
    ReturnsInHanded {} Tryz.checked os 7 .any (Rows.wiresDoesSpec.pre6 enc Tryz.prog Tryz.f7 Rows.wiresDoesRow.domain false) (Rows.wiresDoesSpec.post enc Tryz.prog Tryz.f7 false true false false) := by
  refine returnsInHanded_of_change (C := Tryz.checked) own started (by kernel_rfl) Tryz.func7
    (ChangeSpec.witness6 (enc := enc) (C := Tryz.checked) false ⟨#[], #[.int .i64 0, .slice none 0 0], []⟩ 8 (by kernel_rfl) (by kernel_rfl) (by kernel_rfl) (by kernel_rfl)) ?_
  intro W base args ds gs before hval0 hW hcnd _
  have hval : ∀ (j : Nat) t v, Tryz.f7.params[j]? = some t → args[j]? = some v → Value.okWide Tryz.prog W .any base t v := hval0
  have hW' := hW
  obtain ⟨p, q, hA0, hV, rfl, hfz, hnd⟩ := hW
  have hA : DataW.TrodAll enc Tryz.prog W 0 (fun _ => true) true Tryz.f7.params.toList args.toList ds p := hA0
  rw [Tryz.params7] at hA hval
  obtain ⟨v0, vs0, d0, ds0, p0, q0, hargs, rfl, rfl, h0, r0⟩ := trodAll_cons hA
  obtain ⟨v1, vs1, d1, ds1, p1, q1, rfl, rfl, rfl, h1, r1⟩ := trodAll_cons r0
  obtain ⟨rfl, rfl, rfl⟩ := trodAll_nil r1
  obtain rfl : args = #[v0, v1] := by cases args; simp_all
  obtain ⟨rfl, rfl⟩ := trodVars_none hV
  have k0 := h0
  have lt0 : ∀ x ∈ p0, x.block < W.heap.size := by obtain ⟨m, hm⟩ := k0; exact DataW.trod_lt m _ _ _ hm
  have k1 := h1
  have lt1 : ∀ x ∈ p1, x.block < W.heap.size := by obtain ⟨m, hm⟩ := k1; exact DataW.trod_lt m _ _ _ hm
  obtain ⟨a0, rfl, _, _, w0⟩ := open_int Tryz.underlying3 (hval 0 3 v0 rfl rfl) h0
  obtain ⟨b1, len1, cap1, rfl⟩ := okWide_slice Tryz.underlying59 (hval 1 59 v1 rfl rfl)
  obtain ⟨fuel1, hf1⟩ := h1
  obtain ⟨b1', len1', cap1', l1, e1, s1, g1, u1, c1⟩ := (yHy hf1).slice_inv Tryz.underlying59 (yEY W)
  simp [Value.cells] at e1
  obtain ⟨rfl, rfl, rfl⟩ := e1
  rw [show Tryz.prog.cellsOf 64 = 21 by kernel_rfl] at s1
  clear hA0 hval0
  refine (yDw a0 W s1 g1).mono fun e W' ⟨he, hM⟩ => ?_
  have bel : Below W.heap.size W W' := hM.below (by simp)
  subst he
  exact ⟨_, rfl, _, _, _, [], _, [], hW', trodAll_mk1 (shut_bool Tryz.underlying4 _), (trodAll_cons_mk (Below.trod laidOut (by kernel_rfl) (of_decide_eq_true (by kernel_rfl)) k0 bel lt0) (trodAll_cons_mk (Below.trod laidOut (by kernel_rfl) (of_decide_eq_true (by kernel_rfl)) k1 bel lt1) trodAll_mk0)), rfl, bel.frame _, fun h => by cases h⟩
theorem over : Rows.wiresDoesRow.holds Tryz.pinned (OpenSpec.ofChange Rows.wiresDoesSpec) :=
  OpenClaim.holds_of_wide 7 Tryz.f7 rfl rfl rfl rfl rfl rfl rfl ⟨rfl, rfl, rfl, rfl, rfl⟩ rfl rfl rfl rfl rfl (by kernel_rfl) Tryz.func7 (by kernel_rfl)
    (of_decide_eq_true (by kernel_rfl)) (by unfold Func.isWrapper; first | (rw [if_pos (by decide +kernel)]; kernel_rfl) | (rw [if_neg (by decide +kernel)]; exact ⟨rfl, rfl⟩))
    (fun os started H enc _ => lifted os started H enc)
theorem proved : Rows.WiresDoesSaid := over
#print axioms proved
end Go.Proofs.YtjellhflalbbmaaGreat.wiresDoes
