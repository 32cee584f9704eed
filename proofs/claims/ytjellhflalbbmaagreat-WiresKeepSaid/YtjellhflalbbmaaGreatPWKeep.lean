/- WiresKeep, for every input. No conditions. -/
import Derived.Test.YtjellhflalbbmaaGreatPWKeepK4
namespace Go.Proofs.YtjellhflalbbmaaGreat
open Go Go.RowKit Go.Maps Go.MapKept
set_option linter.unusedVariables false
set_option linter.unusedSimpArgs false
theorem WiAt.big {w : World} {b : Nat} {room : Int} {next bl ba : Nat} {L : PL} {A : List (Int × Int)} (h : WiAt w b room next bl ba L A) {k : Int} (hk : (next : Int) < k) : lkp L k = none := yhE.2 fun p hp e => by
 have := (h.good p hp).2.2; omega
theorem WiAt.keys {w : World} {b : Nat} {room : Int} {next bl ba : Nat} {L : PL} {A : List (Int × Int)} (h : WiAt w b room next bl ba L A) : (L.map (·.1)).Nodup := by
 have := h.lm.nodup
 rw [List.map_map] at this
 simpa [Function.comp_def] using this
set_option maxHeartbeats 1000000 in
theorem ye3 {w : World} {b : Nat} {room : Int} {next bl ba : Nat} {L : PL} {A : List (Int × Int)} (h : WiAt w b room next bl ba L A) {m : PMail} {s f p : Sl} (hm : MailAt w m s f p) (hlc : m.calls.length ≤ 100000) (hsz : ybS m = 0 → (ycN m).size ≤ 900000) (hn : next < 1000000) :
  Calls pP 12 #[.pointer (some ⟨b, 0, none⟩), m.v s f p] w fun e w' => e = .returned (.tuple #[.int .i64 (if yeH room L m = 0 then ((next + 1 : Nat) : Int) else 0), .int .i64 (yeH room L m)]) ∧ Mod [b, bl] w w' ∧
   WiAt w' b room (if yeH room L m = 0 then next + 1 else next) bl ba (if yeH room L m = 0 then L ++ [(((next + 1 : Nat) : Int), m)] else L) A := by
 refine yaS (yFf h.cells ?_)
 intro b1 f1 w2 A2
 obtain ⟨nb1, nb2⟩ := h.nb
 refine (yxC (hm.keep0 A2.mod) hlc).mono ?_
 rintro _ w3 ⟨rfl, M3⟩
 have N3 : Mod [] w w3 := A2.mod.go0 M3 (by simp)
 have h3 := h.keep0 N3
 refine ⟨_, _, rfl, yaH.of0 M3, yaB (fun g => fun w6 A6 _ => ?_) fun g => ?_⟩
 ·have g : ybS m ≠ 0 := by simpa using g
  have e : yeH room L m = ybS m := by rw [yeH, if_pos g]
  rw [e, if_neg g, if_neg g, if_neg g]
  exact ⟨rfl, (N3.trans A6.mod).less (by simp), h3.keep0 A6.mod⟩
 have g : ybS m = 0 := by simpa using g
 have hE : yeH room L m = if (L.length : Int) ≥ room then 2 else 0 := by rw [yeH, if_neg (by simpa using g)]
 refine ⟨L.length, fun w' M => ?_, ?_⟩
 ·have := ((h3.lm.of_block (M.block _ h3.lm.lt (by simp)))).len (T := 68) Tryz.underlying68 3
  rw [this, List.length_map]
 refine yaC (fun g2 => fun w6 A6 _ => ?_) fun g2 => ?_
 ·rw [hE, if_pos g2, if_neg (by decide), if_neg (by decide), if_neg (by decide)]
  exact ⟨rfl, (N3.trans A6.mod).less (by simp), h3.keep0 A6.mod⟩
 rw [hE, if_neg g2, if_pos rfl, if_pos rfl, if_pos rfl]
 intro w9 A9
 have e1 : IntKind.wrap .i64 ((next : Int) + 1) = ((next + 1 : Nat) : Int) := by rw [yaF (by omega) (by omega)]; omega
 rw [e1, if_pos g]
 have l9 : yb5 pP 3 wki wks w9 bl (L.map fun p => (p.1, ycN p.2)) := h3.lm.of_block (A9.mod.block _ h3.lm.lt (by simp; omega))
 have a9 : yb5 pP 85 wkp wkb w9 ba (A.map fun p => (p, true)) := h3.am.of_block (A9.mod.block _ h3.am.lt (by simp; omega))
 obtain ⟨o, ho1, ho2⟩ := l9.update yzT ylP Tryz.underlying68 (k := ((next + 1 : Nat) : Int)) (ycN m) (ylQ (by unfold r64; omega))
 have hbig := h.big (k := ((next + 1 : Nat) : Int)) (by omega)
 rw [yd0 (by rw [ylR, hbig]; rfl)] at ho2
 have M10 : Mod [bl] w9 (Go.ChangeMaps.setBlock w9 bl o) := ya8
 have hb1 : b1 ≠ bl := by have := h.lm.lt; omega
 refine ⟨_, ho1, yaH.of M10 (by simp; omega), fun w11 A11 h11 => ⟨rfl, (((N3.trans A9.mod).trans M10).trans A11.mod).less (by simp), ?_⟩⟩
 refine ⟨h11, ?_, (a9.of_block (M10.block _ a9.lt (by simp; exact fun e => h.ne e.symm))).of_block (A11.mod.block _ (by rw [ykS]; exact a9.lt) (by simp)), h.ne, ?_, ?_, by omega⟩
 ·rw [List.map_append]
  exact ho2.of_block (A11.mod.block _ ho2.lt (by simp))
 ·intro q hq
  rcases List.mem_append.1 hq with hq | hq
  ·have := h.good q hq; exact ⟨this.1, this.2.1, this.2.2.1, by omega⟩
  ·simp at hq; subst hq; exact ⟨g, hsz g, by show (1 : Int) ≤ ((next + 1 : Nat) : Int); omega, by show ((next + 1 : Nat) : Int) ≤ _; omega⟩
 ·rw [List.pairwise_append]
  refine ⟨h.rise, by simp, fun x hx y hy => ?_⟩
  simp at hy; subst hy
  have := (h.good x hx).2.2
  show x.1 < ((next + 1 : Nat) : Int); omega
theorem yFk {m : PMail} (h : ybS m = 0) : r64 m.fr ∧ r64 m.to := by
 obtain ⟨h0, _⟩ := ybY h
 obtain ⟨_, h1, _, _⟩ := ycD h0
 have a := yeC (ye1 h1 (k := 1) (n := m.fr) rfl)
 have b := yeC (ye1 h1 (k := 2) (n := m.to) rfl)
 unfold r64; omega
theorem yB2 (w : World) (B : Nat) (m : PMail) (hc : m.calls = []) (hr : m.r = ydW) : MailOwn w B m ybJ ybJ ybJ :=
 ⟨⟨[], Row.nil .., by simp, by simp [hc]⟩, by rw [hr]; exact ⟨Row.nil .., Row.nil .., by simp [ydW], by simp [ydW]⟩⟩
def TwV (w : World) (B : Nat) (L : PL) (A : List (Int × Int)) (id : Int) (v : Value) : Prop := ∃ s f p : Sl, v = .tuple #[(twM L A id).v s f p, .int .i64 (twE L A id)] ∧ MailOwn w B (twM L A id) s f p ∧ (twM L A id).calls.length ≤ 100000
set_option maxHeartbeats 1000000 in
theorem yeR {w : World} {b : Nat} {room : Int} {next bl ba : Nat} {L : PL} {A : List (Int × Int)} (h : WiAt w b room next bl ba L A) {id : Int} (hid : r64 id) :
  Calls pP 13 #[.pointer (some ⟨b, 0, none⟩), .int .i64 id] w fun e w' => ∃ v, e = .returned v ∧ TwV w' w.heap.size L A id v ∧ Mod [] w w' := by
 refine yFg h.cells ?_
 intro b1 f1 w2 A2
 have h2 := h.keep0 A2.mod
 have s2 := A2.mod.size
 have lb := yaJ h.cells
 have l1 := A2.lt b1 (by simp)
 have k1 : ∀ k ∈ [b1], w.heap.size ≤ k := by simpa using f1
 refine ⟨(lkp (L.map fun p => (p.1, ycN p.2)) id).getD ⟨#[]⟩, (lkp L id).isSome, fun w' M => ?_, ?_⟩
 ·have := ((h2.lm.of_block (M.block _ h2.lm.lt (by simp)))).look (T := 68) true yzT ylP Tryz.underlying68 (yFi w') (ylQ hid)
  refine this.trans ?_
  rw [ylR]
  cases lkp L id <;> rfl
 have z : ∀ {w0 w'}, Mod [] w w0 → Adv [b1] [] w0 w' → twM L A id = yiF → ∀ e, twE L A id = e → TwV w' w.heap.size L A id (.tuple #[yiF.v ybJ ybJ ybJ, .int .i64 e]) ∧ Mod [] w w' := fun {w0 w'} N A' hm e he =>
  ⟨⟨ybJ, ybJ, ybJ, by rw [hm, he], by rw [hm]; exact yB2 _ _ _ rfl rfl, by rw [hm]; simp [yiF]⟩, N.go0 A'.mod k1⟩
 cases hl : lkp L id with
 | none =>
  refine brT rfl ?_
  intro w5 A5 _
  exact z A2.mod A5 (by rw [twM, hl]) 210 (by rw [twE, hl])
 | some m =>
  refine brF rfl ?_
  have hg := h.good _ (yrT hl)
  have es : (lkp (L.map fun p => (p.1, ycN p.2)) id).getD ⟨#[]⟩ = ycN m := by rw [ylR, hl]; rfl
  rw [es]
  refine (yBN hg.2.1 w2).mono ?_
  rintro _ w6 ⟨_, rfl, hv, M6⟩
  have s6 := M6.size
  have N6 : Mod [] w w6 := A2.mod.go0 M6 (by simp)
  rcases hv with ⟨m2, s6', f6, p6, g6, he, rfl, hO, hlc⟩ | ⟨hno, _⟩
  rotate_left
  ·exact absurd rfl (hno m hg.1)
  have em := (ysP hg.1 g6).1 he
  subst em
  refine ⟨_, _, _, _, _, _, _, _, _, _, _, _, _, _, _, _, _, _, _, _, _, _, _, _, rfl, yaH.of0 M6, ?_⟩
  intro b31 f31 w32 A32 _
  have N32 : Mod [] w w32 := N6.go0 A32.mod (by simp)
  obtain ⟨r1, r2⟩ := yFk hg.1
  refine (ynD (h.keep0 N32) r1 r2).mono ?_
  rintro _ w33 ⟨rfl, M33⟩
  have N33 := N32.go0 M33 (by simp)
  refine ⟨_, rfl, yaH.of0 M33, _, _, _, _, N33.keep0 h.cells, ?_⟩
  refine yaB (fun g => fun w39 A39 _ => z N33 A39 (by rw [twM, hl]; simp [g]) 211 (by rw [twE, hl]; simp [g])) fun g => fun w40 A40 _ => ?_
  have e1 : twM L A id = m := by rw [twM, hl]; simp [g]
  have e2 : twE L A id = 0 := by rw [twE, hl]; simp [g]
  refine ⟨⟨s6', f6, p6, by rw [e1, e2]; rfl, ?_, by rw [e1]; exact hlc⟩, N33.go0 A40.mod k1⟩
  rw [e1]
  exact ((((hO.keep0 A32.mod).keep0 M33).keepB A40.mod (by simp; omega)).rebase s2)
theorem WiAt.del {w : World} {b : Nat} {room : Int} {next bl ba : Nat} {L : PL} {A : List (Int × Int)} (h : WiAt w b room next bl ba L A) {id : Int} (hid : r64 id) (ty : TypeId) :
  ∃ o, (Builtin.delete_ #[68, 3] ty #[.map (some bl), .int .i64 id]).run pP w = .ok (.tuple #[]) (Go.ChangeMaps.setBlock w bl o) ∧ WiAt (Go.ChangeMaps.setBlock w bl o) b room next bl ba (Go.Proofs.YtjellhflalbbmaaGreat.del L id) A := by
 obtain ⟨nb1, nb2⟩ := h.nb
 obtain ⟨o, ho1, ho2⟩ := h.lm.delete yzT ylP Tryz.underlying68 (ylQ hid) ty
 rw [yBY] at ho2
 have M : Mod [bl] w (Go.ChangeMaps.setBlock w bl o) := ya8
 exact ⟨o, ho1, M.keep h.cells (by simp; omega), ho2, h.am.of_block (M.block _ h.am.lt (by simp; exact fun e => h.ne e.symm)), h.ne, fun p hp => h.good p (yBZ hp), h.rise.sublist (yB0 L id), h.nx⟩
theorem yzW {w : World} {b : Nat} {room : Int} {next bl ba : Nat} {L : PL} {A : List (Int × Int)} (h : WiAt w b room next bl ba L A) {id : Int} (hid : r64 id) :
  Calls pP 19 #[.pointer (some ⟨b, 0, none⟩), .int .i64 id] w fun e w' => e = .returned (.int .i64 (if (lkp L id).isSome then 0 else 210)) ∧ Mod [bl] w w' ∧ WiAt w' b room next bl ba (del L id) A := by
 refine yaS (yBS h.cells ?_)
 obtain ⟨nb1, nb2⟩ := h.nb
 refine ⟨(lkp (L.map fun p => (p.1, ycN p.2)) id).getD ⟨#[]⟩, (lkp L id).isSome, fun w' M => ?_, ?_⟩
 ·have := ((h.lm.of_block (M.block _ h.lm.lt (by simp)))).look (T := 68) true yzT ylP Tryz.underlying68 (yFi w') (ylQ hid)
  refine this.trans ?_
  rw [ylR]
  cases lkp L id <;> rfl
 refine yaB (fun g => fun w3 A3 _ => ?_) fun g => ?_
 ·have g : (lkp L id).isSome = false := by simpa using g
  have hn : lkp L id = none := by cases hh : lkp L id <;> simp_all
  rw [if_neg (by simp [g]), yfG hn]
  exact ⟨rfl, A3.mod.less (by simp), h.keep0 A3.mod⟩
 ·have g : (lkp L id).isSome = true := by simpa using g
  rw [if_pos g]
  obtain ⟨o, ho1, ho2⟩ := h.del hid 0
  refine ⟨_, _, ho1, yaH.of ya8 (by simp; omega), fun w6 A6 _ => ⟨rfl, ((ya8 (w := w)).trans A6.mod).less (by simp), ho2.keep0 A6.mod⟩⟩
def tkL (L : PL) (A : List (Int × Int)) (id : Int) : PL := if twE L A id = 0 then del L id else L
set_option maxHeartbeats 1000000 in
theorem yhM {w : World} {b : Nat} {room : Int} {next bl ba : Nat} {L : PL} {A : List (Int × Int)} (h : WiAt w b room next bl ba L A) {id : Int} (hid : r64 id) :
  Calls pP 15 #[.pointer (some ⟨b, 0, none⟩), .int .i64 id] w fun e w' => ∃ v, e = .returned v ∧ TwV w' w.heap.size L A id v ∧ Mod [bl] w w' ∧ WiAt w' b room next bl ba (tkL L A id) A := by
 refine yFh h.cells ?_
 intro b1 f1 w2 A2 _
 have s2 := A2.mod.size
 have l1 := A2.lt b1 (by simp)
 have k1 : ∀ k ∈ [b1], w.heap.size ≤ k := by simpa using f1
 obtain ⟨nb1, nb2⟩ := h.nb
 have ll := h.lm.lt
 have la := h.am.lt
 have lb := yaJ h.cells
 refine (yeR (h.keep0 A2.mod) hid).mono ?_
 rintro _ w3 ⟨_, rfl, ⟨s3, f3, p3, rfl, hO, hlc⟩, M3⟩
 have N3 : Mod [] w w3 := A2.mod.go0 M3 (by simp)
 have s3' := M3.size
 refine ⟨_, _, _, _, _, _, _, _, _, _, _, _, _, _, _, _, _, _, _, _, _, _, _, _, rfl, yaH.of0 M3, _, _, _, _, N3.keep0 h.cells, ?_⟩
 intro b32 f32
 refine yaB (fun g => ?_) fun g => ?_
 ·have g : twE L A id = 0 := by simpa using g
  intro w33 A33 _
  have N33 : Mod [] w w33 := N3.go0 A33.mod (by simp)
  obtain ⟨o, ho1, ho2⟩ := (h.keep0 N33).del hid 0
  have M34 : Mod [bl] w33 (Go.ChangeMaps.setBlock w33 bl o) := ya8
  refine ⟨_, _, ho1, yaH.of M34 (by simp; omega), fun w36 A36 _ => ⟨⟨s3, f3, p3, rfl, ?_, hlc⟩, ?_, ?_⟩⟩
  ·exact ((((hO.keep0 A33.mod).keepB M34 (by simp; omega)).keepB A36.mod (by simp; omega)).rebase s2)
  ·exact ((N33.trans M34).trans A36.mod).less fun k hk hlk => by simp at hk ⊢; omega
  ·rw [tkL, if_pos g]; exact ho2.keep A36.mod (by simp; omega) (by simp; omega) (by simp; omega)
 ·have g : ¬ twE L A id = 0 := by simpa using g
  intro w37 A37 _
  refine ⟨⟨s3, f3, p3, rfl, ((hO.keepB A37.mod (by simp; omega)).rebase s2), hlc⟩, (N3.trans A37.mod).less fun k hk hlk => by simp at hk ⊢; omega, ?_⟩
  rw [tkL, if_neg g]; exact (h.keep0 N3).keep A37.mod (by simp; omega) (by simp; omega) (by simp; omega)
end Go.Proofs.YtjellhflalbbmaaGreat
namespace Go.Proofs
open Go.Shelf
shelf_lay_g SlLaysZI.n6 Ggz 6 at Tryz 31 as Tryz.sortedL
shelf_lay_g SlLaysM.n5 Slgm 5 at Tryz 46 as Tryz.sortL
end Go.Proofs
namespace Go.Proofs.YtjellhflalbbmaaGreat
open Go Go.RowKit Go.Maps Go.Sort Go.Shelf Go.MapKept Go.WideElems Go.WideShapes
set_option linter.unusedVariables false
set_option linter.unusedSimpArgs false
theorem ylS {P : Program} {t : TypeId} (ht : P.underlying t = some (.int .i64)) {k : Int} {l : Lit} (h : keyOf P t (.int .i64 k) = some l) : l = .int .i64 k ∧ (Lit.int .i64 k).wf = true := by
 simp [keyOf, ht, mapKey] at h
 obtain ⟨h1, h2⟩ := h
 exact ⟨h2.symm, h1⟩
theorem yb5.owns {P : Program} {t : TypeId} {β : Type} {ev : β → Value} {w : World} {b : Nat} {L : List (Int × β)} (h : yb5 P t (fun k : Int => .int .i64 k) ev w b L) (ht : P.underlying t = some (.int .i64)) (hl : L.length ≤ maxLen) :
  ∃ D : DataW Unit, w.ownsMap P t (fun _ => some (.nil, [])) b L.length D ∧ (intKeys D).Perm (L.map (·.1)) ∧ Maps.size D = L.length := by
 obtain ⟨es, clock, hb, he, hk, hs⟩ := h
 have hlen : es.toList.length = L.length := by simpa using congrArg List.length he
 have hrd : ∀ x ∈ es.toList, ∃ k : Int, x.key = .int .i64 k ∧ (Lit.int .i64 k).wf = true ∧ Go.WideElems.rd (H := Unit) P t (fun _ => some (.nil, [])) x = some (.int .i64 k, .nil) := by
  intro x hx
  have hm : (x.key, x.val) ∈ es.toList.map fun e => (e.key, e.val) := List.mem_map.2 ⟨x, hx, rfl⟩
  rw [he] at hm
  obtain ⟨p, hp, hpe⟩ := List.mem_map.1 hm
  simp only [Prod.mk.injEq] at hpe
  obtain ⟨l, hl⟩ := hk p hp
  obtain ⟨rfl, hw⟩ := ylS ht hl
  refine ⟨p.1, hpe.1.symm, hw, ?_⟩
  unfold Go.WideElems.rd
  rw [← hpe.1, hl]; rfl
 have hmap : (es.toList.map (Go.WideElems.rg (H := Unit) P t (fun _ => some (.nil, [])))).map (fun p => Go.intOf p.1) = L.map (·.1) := by
  have e2 : es.toList.map (fun e => e.key) = L.map (fun p => Value.int .i64 p.1) := by
   have := congrArg (List.map fun q : Value × Value => q.1) he
   simpa [Function.comp_def] using this
  have e3 : es.toList.map (fun e => (match e.key with | .int _ k => k | _ => 0 : Int)) = L.map (·.1) := by
   have := congrArg (List.map fun v : Value => (match v with | .int _ k => k | _ => 0 : Int)) e2
   simpa [Function.comp_def] using this
  rw [← e3, List.map_map]
  apply List.map_congr_left
  intro x hx
  obtain ⟨k, h1, h2, h3⟩ := hrd x hx
  simp only [Function.comp_apply, h1]
  unfold Go.WideElems.rg
  rw [h3]; rfl
 have hlen' : es.size = L.length := by simpa using hlen
 refine ⟨DataW.map ((es.toList.map (Go.WideElems.rg P t (fun _ => some (.nil, [])))).foldr DataW.insert []), ⟨es, clock, hb, ⟨by omega, hs, fun x hx => ?_⟩, by omega, rfl⟩, ?_, ?_⟩
 ·obtain ⟨k, h1, h2, h3⟩ := hrd x hx; exact ⟨_, h3⟩
 ·rw [← hmap]
  exact (sorted_perm _).map _
 ·rw [Maps.size_eq, length_sorted]; simpa using hlen
def yiT (l : List Int) : List Int := l.mergeSort fun x y => decide (x ≤ y)
theorem ysQ {a b : List Int} (h : a.Perm b) : yiT a = yiT b := by
 have tr : ∀ a b c : Int, decide (a ≤ b) = true → decide (b ≤ c) = true → decide (a ≤ c) = true := by simp; omega
 have to : ∀ a b : Int, (decide (a ≤ b) || decide (b ≤ a)) = true := by simp; omega
 have p1 := List.pairwise_mergeSort tr to a
 have p2 := List.pairwise_mergeSort tr to b
 have hp : (yiT a).Perm (yiT b) := ((List.mergeSort_perm a _).trans h).trans (List.mergeSort_perm b _).symm
 exact hp.eq_of_pairwise (fun x y _ _ h1 h2 => by simp at h1 h2; omega) p1 p2
theorem yzX (n : Nat) : AnyZI.SortsIn pP Tryz.sortedL_ren Fence.wide n :=
  ⟨fun blk off cap ss W hH hblk hsz => callsIn_wide.2 (AnyM.slices_Sort_int Tryz.sortL blk off cap ss W hH hblk hsz),
   fun p cap W => callsIn_wide.2 (AnyM.slices_Sort_int_none Tryz.sortL p cap W)⟩
end Go.Proofs.YtjellhflalbbmaaGreat
namespace Go.Proofs.YtjellhflalbbmaaGreat
open Go Go.RowKit
set_option linter.all false
theorem yxM {P : Program} {o : Oper} {a : Act} {w : World} {l : Nat} {K : VWP} {Q : Exit → Act → World → Prop} {next : Act → World → Prop} (h : yg3 P (execOp a.eval o) w K) (hd : ∀ c, o.op ≠ .defer c) (hK : ∀ v w', K v w' → next (a.put o.dst v) w') : o.wpIn (Fence.wide.inRound l) 0 P a w next Q := by
 refine ⟨fun _ _ => trivial, ?_⟩
 rw [Oper.semAt_eq _ _ _ hd]
 unfold yg3 at h
 split at h
 ·rename_i v w' he; rw [he]; exact hK _ _ h
 ·rename_i w' he; rw [he]; exact hK _ _ h
 ·rename_i f args w' he
  rw [he, Oper.uponIn_enter]
  refine ⟨fun hh => by simp [Fence.wide] at hh, ?_⟩
  refine (CallsIn.inRound l (callsIn_wide.2 h)).mono fun e w'' hv => ?_
  obtain ⟨v, rfl, hk⟩ := hv
  exact hK v w'' hk
 ·exact h.elim
theorem ybW {w : World} {b : Nat} {o : Obj} (h : w.heap[b]? = some o) : b < w.heap.size := (Array.getElem?_eq_some_iff.1 h).1
def yfL : List Oper → Bool
 | [] => true
 | o :: r => match o.op with
  | .defer _ => false
  | _ => match o.guard with
   | none => yfL r
   | some _ => false
theorem ynE {o : Oper} {r : List Oper} (h : yfL (o :: r) = true) : (∀ c, o.op ≠ .defer c) ∧ o.guard = none ∧ yfL r = true := by
 unfold yfL at h
 split at h
 ·cases h
 ·rename_i hn
  split at h
  ·rename_i hg; exact ⟨hn, hg, h⟩
  ·cases h
theorem yeS {P : Program} {n l : Nat} {ops : Array Oper} {Q : Exit → Act → World → Prop} {K : FA → St → Prop} (hK : ∀ f s wa a, K f s → Inv f s wa → Rel n f a → Q .normal a wa) :
  ∀ {L : List Oper} {f : FA} {s : St} {wa : World} {a : Act}, yfL L = true → (∀ o ∈ L, ∀ k, o.dst = some k → k < n) → ya9 P ops L K f s → Inv f s wa → Rel n f a → wpListIn (Fence.wide.inRound l) 0 P ops Q L a wa
 | [], f, s, wa, a, _, _, h, hI, hR => hK f s wa a h hI hR
 | o :: r, f, s, wa, a, hnd, hn, h, hI, hR => by
  obtain ⟨hd, hg, hnd'⟩ := ynE hnd
  have hnr : ∀ o ∈ r, ∀ k, o.dst = some k → k < n := fun o ho => hn o (by simp [ho])
  unfold ya9 at h
  rw [hg] at h
  refine wpListIn_plain hg fun K' hK' => ?_
  refine yxM (K := fun v wa' => ∃ t s', ya9 P ops r K (ydQ f o.dst v t) s' ∧ OpI f s' v t wa' ∧ ybB s s') (by rw [hR.eval]; exact (yc4 h hI).2) hd fun v w' ⟨t, s', h1, h2, _⟩ => ?_
  exact hK' _ _ (yeS hK hnd' hnr h1 (h2.put o.dst) (hR.put o.dst (hn o (by simp)) v t))
theorem ygO (w : World) (l : Nat) (o : Obj) : Mod [l] w (w.putObj l o) := ⟨rfl, rfl, rfl, by simp [World.putObj], fun k hk hn => World.putObj_heap_other (by simpa using hn)⟩
def yGa {α : Type} (P : Program) (gf : FuncId) (lb : Array Value) (encs : α → Array Value) (w0 : World) (S : List Nat) (X : Nat → α → World → Prop) (N B : Nat) : Prop :=
 ∀ (l : Nat) (J : List α → World → Prop), (∀ pre W W', J pre W → Mod [] W W' → J pre W') → (∀ pre W, J pre W → Mod S w0 W ∧ B ≤ W.heap.size) →
  (∀ pre x W1, J pre W1 → X pre.length x W1 → pre.length < N → YieldAt Fence.wide 0 P l (encs x) W1 fun e W' => e = .returned (.bool true) ∧ J (pre ++ [x]) W') →
  ∀ W, J [] W → CallsIn Fence.wide 1 P gf (#[.func (.yield l) #[] #[]] ++ lb) W fun e W' => (∃ v, e = .returned v) ∧ ∃ xs, xs.length = N ∧ J xs W'
theorem yi7 {α : Type} {P : Program} {g : Operand} {ps : Array Tmp} {assign body : Code} {Q : Exit → Act → World → Prop} {a : Act} {w : World}
  {gf : Nat} {lb : Array Value} (hg : a.eval g = .func (.func gf) #[] lb) (eg : ∀ args w, (callFunc gf args).run P w = .ok (.enter gf args) w)
  {encs : α → Array Value} {S : List Nat} {X : Nat → α → World → Prop} {N : Nat} (hseq : yGa P gf lb encs w S X N (w.heap.size + 2)) (hps : ∀ x, (encs x).size = ps.size) (hS : ∀ i ∈ S, i < w.heap.size)
  (I : List α → World → Prop) (hIm : ∀ s W W', I s W → Mod [] W W' → I s W') (hIp : ∀ s W l (o : Loop), l = w.heap.size + 1 → I s W → I s (W.putObj l (.loop o))) (hIS : ∀ s W, I s W → Mod S w W) (h0 : I [] w)
  (hround : ∀ (pre : List α) (x : α) (W : World) (lp : Loop), I pre W → pre.length < N → X pre.length x W → W.heap[w.heap.size + 1]? = some (.loop lp) → w.heap.size < W.heap.size →
   assign.wpIn (Fence.wide.inRound (w.heap.size + 1)) 0 P (Exit.then (fun a1 W1 => W1.heap[w.heap.size + 1]? = some (.loop lp) ∧ ∀ lp' : Loop, body.wpIn (Fence.wide.inRound (w.heap.size + 1)) 0 P
    (fun e _ W' => e = .normal ∧ W'.heap[w.heap.size + 1]? = some (.loop lp') ∧ W'.heap[w.heap.size]? = W.heap[w.heap.size]? ∧ I (pre ++ [x]) W') a1 (W1.putObj (w.heap.size + 1) (.loop lp'))) fun _ _ _ => False)
    { tmps := (ps.zip (encs x)).foldl (fun t (p, v) => t.setIfInBounds p v) a.tmps, defers := [] } W)
  (hdone : ∀ (W : World) xs, xs.length = N → I xs W → W.heap[w.heap.size]? = some (.deferred (some [])) → Q .normal { a with defers := { target := .collected w.heap.size, args := #[] } :: a.defers } W) :
  (Code.rangeFunc g ps assign body).wpIn Fence.wide 2 P Q a w := by
 refine wpIn_rangeFunc ?_
 intro fn hfn
 have hro : Fence.wide.round = none := rfl
 rw [hro]
 obtain ⟨rec, hrec⟩ : ∃ rec : LoopState → Option Code → Loop, rec = fun st pe => { state := st, pending := pe, fn, tmps := a.tmps, params := ps, assign, body, defers := w.heap.size } := ⟨_, rfl⟩
 obtain ⟨W1, hW1⟩ : ∃ W1, (w.alloc (.deferred (some []))).alloc (.loop (rec .ready none)) = W1 := ⟨_, rfl⟩
 have hL1 : W1.heap[w.heap.size + 1]? = some (.loop (rec .ready none)) := by
  rw [← hW1]; have := World.alloc_heap_new (w.alloc (.deferred (some []))) (.loop (rec .ready none)); rwa [World.size_alloc] at this
 have hK1 : W1.heap[w.heap.size]? = some (.deferred (some [])) := by
  rw [← hW1]; exact (Below.heap_alloc _ _ _ (by simp)).trans (World.alloc_heap_new w _)
 have M : ∀ (x : World) (o : Obj), Mod [] x (x.alloc o) := fun x o => Mod.of_below ((Below.refl _ _).alloc (Nat.le_refl _) _)
 have hI1 : I [] W1 := by rw [← hW1]; exact hIm _ _ _ (hIm _ _ _ h0 (M _ _)) (M _ _)
 refine ⟨w.heap.size + 1, [{ target := .collected w.heap.size, args := #[] }], W1, { target := .fn (.func gf) lb, args := #[.func (.yield (w.heap.size + 1)) #[] #[]] }, W1, gf,
  #[.func (.yield (w.heap.size + 1)) #[] #[]] ++ lb, W1, ?_, ?_, fun _ _ => trivial, ?_, fun h => (by simp [Fence.wide] at h), ?_⟩
 ·rw [← hW1, hrec]; exact run_enterLoop_outer _ _ _ _ _
 ·simp only [resolve, hg]
  simp [go_sem]
 ·simp [invoke, go_sem, eg]
 ·refine (hseq (w.heap.size + 1)
   (fun pre W => I pre W ∧ W.heap[w.heap.size + 1]? = some (.loop (rec .ready none)) ∧ W.heap[w.heap.size]? = some (.deferred (some [])))
   ?_ ?_ ?_ W1 ⟨hI1, hL1, hK1⟩).mono ?_
  ·rintro pre W W' ⟨hi, hl, hk⟩ hM
   exact ⟨hIm _ _ _ hi hM, (hM.block _ (ybW hl) (by simp)).trans hl, (hM.block _ (ybW hk) (by simp)).trans hk⟩
  ·rintro pre W ⟨hi, hl, hk⟩
   exact ⟨hIS _ _ hi, ybW hl⟩
  ·rintro pre x W ⟨hi, hl, hk⟩ hx hlen
   have hlt := ybW hl
   have hy := run_yield (P := P) (args := encs x) hl (by rw [hrec]; exact hps x)
   rw [hrec] at hy
   refine ⟨fn, _, assign, body, hy, roundIn_of_wpIn trivial ?_⟩
   refine wpIn_mono (hround pre x W (rec .ready none) hi hlen hx hl (by omega)) ?_
   intro e a1 W2 hq
   cases e with
   | normal =>
    obtain ⟨hl2, hb⟩ := hq
    refine ⟨_, run_beginRound hl2 (by rw [hrec]), ?_⟩
    refine wpIn_mono (hb { rec .ready none with state := .busy }) ?_
    rintro e a3 W3 ⟨rfl, hr1, hD3, hi3⟩
    have hr := run_endRound (P := P) none hr1
    have hlt3 := ybW hr1
    refine ⟨_, _, hr, rfl, ⟨hIp _ _ _ _ rfl hi3, ?_, ?_⟩⟩
    ·rw [World.putObj_heap_same hlt3, hrec]; rfl
    ·exact (World.putObj_heap_other (by omega)).trans (hD3.trans hk)
   | _ => exact hq.elim
  ·rintro e W2 ⟨⟨v, rfl⟩, xs, hxs, hi, hl, hk⟩
   exact ⟨none, _, by have := run_endLoop (P := P) hl (by rw [hrec]; simp); rw [hrec] at this; exact this, hdone _ xs hxs (hIp _ _ _ _ rfl hi) ((World.putObj_heap_other (by omega)).trans hk)⟩
theorem yF3 {ts : Array Value} {q : Tmp} {v : Value} : ((#[q] : Array Tmp).zip #[v]).foldl (fun t (x : Tmp × Value) => match x with | (p, v) => t.setIfInBounds p v) ts = ts.setIfInBounds q v := by simp
def yzY (P : Program) : Code → (FA → St → Prop) → FA → St → Prop
 | .skip, K, f, s => K f s
 | .region _ ops draw, K, f, s => match draw with
  | false => ya9 P ops ops.toList K f s
  | true => False
 | .seq a b, K, f, s => yzY P a (yzY P b K) f s
 | .cond c a b, K, f, s => match evA f c with
  | .bool t => brB t (yzY P a K f s) (yzY P b K f s)
  | _ => False
 | .block _ c, K, f, s => yzY P c K f s
 | _, _, _, _ => False
def okB (n : Nat) : Code → Bool
 | .skip => true
 | .region _ ops _ => yfL ops.toList && yz9 n ops.toList
 | .seq a b => okB n a && okB n b
 | .cond _ a b => okB n a && okB n b
 | .block _ c => okB n c
 | _ => false
theorem ycW {P : Program} {n l : Nat} : ∀ {c : Code} {Q : Exit → Act → World → Prop} {K : FA → St → Prop} {f : FA} {s : St} {wa : World} {a : Act}, (∀ f s wa a, K f s → Inv f s wa → Rel n f a → Q .normal a wa) → okB n c = true → yzY P c K f s → Inv f s wa → Rel n f a → c.wpIn (Fence.wide.inRound l) 0 P Q a wa
 | .skip, Q, K, f, s, wa, a, hK, _, h, hI, hR => wpIn_skip (hK f s wa a h hI hR)
 | .region id ops draw, Q, K, f, s, wa, a, hK, hc, h, hI, hR => by
  simp only [okB, Bool.and_eq_true] at hc
  cases draw with
  | false => exact wpIn_region_list (yeS hK hc.1 (yfZ hc.2) h hI hR)
  | true => exact h.elim
 | .seq x y, Q, K, f, s, wa, a, hK, hc, h, hI, hR => by
  simp only [okB, Bool.and_eq_true] at hc
  exact wpIn_seq (ycW (c := x) (K := yzY P y K) (fun f s wa a h1 hI1 hR1 => ycW (c := y) hK hc.2 h1 hI1 hR1) hc.1 h hI hR)
 | .cond c x y, Q, K, f, s, wa, a, hK, hc, h, hI, hR => by
  simp only [okB, Bool.and_eq_true] at hc
  unfold yzY at h
  split at h
  ·rename_i t ht
   have hev : a.eval c = .bool t := by rw [hR.eval]; exact ht
   refine wpIn_cond_split hev (fun e => ?_) fun e => ?_
   ·subst e; exact ycW (c := x) hK hc.1 h hI hR
   ·subst e; exact ycW (c := y) hK hc.2 h hI hR
  ·exact h.elim
 | .block id c, Q, K, f, s, wa, a, hK, hc, h, hI, hR => wpIn_block (ycW (c := c) (fun f s wa a h1 hI1 hR1 => hK f s wa a h1 hI1 hR1) hc h hI hR)
def yxN (P : Program) (c : Code) (l : Nat) (lp : Loop) (R : World → List TB → World → Prop) (ids : List Nat) (f : FA) (s : St) : Prop := match c with
 | .rangeFunc _ _ (.region _ A false) body => ya9 P A A.toList (fun f s => yfW s fun s => s.w.heap[l]? = some (.loop lp) ∧ ∀ w2, Mod [l] s.w w2 → yzY P body (fun _ s => yfW (ybZ ids s) fun s => R w2 s.mem s.w) f ⟨s.mem, w2, [], [], true⟩) f s
 | _ => False
def ylT (n : Nat) (c : Code) : Bool := match c with
 | .rangeFunc _ _ (.region _ A false) body => yfL A.toList && yz9 n A.toList && okB n body
 | _ => false
theorem ypM {P : Program} {n l : Nat} {g : Operand} {ps : Array Tmp} {assign body : Code} (hc : ylT n (.rangeFunc g ps assign body) = true) {R : World → List TB → World → Prop} {ids : List Nat} {f : FA} {s : St} {a : Act} {w : World} {lp : Loop}
  (h : yxN P (.rangeFunc g ps assign body) l lp R ids f s) (hI : Inv f s w) (hR : Rel n f a) :
  assign.wpIn (Fence.wide.inRound l) 0 P (Exit.then (fun a1 w1 => w1.heap[l]? = some (.loop lp) ∧ ∀ lp' : Loop, body.wpIn (Fence.wide.inRound l) 0 P (fun e _ w' => e = .normal ∧ ∃ mem, R (w1.putObj l (.loop lp')) mem w') a1 (w1.putObj l (.loop lp'))) fun _ _ _ => False) a w := by
 unfold yxN at h
 split at h
 ·rename_i id1 A body hh
  cases hh
  simp only [ylT, Bool.and_eq_true] at hc
  obtain ⟨⟨c1, c3⟩, c4⟩ := hc
  refine wpIn_region_list (yeS (n := n) (fun f1 s1 w1 a1 h1 hI1 hR1 => ?_) c1 (yfZ c3) h hI hR)
  obtain ⟨s2, ⟨hl, h2⟩, hI2, hw2, hm2, _⟩ := ycL h1 hI1
  rw [hw2] at hl h2
  refine ⟨hl, fun lp' => ?_⟩
  have hne : ∀ (k : Nat) tb, s2.mem[k]? = some tb → tb.b ≠ l := fun k tb hk e => by
   have := hI2.at_ k tb hk
   rw [e, hl] at this; cases this
  have hI3 : Inv f1 ⟨s2.mem, w1.putObj l (.loop lp'), [], [], true⟩ (w1.putObj l (.loop lp')) :=
   ⟨fun k tb hk => by rw [World.putObj_heap_other (hne k tb hk)]; exact hI2.at_ k tb hk, hI2.nd, hI2.tags, (Mod.refl _).less (by simp [yrX]), by simp, ⟨by simp, by simp⟩, fun _ => rfl⟩
  refine ycW (n := n) (fun f4 s4 w4 a4 h4 hI4 hR4 => ?_) c4 (h2 _ (ygO w1 l _)) hI3 hR1
  obtain ⟨s5, h5, hI5, hw5, hm5, _⟩ := ycL h4 (ybE hI4)
  rw [hw5] at h5; exact ⟨rfl, _, h5⟩
 ·exact h.elim
theorem ysR {f : FA} {d1 d2 q b1 b2 : Nat} {T1 T2 : TypeId} {cs1 cs2 : List Value} {x : Value} {w : World} {js : Nat → Value} (h1 : w.heap[b1]? = some (.cells cs1.toArray T1)) (h2 : w.heap[b2]? = some (.cells cs2.toArray T2)) (hne : b1 ≠ b2)
  (hf : f = ⟨[(d1, .pointer (some ⟨b1, 0, none⟩), some (0, 0)), (d2, .pointer (some ⟨b2, 0, none⟩), some (1, 0)), (q, x, none)], js⟩) : Inv f ⟨[⟨b1, T1, cs1, false⟩, ⟨b2, T2, cs2, false⟩], w, [], [], true⟩ w := by
 subst hf
 have get : ∀ (k : Nat) (tb : TB), [(⟨b1, T1, cs1, false⟩ : TB), ⟨b2, T2, cs2, false⟩][k]? = some tb → (k = 0 ∧ tb = ⟨b1, T1, cs1, false⟩) ∨ (k = 1 ∧ tb = ⟨b2, T2, cs2, false⟩) := fun k tb h => by
  match k, h with
  | 0, h => simp at h; exact .inl ⟨rfl, h.symm⟩
  | 1, h => simp at h; exact .inr ⟨rfl, h.symm⟩
  | k + 2, h => simp at h
 refine ⟨fun k tb hk => by rcases get k tb hk with ⟨_, rfl⟩ | ⟨_, rfl⟩ <;> assumption, fun i j x y hx hy hb => ?_, fun i k off ht => ?_, (Mod.refl w).less (by simp [yrX]), by simp, ⟨by simp, by simp⟩, fun _ => rfl⟩
 ·rcases get i x hx with ⟨rfl, rfl⟩ | ⟨rfl, rfl⟩ <;> rcases get j y hy with ⟨rfl, rfl⟩ | ⟨rfl, rfl⟩
  ·rfl
  ·exact absurd hb hne
  ·exact absurd hb.symm hne
  ·rfl
 ·simp only [FA.tag, lkT] at ht
  split at ht
  ·rename_i hi
   have hi : d1 = i := Nat.eq_of_beq_eq_true hi
   subst hi; cases ht
   exact ⟨_, rfl, by simp [FA.get, lkV]⟩
  ·rename_i hi
   split at ht
   ·rename_i hi2
    have hi2 : d2 = i := Nat.eq_of_beq_eq_true hi2
    subst hi2; cases ht
    exact ⟨_, rfl, by simp [FA.get, lkV, hi]⟩
   ·split at ht <;> cases ht
theorem ysS {n d1 d2 q : Nat} {p1 p2 x : Value} {t1 t2 : Tag} {a : Act} (h1 : a.tmps.getD d1 undef = p1) (h2 : a.tmps.getD d2 undef = p2) (h3 : a.tmps.getD q undef = x) (hd : a.defers = []) (hn : a.tmps.size = n) : Rel n ⟨[(d1, p1, t1), (d2, p2, t2), (q, x, none)], fun i => a.tmps.getD i undef⟩ a :=
 ⟨fun i => by
  simp only [FA.get, lkV]
  split
  ·rename_i hi
   rw [← Nat.eq_of_beq_eq_true hi, h1]
  ·split
   ·rename_i hi
    rw [← Nat.eq_of_beq_eq_true hi, h2]
   ·split
    ·rename_i hi
     rw [← Nat.eq_of_beq_eq_true hi, h3]
    ·rfl, hd, hn⟩
section
set_option maxRecDepth 100000
variable {R : VWP} {w w0 : World} {m : Nat} {i0 i1 i2 i3 i4 i5 i6 i7 i8 i9 j0 j1 j2 j3 j4 j5 j6 j7 j8 j9 k0 k1 k2 k3 k4 k5 k6 k7 k8 k9 l0 l1 l2 l3 l4 l5 l6 l7 l8 l9 : Int} {s0 s1 s2 s3 s4 s5 s6 s7 s8 s9 t0 t1 t2 t3 t4 t5 t6 t7 t8 t9 : BA} {n0 n1 n2 n3 n4 n5 n6 n7 n8 n9 o0 o1 o2 o3 o4 o5 o6 o7 o8 o9 p0 p1 p2 p3 p4 p5 p6 p7 p8 p9 : Nat} {q0 q1 q2 q3 q4 q5 q6 q7 q8 q9 r0 r1 r2 r3 r4 r5 r6 r7 r8 r9 : OA} {B0 B1 B2 B3 B4 B5 B6 B7 B8 B9 : Bool} {M0 M1 M2 M3 : Option Nat} {V0 V1 V2 V3 V4 V5 : Value} {A0 A1 A2 : Addr}
def yeI (l : Nat) (lp : Loop) (b0 : Nat) (o0_0 : OA) (b1 : Nat) (o1_0_a : OA) (o1_0_n o1_0_c : Nat) (x0 : Int) (R : World → List TB → World → Prop) (w : World) : Prop :=
 w.heap[l]? = some (.loop lp) ∧
 ∀ w1, Mod [l] w w1 →
 Calls pP 13 #[.pointer o0_0, .int .i64 x0] w1 fun e w2 => ∃ x3 x4 x5 x6 x7 x8 x9 b4 b5 b6 a3 a9 a6 b7 b8 b9 c0 a4 b2 a7 a5 b3 a8 c7, e = .returned (.tuple #[(.agg (Z0 x3 x4 x5 x6 x7 x8 x9 b4 b5 b6 a3 a9 a6 b7 b8 b9 c0 a4 b2 a7 a5 b3 a8)), .int .i64 c7]) ∧ yaH [b0, b1] w1 w2 ∧
 ∀ a0, w2.heap.size ≤ a0 →
 brB (c7 == 0) (
 ∀ c4, Adv [] [a0] w2 c4 →
 al c4 (.cells #[.int .i64 x0] 3) fun c8 c5 =>
 ycZ pP (Builtin.append_ #[27, 27] 27 #[.slice o1_0_a o1_0_n o1_0_c, (.slice (some ⟨c8, 0, none⟩) 1 1)]) c5 fun c1 c3 c2 c6 => yaH [b0, b1, a0] c5 c6 ∧
 ∀ a1, Adv [b1] [] c6 a1 → a1.heap[b0]? = some (.cells #[.pointer o0_0] 22) →
 a1.heap[b1]? = some (.cells #[.slice c1 c3 c2] 27) →
 R w1 [⟨b0, 22, [.pointer o0_0], true⟩, ⟨b1, 27, [.slice c1 c3 c2], true⟩, ⟨a0, 37, [.int .i64 x3, .int .i64 x4, .int .i64 x5, .int .i64 x6, .int .i64 x7, .int .i64 x8, .int .i64 x9, .int .i64 b4, .int .i64 b5, .int .i64 b6, .slice a3 a9 a6, .int .i64 b7, .int .i64 b8, .int .i64 b9, .int .i64 c0, .slice a4 b2 a7, .slice a5 b3 a8], false⟩] a1)
 (
 ∀ a2, Adv [] [a0] w2 a2 → a2.heap[b0]? = some (.cells #[.pointer o0_0] 22) →
 a2.heap[b1]? = some (.cells #[.slice o1_0_a o1_0_n o1_0_c] 27) →
 R w1 [⟨b0, 22, [.pointer o0_0], true⟩, ⟨b1, 27, [.slice o1_0_a o1_0_n o1_0_c], true⟩, ⟨a0, 37, [.int .i64 x3, .int .i64 x4, .int .i64 x5, .int .i64 x6, .int .i64 x7, .int .i64 x8, .int .i64 x9, .int .i64 b4, .int .i64 b5, .int .i64 b6, .slice a3 a9 a6, .int .i64 b7, .int .i64 b8, .int .i64 b9, .int .i64 c0, .slice a4 b2 a7, .slice a5 b3 a8], false⟩] a2)
theorem ydN (l : Nat) (lp : Loop) (b0 : Nat) (o0_0 : OA) (b1 : Nat) (o1_0_a : OA) (o1_0_n o1_0_c : Nat) (x0 : Int) (js : Nat → Value) (R : World → List TB → World → Prop) (w : World) :
 yxN pP (ynR (code Tryz.f18) [0, 1, 0, 1, 1]) l lp R [0, 1] ⟨[(1, .pointer (some ⟨b0, 0, none⟩), some (0, 0)), (3, .pointer (some ⟨b1, 0, none⟩), some (1, 0)), (10, .int .i64 x0, none)], js⟩ ⟨[⟨b0, 22, [.pointer o0_0], false⟩, ⟨b1, 27, [.slice o1_0_a o1_0_n o1_0_c], false⟩], w, [], [], true⟩ = yeI l lp b0 o0_0 b1 o1_0_a o1_0_n o1_0_c x0 R w := by kernel_rfl
end
end Go.Proofs.YtjellhflalbbmaaGreat
namespace Go.Proofs
open Go.Shelf
shelf_lay_g SlLaysZI.n7 Ggz 7 at Tryz 32 as Tryz.keysWL
end Go.Proofs
namespace Go.Proofs.YtjellhflalbbmaaGreat
open Go Go.RowKit Go.Maps Go.Sort Go.Shelf Go.MapKept Go.WideElems Go.WideShapes
set_option linter.unusedVariables false
set_option linter.unusedSimpArgs false
theorem yxO (s : Sl) (w : World) : Calls pP 41 #[.slice s.a s.n s.c] w fun e w' => ∃ b, e = .returned (.func (.func 63) #[] #[.pointer (some ⟨b, 0, none⟩)]) ∧ w.heap.size ≤ b ∧ b < w'.heap.size ∧ w'.heap[b]? = some (.cells #[.slice s.a s.n s.c] 27) ∧ Mod [] w w' := by
 refine (yBW (R := fun v w' => ∃ b, v = .func (.func 63) #[] #[.pointer (some ⟨b, 0, none⟩)] ∧ w.heap.size ≤ b ∧ b < w'.heap.size ∧ w'.heap[b]? = some (.cells #[.slice s.a s.n s.c] 27) ∧ Mod [] w w') ?_).mono (fun e w' ⟨v, he, b, hv, h⟩ => ⟨b, by rw [he, hv], h⟩)
 intro b1 f1 w2 A2 h2
 exact ⟨b1, rfl, f1, A2.lt b1 (by simp), h2, A2.mod⟩
section
attribute [local go_sem] Oper.semAt_some
set_option maxRecDepth 100000 in
set_option maxHeartbeats 2000000 in
theorem ypN {w0 : World} {S : List Nat} {b1 B : Nat} {s : Sl} {l : List Int} (hl : l.length ≤ 1000000) (hw : ∀ W, Mod S w0 W → W.heap[b1]? = some (.cells #[.slice s.a s.n s.c] 27) ∧ yb2 W 1 yiU s.a s.n l) :
  yGa pP 63 #[.pointer (some ⟨b1, 0, none⟩)] (fun x : Int => #[.int .i64 x]) w0 S (fun k x W => l[k]? = some x) l.length B := fun lp J hJm hJw hY W h0 => by
 obtain ⟨sa, sn, sc⟩ := s
 have hro : Fence.wide.round = none := rfl
 refine callsIn_of_wp Tryz.func63 rfl trivial ?_ hro
 simp only [Tryz.ntmps63, List.size_toArray, List.length_cons, List.length_nil, Nat.reduceAdd, Nat.reduceSub, Array.replicate_succ, Array.replicate_zero, List.push_toArray, List.append_toArray, List.nil_append, List.cons_append]
 obtain ⟨hb0, hs0⟩ := hw W (hJw _ _ h0).1
 have hc1 : W.cell? ⟨b1, 0, none⟩ = some (.slice sa sn sc) := by rw [yaU hb0]; rfl
 have hn : sn = l.length := hs0.1
 gi_wp2
 gi_loopg [7] l.length (fun k i wr => ∃ (j : Nat) (pre : List Int), i = .int .i64 j ∧ j ≤ l.length ∧ k = l.length - j ∧ pre.length = j ∧ J pre wr)
 case atStart => exact ⟨0, [], rfl, by omega, rfl, rfl, h0⟩
 case round =>
  obtain ⟨j, pre, rfl, hj, hk, hpl, hJ⟩ := hrel
  obtain ⟨hMw, hBw⟩ := hJw _ _ hJ
  by_cases hlt : j < l.length
  ·obtain ⟨x, hx⟩ : ∃ x, l[j]? = some x := ⟨_, List.getElem?_eq_getElem hlt⟩
   obtain ⟨ad, ha, hcx⟩ := (hw _ hMw).2.2 j x hx
   have hcx : wr.cell? (ad.add j) = some (.int .i64 x) := by have := hcx 0 _ rfl; rwa [add_zero, Nat.mul_one] at this
   obtain ⟨fn, tmps, assign, body, hy, hR⟩ := hY pre x wr hJ (by rw [hpl]; exact hx) (by omega)
   have ha : sa = some ad := ha
   subst ha
   gi_wp2
   refine hR.mono ?_
   rintro e W3 ⟨rfl, hJ3⟩
   gi_wp2
   gi_roundg (gk - 1)
   case rel => exact ⟨j + 1, _, by simp, by omega, by omega, by simp [hpl], hJ3⟩
   case measure => omega
  ·gi_wp2
   go_end0
   exact ⟨⟨_, rfl⟩, pre, by omega, hJ⟩
end
theorem yzZ (mb : Option Nat) (w : World) : Calls pP 32 #[.map mb] w fun e w' =>
  e = .returned (.func (.func 47) #[] #[.pointer (some ⟨w.heap.size, 0, none⟩)]) ∧ w' = w.alloc (.cells #[.map mb] 68) :=
 (callsIn_wide (n := 5)).1 (AnyZI.keys_in Tryz.keysWL Fence.wide 5 trivial rfl mb w)
theorem ysT {β : Type} {ev : β → Value} {w : World} {b Bm : Nat} {L : List (Int × β)} (h : yb5 pP 3 (fun k : Int => .int .i64 k) ev w b L) (hl : L.length ≤ 1000000000) (hB : Bm < w.heap.size) (hm : w.cell? ⟨Bm, 0, none⟩ = some (.map (some b))) :
  Calls pP 31 #[.func (.func 47) #[] #[.pointer (some ⟨Bm, 0, none⟩)]] w fun e w' => ∃ v, e = .returned v ∧
   ∃ (a : Option Addr) (n c : Nat), v = .slice a n c ∧ Row w' w.heap.size 3 1 yiU a n c (yiT (L.map (·.1))) ∧ Mod [] w w' := by
 obtain ⟨D, hown, hperm, hsz⟩ := h.owns Tryz.underlying3 (by unfold maxLen; omega)
 have hseq : SeqGives Fence.wide 2 pP 47 #[.pointer (some ⟨Bm, 0, none⟩)] encZ (fun ss => ss.Perm (intKeys D)) (Maps.size D) w :=
  AnyZI.keys_gives (ρ := Tryz.keysWL_ren) { Tryz.keysWL with } Fence.wide _ trivial rfl (by omega) Bm b _ D w hB hm hown
 have cS := AnyZI.sorted_in Tryz.sortedL Fence.wide 5 trivial trivial trivial trivial rfl (by omega) (yzX _) (enters_of Tryz.func46 (by kernel_rfl) rfl) 47 #[.pointer (some ⟨Bm, 0, none⟩)] trivial (enters_of Tryz.func47 (by kernel_rfl) rfl) _ _ (by rw [hsz]; unfold maxLen; omega) (by rw [hsz]; omega) _ hseq
 refine ((callsIn_wide (n := 5)).1 cS).mono ?_
 rintro e w' ⟨v, ss, rfl, hS, hrow, hnil, hb⟩
 have hss : yiT ss = yiT (L.map (·.1)) := ysQ (hS.trans hperm)
 have hv : ∃ a c, v = .slice a ss.length c := by
  rcases hrow.2 with ⟨h1, h2⟩ | ⟨g, cap, cur, h1, _⟩
  ·exact ⟨none, 0, by rw [h1, h2]⟩
  ·exact ⟨_, _, h1⟩
 obtain ⟨a, c, rfl⟩ := hv
 refine ⟨_, rfl, a, ss.length, c, rfl, ⟨?_, ?_⟩, Mod.of_below hb⟩
 ·rw [← hss, yiT, List.length_mergeSort]
 ·rw [← hss]
  have e : (yiT ss).flatMap yiU = (yiT ss).map encZ := by rw [List.map_eq_flatMap]; rfl
  rw [e]
  exact hrow
theorem ysU {l : List Int} (h : l.Pairwise (· < ·)) : yiT l = l := by
 have tr : ∀ a b c : Int, decide (a ≤ b) = true → decide (b ≤ c) = true → decide (a ≤ c) = true := by simp; omega
 have to : ∀ a b : Int, (decide (a ≤ b) || decide (b ≤ a)) = true := by simp; omega
 have p1 := List.pairwise_mergeSort tr to l
 have p2 : l.Pairwise fun a b => decide (a ≤ b) = true := h.imp fun {a b} hh => by simp; omega
 exact (List.mergeSort_perm l _).eq_of_pairwise (fun x y _ _ h1 h2 => by simp at h1 h2; omega) p1 p2
end Go.Proofs.YtjellhflalbbmaaGreat
namespace Go.Proofs
open Go.Shelf
shelf_lay_g SlLaysW.n5 Slmc 5 at Tryz 43 as Tryz.wclone1
shelf_lay_g SlLaysW.n5 Slmc 5 at Tryz 44 as Tryz.wclone2
end Go.Proofs
namespace Go.Proofs.YtjellhflalbbmaaGreat
open Go Go.RowKit Go.Maps Go.MapKept
open Go.Shelf
set_option linter.unusedVariables false
set_option linter.unusedSimpArgs false
theorem ypO {w : World} {b : Nat} {room : Int} {next bl ba : Nat} {L : PL} {A : List (Int × Int)} (h : WiAt w b room next bl ba L A) :
  Calls pP 10 #[.pointer (some ⟨b, 0, none⟩)] w fun e w' => ∃ v, e = .returned v ∧ ∃ (a : Option Addr) (n c : Nat), v = .slice a n c ∧ Row w' w.heap.size 3 1 yiU a n c (L.map (·.1)) ∧ Mod [] w w' := by
 refine yBV h.cells ?_
 refine (yzZ (some bl) w).mono ?_
 rintro _ w1 ⟨rfl, rfl⟩
 have M1 : Mod [] w (w.alloc (.cells #[.map (some bl)] 68)) := Mod.of_below ((Below.refl _ _).alloc (Nat.le_refl _) _)
 have hc := (MapKept.heap_alloc w (.cells #[.map (some bl)] 68)).1
 refine ⟨_, rfl, yaH.of0 M1, ?_⟩
 have h1 := h.keep0 M1
 have hn := h.nx
 refine (ysT h1.lm (by rw [List.length_map]; have := h.len; omega) (by simp) (by rw [yaU hc]; rfl)).mono ?_
 rintro _ w3 ⟨_, rfl, a, n, c, rfl, hR, M3⟩
 refine ⟨_, _, _, rfl, yaH.of0 M3, fun w7 A7 _ => ⟨a, n, c, rfl, ?_, (M1.go0 M3 (by simp)).go0 A7.mod (by simp)⟩⟩
 have e : (L.map fun p => (p.1, ycN p.2)).map (·.1) = L.map (·.1) := by rw [List.map_map]; rfl
 rw [e, ysU (List.pairwise_map.2 h.rise)] at hR
 exact (hR.keep0 A7.mod).rebase M1.size
def yFv (L : PL) (A : List (Int × Int)) : List Int := (L.filter fun p => !yB1 A p.2.fr p.2.to).map (·.1)
theorem yFl {w : World} {b : Nat} {room : Int} {next bl ba : Nat} {L : PL} {A : List (Int × Int)} (h : WiAt w b room next bl ba L A) : (L.map (·.1)).filter (fun x => decide (twE L A x = 0)) = yFv L A := by
 unfold yFv
 rw [List.filter_map]
 congr 1
 apply List.filter_congr
 intro p hp
 have hl : lkp L p.1 = some p.2 := yi9 h.keys hp
 simp only [Function.comp_apply, twE, hl]
 cases yB1 A p.2.fr p.2.to <;> simp
theorem ylU : ylT 24 (ynR (code Tryz.f18) [0, 1, 0, 1, 1]) = true := by kernel_rfl
section
attribute [local go_sem] Oper.semAt_some
set_option maxRecDepth 100000 in
set_option maxHeartbeats 2000000 in
theorem yz0 {w : World} {b : Nat} {room : Int} {next bl ba : Nat} {L : PL} {A : List (Int × Int)} (h : WiAt w b room next bl ba L A) :
  CallsIn Fence.wide 2 pP 18 #[.pointer (some ⟨b, 0, none⟩)] w fun e w' => ∃ (a : Option Addr) (n c : Nat), e = .returned (.slice a n c) ∧ Row w' w.heap.size 3 1 yiU a n c (yFv L A) ∧ Mod [] w w' := by
 have hro : Fence.wide.round = none := rfl
 refine callsIn_of_wp_marks Tryz.func18 rfl trivial ?_ hro
 simp only [Tryz.ntmps18, List.size_toArray, List.length_cons, List.length_nil, Nat.reduceAdd, Nat.reduceSub, Array.replicate_succ, Array.replicate_zero, List.push_toArray, List.append_toArray, List.nil_append, List.cons_append]
 gi_wp2
 obtain ⟨W0, hW0⟩ : ∃ W0, (w.alloc (Obj.cells #[Value.pointer (some ⟨b, 0, none⟩)] 22)).alloc (Obj.cells #[Value.slice none 0 0] 27) = W0 := ⟨_, rfl⟩
 have hsz : W0.heap.size = w.heap.size + 2 := by rw [← hW0]; simp
 have hM0 : Mod [] w W0 := by rw [← hW0]; exact (Mod.of_below ((Below.refl _ _).alloc (Nat.le_refl _) _)).go0 (Mod.of_below ((Below.refl _ _).alloc (Nat.le_refl _) _)) (by simp)
 have hP0 : W0.heap[w.heap.size]? = some (.cells #[.pointer (some ⟨b, 0, none⟩)] 22) := by
  rw [← hW0]; exact (Below.heap_alloc _ _ _ (by simp)).trans (World.alloc_heap_new w _)
 have hO0 : W0.heap[w.heap.size + 1]? = some (.cells #[.slice none 0 0] 27) := by
  rw [← hW0]; have := World.alloc_heap_new (w.alloc (Obj.cells #[Value.pointer (some ⟨b, 0, none⟩)] 22)) (Obj.cells #[Value.slice none 0 0] 27); rwa [World.size_alloc] at this
 rw [hW0]
 clear hW0
 refine ⟨trivial, (callsIn_wide.2 (ypO (h.keep0 hM0))).mono ?_⟩
 rintro _ w4 ⟨_, rfl, a4, n4, c4, rfl, hR4, M4⟩
 gi_wp2
 refine ⟨trivial, (callsIn_wide.2 (yxO ⟨a4, n4, c4⟩ w4)).mono ?_⟩
 rintro _ w5 ⟨b5, rfl, f5, l5, h5, M5⟩
 gi_wp2
 have s4 := M4.size
 have s5 := M5.size
 have N5 : Mod [] w w5 := (hM0.go0 M4 (by simp)).go0 M5 (by simp)
 have hP5 := M5.keep0 (M4.keep0 hP0)
 have hO5 := M5.keep0 (M4.keep0 hO0)
 have hR5 := hR4.keep0 M5
 have hlen := h.len
 have hnx := h.nx
 have hll : (L.map (·.1)).length = L.length := List.length_map ..
 have k1 : ∀ k ∈ [w.heap.size + 1], w.heap.size ≤ k := by simp
 refine yi7 (S := [w.heap.size + 1]) (N := (L.map (·.1)).length) (encs := fun x : Int => #[.int .i64 x]) (X := fun k x W => (L.map (·.1))[k]? = some x) rfl (enters_of Tryz.func63 (by kernel_rfl) rfl)
  (ypN (s := ⟨a4, n4, c4⟩) (l := L.map (·.1)) (by omega) fun W M => ⟨M.keep h5 (by simp; omega), (Row.keep hR5 M fun ad ha hk => by have := hR5.base ad ha; simp at hk; omega).sl (fun _ => rfl)⟩) (fun _ => rfl) (by simp; omega)
  (fun pre W => ∃ s : Sl, W.heap[w.heap.size + 1]? = some (.cells #[.slice s.a s.n s.c] 27) ∧ Row W (w5.heap.size + 2) 3 1 yiU s.a s.n s.c (pre.filter fun x => decide (twE L A x = 0)) ∧ (∀ (i : Nat) y, pre[i]? = some y → (L.map (·.1))[i]? = some y) ∧ Mod [w.heap.size + 1] w5 W)
  ?im ?ip ?is ⟨ybJ, hO5, Row.nil .., by simp, (Mod.refl _).less (by simp)⟩ ?round ?done
 case im =>
  rintro pre W W' ⟨s, hb, hr, hx, hm⟩ M
  exact ⟨s, M.keep0 hb, hr.keep0 M, hx, (hm.trans M).less (by simp)⟩
 case ip =>
  rintro pre W l o rfl ⟨s, hb, hr, hx, hm⟩
  have M := ygO W (w5.heap.size + 1) (.loop o)
  refine ⟨s, M.keep hb (by simp; omega), hr.keep M fun ad ha hk => ?_, hx, (hm.trans M).less fun i hi hlt => ?_⟩
  ·have := hr.base ad ha; simp at hk; omega
  ·simp at hi ⊢; omega
 case is =>
  rintro pre W ⟨s, hb, hr, hx, hm⟩
  exact hm
 case round =>
  rintro pre x W lp ⟨s, hb, hr, hx, hm⟩ hlen2 hx1 hl hD
  simp only [yF3]
  have hPW : W.heap[w.heap.size]? = some (.cells #[.pointer (some ⟨b, 0, none⟩)] 22) := hm.keep hP5 (by simp)
  refine wpIn_mono (ypM (n := 24) (lp := lp) ylU (ids := [0, 1]) (f := ⟨[(1, .pointer (some ⟨w.heap.size, 0, none⟩), some (0, 0)), (3, .pointer (some ⟨w.heap.size + 1, 0, none⟩), some (1, 0)), (10, .int .i64 x, none)], _⟩) (s := ⟨[⟨w.heap.size, 22, [.pointer (some ⟨b, 0, none⟩)], false⟩, ⟨w.heap.size + 1, 27, [.slice s.a s.n s.c], false⟩], W, [], [], true⟩)
   (R := fun W2 _ W' => W'.heap[w5.heap.size + 1]? = W2.heap[w5.heap.size + 1]? ∧ W'.heap[w5.heap.size]? = W.heap[w5.heap.size]? ∧ ∃ s : Sl, W'.heap[w.heap.size + 1]? = some (.cells #[.slice s.a s.n s.c] 27) ∧ Row W' (w5.heap.size + 2) 3 1 yiU s.a s.n s.c ((pre ++ [x]).filter fun x => decide (twE L A x = 0)) ∧ (∀ (i : Nat) y, (pre ++ [x])[i]? = some y → (L.map (·.1))[i]? = some y) ∧ Mod [w.heap.size + 1] w5 W')
   (Eq.mpr (ydN ..) ?cond) (ysR hPW hb (by omega) rfl) (ysS rfl rfl rfl rfl rfl)) ?post
  case cond =>
   refine ⟨hl, ?_⟩
   intro w2 M2
   have ll := ybW hl
   have s2 := M2.size
   have sW := hm.size
   have NW : Mod [] w W := N5.go0 hm k1
   have N2 : Mod [] w w2 := NW.go0 M2 (by simp; omega)
   have hpm : x ∈ L.map (·.1) := List.mem_of_getElem? hx1
   obtain ⟨q, hq, hqx⟩ := List.mem_map.1 hpm
   have hxr : r64 x := by have := (h.good q hq).2.2; unfold r64; omega
   refine (yeR (h.keep0 N2) hxr).mono ?_
   rintro _ w3 ⟨_, rfl, ⟨s3, f3, p3, rfl, _, _⟩, M3⟩
   have s3 := M3.size
   refine ⟨_, _, _, _, _, _, _, _, _, _, _, _, _, _, _, _, _, _, _, _, _, _, _, _, rfl, yaH.of0 M3, ?_⟩
   intro b27 f27
   have hr3 : Row w3 (w5.heap.size + 2) 3 1 yiU s.a s.n s.c (pre.filter fun x => decide (twE L A x = 0)) := (hr.keep M2 fun ad ha hk => by have := hr.base ad ha; simp at hk; omega).keep0 M3
   have hx' : ∀ (i : Nat) y, (pre ++ [x])[i]? = some y → (L.map (·.1))[i]? = some y := fun i y hy => by
    by_cases hi : i < pre.length
    ·rw [List.getElem?_append_left hi] at hy; exact hx i y hy
    ·rw [List.getElem?_append_right (by omega)] at hy
     have hie : i - pre.length = 0 := by
      have := (List.getElem?_eq_some_iff.1 hy).1; simp at this; omega
     rw [hie] at hy
     simp at hy; subst hy
     rw [show i = pre.length by omega]; exact hx1
   refine yaB (fun g => ?_) fun g => ?_
   ·have g : twE L A x = 0 := by simpa using g
    intro w28 A28
    have s28 := A28.mod.size
    have hr28 := hr3.keep0 A28.mod
    have hrow := yaT hr28
    have hfl : (pre.filter fun x => decide (twE L A x = 0)).length ≤ 1000000 := by
     have := List.length_filter_le (fun x => decide (twE L A x = 0)) pre; omega
    refine yBR (f := s) (y := x) hr28 hfl (by omega) (fun k hk hk' => by have := (yaT hr3 k hk').1; have := (yaT hr3 k hk').2.1; simp at hk; omega) fun a' c' w31 hR31 M31 => ?_
    have s31 := M31.size
    intro w35 A35 _ hb35
    have kk : ∀ k, k ≤ w5.heap.size + 1 → k ≠ w.heap.size + 1 → k < W.heap.size → w35.heap[k]? = w2.heap[k]? := fun k h1 h2 h3 =>
     (A35.mod.block _ (by omega) (by simp; omega)).trans ((M31.block _ (by omega) (fun hh => by have := (hrow _ hh).1; omega)).trans ((A28.mod.block _ (by omega) (by simp)).trans (M3.block _ (by omega) (by simp))))
    refine ⟨kk _ (by omega) (by omega) ll, (kk _ (by omega) (by omega) (by omega)).trans (M2.block _ (by omega) (by simp)), ⟨a', _, c'⟩, hb35, ?_, hx', ?_⟩
    ·rw [List.filter_append, List.filter_cons_of_pos (by simpa using g), List.filter_nil]
     exact hR31.keep A35.mod fun ad ha hk => by have := hR31.base ad ha; simp at hk; omega
    ·refine (((((hm.trans M2).trans M3).trans A28.mod).trans M31).trans A35.mod).less fun i hi hlt => ?_
     have : i ∈ yeL s.a → w5.heap.size + 2 ≤ i := fun hh => (hrow i hh).1
     simp at hi ⊢
     rcases hi with hi | hi | hi | hi
     all_goals first | exact hi | omega | (have := this hi; omega)
   ·have g : ¬ twE L A x = 0 := by simpa using g
    intro w36 A36 _ hb36
    have kk : ∀ k, k < W.heap.size → w36.heap[k]? = w2.heap[k]? := fun k h3 => (A36.mod.block _ (by omega) (by simp)).trans (M3.block _ (by omega) (by simp))
    refine ⟨kk _ ll, (kk _ (by omega)).trans (M2.block _ (by omega) (by simp)), s, hb36, ?_, hx', ?_⟩
    ·rw [List.filter_append, List.filter_cons_of_neg (by simpa using g), List.filter_nil, List.append_nil]
     exact hr3.keep0 A36.mod
    ·refine (((hm.trans M2).trans M3).trans A36.mod).less fun i hi hlt => ?_
     simp at hi ⊢; omega
  case post =>
   intro e a1 W1 hq
   cases e with
   | normal =>
    obtain ⟨q1, q2⟩ := hq
    refine ⟨q1, fun lp' => wpIn_mono (q2 lp') ?_⟩
    rintro e a' W' ⟨rfl, mem, h3, h4, h5⟩
    exact ⟨rfl, by rw [h3]; exact World.putObj_heap_same (ybW q1), h4, h5⟩
   | _ => exact hq.elim
 case done =>
  rintro W xs hxs ⟨s, hb, hr, hx, hm⟩ hK
  have hc : W.cell? ⟨w.heap.size + 1, 0, none⟩ = some (.slice s.a s.n s.c) := by rw [yaU hb]; rfl
  gi_wp2
  refine ⟨by simp, .inl ⟨_, _, rfl, run_takeDeferred hK, ?_⟩⟩
  refine ⟨_, results_tmp rfl _ _ _, s.a, s.n, s.c, rfl, ?_⟩
  have M := ygO W w5.heap.size (.deferred none)
  have exs : xs = L.map (·.1) := by
   apply List.ext_getElem?
   intro i
   by_cases hi : i < xs.length
   ·obtain ⟨y, hy⟩ : ∃ y, xs[i]? = some y := ⟨_, List.getElem?_eq_getElem hi⟩
    rw [hy, hx i y hy]
   ·rw [List.getElem?_eq_none (by omega), List.getElem?_eq_none (by omega)]
  rw [exs, yFl h] at hr
  exact ⟨(hr.keep M fun ad ha hk => by have := hr.base ad ha; simp at hk; omega).rebase (by omega), (N5.go0 hm k1).go0 M (by simp; omega)⟩
end
theorem yxP {w : World} {b : Nat} {room : Int} {next bl ba : Nat} {L : PL} {A : List (Int × Int)} (h : WiAt w b room next bl ba L A) :
 Calls pP 18 #[.pointer (some ⟨b, 0, none⟩)] w fun e w' => ∃ (a : Option Addr) (n c : Nat), e = .returned (.slice a n c) ∧ Row w' w.heap.size 3 1 yiU a n c (yFv L A) ∧ Mod [] w w' := (callsIn_wide (n := 2)).1 (yz0 h)
end Go.Proofs.YtjellhflalbbmaaGreat
namespace Go.Proofs.YtjellhflalbbmaaGreat
open Go Go.RowKit
set_option linter.all false
section
set_option maxRecDepth 100000
variable {R : VWP} {w w0 : World} {m : Nat} {i0 i1 i2 i3 i4 i5 i6 i7 i8 i9 j0 j1 j2 j3 j4 j5 j6 j7 j8 j9 k0 k1 k2 k3 k4 k5 k6 k7 k8 k9 l0 l1 l2 l3 l4 l5 l6 l7 l8 l9 : Int} {s0 s1 s2 s3 s4 s5 s6 s7 s8 s9 t0 t1 t2 t3 t4 t5 t6 t7 t8 t9 : BA} {n0 n1 n2 n3 n4 n5 n6 n7 n8 n9 o0 o1 o2 o3 o4 o5 o6 o7 o8 o9 p0 p1 p2 p3 p4 p5 p6 p7 p8 p9 : Nat} {q0 q1 q2 q3 q4 q5 q6 q7 q8 q9 r0 r1 r2 r3 r4 r5 r6 r7 r8 r9 : OA} {B0 B1 B2 B3 B4 B5 B6 B7 B8 B9 : Bool} {M0 M1 M2 M3 : Option Nat} {V0 V1 V2 V3 V4 V5 : Value} {A0 A1 A2 : Addr}
def ylV : LA := ⟨[0, 0, 1, 0, 1, 1], [0, 1, 5], [], 0, []⟩
def ylW : List LA := [ylV]
abbrev yAV := dnF pP ylW (code Tryz.f28)
abbrev yGb := yaW pP ylW (code Tryz.f28)
abbrev yAW (p : List Nat) (K : List Kh) (R : VWP) := yaW pP ylW (code Tryz.f28) p K (ybI pP Tryz.f28 [] R)
def ygP (a0 : OA) (a4 a2 : Nat) (a1 : OA) (a5 a3 : Nat) : Int → List Value × List TB := fun a6 => ([.slice a0 a4 a2, .slice a1 a5 a3, .int .i64 a6], [])
abbrev yxQ (a0 : OA) (a4 a2 : Nat) (a1 : OA) (a5 a3 : Nat) (I : Nat → Int → World → Prop) (m : Nat) : Kh := KG (ygP a0 a4 a2 a1 a5 a3) (U1 I) m
theorem ysV {I : Nat → Int → World → Prop} (m' : Nat) (h1 : m' < m) (h2 : I m' i0 w) : KS (yxQ q0 n0 n1 q1 n2 n3 I m) (ygP q0 n0 n1 q1 n2 n3 i0) w := ⟨m', h1, _, rfl, rfl, h2⟩
theorem ysW {a2 : OA} {a3 : OA} (I : Nat → Int → World → Prop) (m0 : Nat) (h0 : I m0 i0 w0)
 (hr : ∀ m a0 w, I m a0 w →
 brB (decide (a0 < (n0 : Int))) (
 ixA a2 n0 a0 1 fun q1 =>
 yaD .i64 w q1 fun x2 =>
 ixA a3 n2 a0 1 fun q3 =>
 yaD .i64 w q3 fun x4 =>
 brB (x2 != x4) (
 ∀ w5, Adv [] [] w w5 →
 R (.bool false) w5)
 (
 ∀ w6, Adv [] [] w w6 →
 KS (yxQ a2 n0 n1 a3 n2 n3 I m) (ygP a2 n0 n1 a3 n2 n3 (IntKind.wrap .i64 (a0 + 1))) w6))
 (
 R (.bool true) w)) :
 yaL ylV (yAV 396 [0, 0, 1, 0, 1, 1]) (yAW [1, 1, 0, 1, 0] [] R) (ygP a2 n0 n1 a3 n2 n3 i0) w0 :=
 lrule (ygP a2 n0 n1 a3 n2 n3) (U1 I) h0 (by rintro m a0 w h; exact ⟨by kernel_rfl, by kernel_rfl, fun js => Eq.mpr (by kernel_rfl) (hr m a0 w h)⟩)
theorem yB3 (h :
 brB ((n0 : Int) != (n2 : Int)) (
 R (.bool false) w)
 (
 yaL ylV (yAV 396 [0, 0, 1, 0, 1, 1]) (yAW [1, 1, 0, 1, 0] [] R) (ygP q0 n0 n1 q1 n2 n3 0) w)) :
 CR pP 28 #[.slice q0 n0 n1, .slice q1 n2 n3] w R :=
 yaA Tryz.wide_mixed (an := ylW) Tryz.func28 rfl rfl (by kernel_rfl) rfl (Eq.mpr (by kernel_rfl) h)
end
section
set_option maxRecDepth 100000
variable {R : VWP} {w w0 : World} {m : Nat} {i0 i1 i2 i3 i4 i5 i6 i7 i8 i9 j0 j1 j2 j3 j4 j5 j6 j7 j8 j9 k0 k1 k2 k3 k4 k5 k6 k7 k8 k9 l0 l1 l2 l3 l4 l5 l6 l7 l8 l9 : Int} {s0 s1 s2 s3 s4 s5 s6 s7 s8 s9 t0 t1 t2 t3 t4 t5 t6 t7 t8 t9 : BA} {n0 n1 n2 n3 n4 n5 n6 n7 n8 n9 o0 o1 o2 o3 o4 o5 o6 o7 o8 o9 p0 p1 p2 p3 p4 p5 p6 p7 p8 p9 : Nat} {q0 q1 q2 q3 q4 q5 q6 q7 q8 q9 r0 r1 r2 r3 r4 r5 r6 r7 r8 r9 : OA} {B0 B1 B2 B3 B4 B5 B6 B7 B8 B9 : Bool} {M0 M1 M2 M3 : Option Nat} {V0 V1 V2 V3 V4 V5 : Value} {A0 A1 A2 : Addr}
theorem yB4 (h :
 Calls pP 8 #[.int .i64 2] w fun e w1 => ∃ p2 x3, e = .returned (.tuple #[.pointer p2, .int .i64 x3]) ∧
 brB (Option.isNone p2) (
 R (.bool false) w1)
 (
 brB (x3 != 0) (
 R (.bool false) w1)
 (
 ∀ b4, w1.heap.size ≤ b4 →
 ∀ w5, Adv [] [b4] w1 w5 →
 Calls pP 12 #[.pointer p2, (.agg (Z0 4 1 2 0 0 0 5 0 0 0 none 0 0 0 0 0 0 none 0 0 none 0 0))] w5 fun e w6 => ∃ x7 x8, e = .returned (.tuple #[.int .i64 x7, .int .i64 x8]) ∧ yaH [b4] w5 w6 ∧
 Calls pP 12 #[.pointer p2, (.agg (Z0 0 2 3 0 0 0 0 0 0 0 none 0 0 0 0 0 0 none 0 0 none 0 0))] w6 fun e w9 => ∃ g5 g6, e = .returned (.tuple #[.int .i64 g5, .int .i64 g6]) ∧ yaH [b4] w6 w9 ∧
 Calls pP 12 #[.pointer p2, (.agg (Z0 4 1 2 0 0 0 5 0 0 0 none 0 0 0 0 0 0 none 0 0 none 0 0))] w9 fun e c3 => ∃ ac g7, e = .returned (.tuple #[.int .i64 ac, .int .i64 g7]) ∧ yaH [b4] w9 c3 ∧
 Calls pP 13 #[.pointer p2, .int .i64 1] c3 fun e c5 => ∃ g8 g9 h0 h1 h2 h3 h4 h5 h6 h7 e4 f7 f1 h8 h9 u0 u1 e5 f8 f2 e6 f9 f3 u2, e = .returned (.tuple #[(.agg (Z0 g8 g9 h0 h1 h2 h3 h4 h5 h6 h7 e4 f7 f1 h8 h9 u0 u1 e5 f8 f2 e6 f9 f3)), .int .i64 u2]) ∧ yaH [b4] c3 c5 ∧
 ∀ a0, c5.heap.size ≤ a0 →
 ∀ c9, Adv [] [a0] c5 c9 →
 Calls pP 16 #[.pointer p2, .int .i64 2, .int .i64 1, .bool true] c9 fun e d0 => e = .returned (.tuple #[]) ∧ yaH [b4, a0] c9 d0 ∧
 Calls pP 15 #[.pointer p2, .int .i64 1] d0 fun e d1 => ∃ ad ae af ag ah ai aj ak am ao z3 z9 z6 ap aq ar au z4 aa z7 z5 ab z8 u3, e = .returned (.tuple #[(.agg (Z0 ad ae af ag ah ai aj ak am ao z3 z9 z6 ap aq ar au z4 aa z7 z5 ab z8)), .int .i64 u3]) ∧ yaH [b4, a0] d0 d1 ∧
 ∀ a2, d1.heap.size ≤ a2 →
 ∀ d2, Adv [] [a2] d1 d2 →
 Calls pP 18 #[.pointer p2] d2 fun e d3 => ∃ e7 g0 f4, e = .returned (.slice e7 g0 f4) ∧ yaH [b4, a0, a2] d2 d3 ∧
 Calls pP 17 (Z10 p2 1 2) d3 fun e d4 => ∃ g4, e = .returned (.bool g4) ∧ yaH [b4, a0, a2] d3 d4 ∧
 Calls pP 16 #[.pointer p2, .int .i64 1, .int .i64 2, .bool false] d4 fun e d5 => e = .returned (.tuple #[]) ∧ yaH [b4, a0, a2] d4 d5 ∧
 Calls pP 15 #[.pointer p2, .int .i64 1] d5 fun e d6 => ∃ u4 u5 u6 u7 u9 v0 v1 v2 v3 v4 e8 g1 f5 v5 v6 v7 v8 e9 g2 f6 f0 g3 b6 d7, e = .returned (.tuple #[(.agg (Z0 u4 u5 u6 u7 u9 v0 v1 v2 v3 v4 e8 g1 f5 v5 v6 v7 v8 e9 g2 f6 f0 g3 b6)), .int .i64 d7]) ∧ yaH [b4, a0, a2] d5 d6 ∧
 ∀ a1, d6.heap.size ≤ a1 →
 ∀ a8, Adv [] [a1] d6 a8 →
 Calls pP 15 #[.pointer p2, .int .i64 1] a8 fun e a9 => ∃ x6 x9 y0 y1 y2 y3 y4 y5 y6 y7 v9 x1 w7 y8 y9 z0 z1 w0 x2 w8 w2 x4 x0 d8, e = .returned (.tuple #[(.agg (Z0 x6 x9 y0 y1 y2 y3 y4 y5 y6 y7 v9 x1 w7 y8 y9 z0 z1 w0 x2 w8 w2 x4 x0)), .int .i64 d8]) ∧ yaH [b4, a0, a2, a1] a8 a9 ∧
 ∀ a3, a9.heap.size ≤ a3 →
 ∀ b0, Adv [] [a3] a9 b0 →
 Calls pP 19 #[.pointer p2, .int .i64 2] b0 fun e b1 => ∃ d9, e = .returned (.int .i64 d9) ∧ yaH [b4, a0, a2, a1, a3] b0 b1 ∧
 Calls pP 12 #[.pointer p2, (.agg (Z0 4 1 2 0 0 0 5 0 0 0 none 0 0 0 0 0 0 none 0 0 none 0 0))] b1 fun e b2 => ∃ e0 e1, e = .returned (.tuple #[.int .i64 e0, .int .i64 e1]) ∧ yaH [b4, a0, a2, a1, a3] b1 b2 ∧
 Calls pP 12 #[.pointer p2, (.agg (Z0 (-1) 0 0 0 0 0 0 0 0 0 none 0 0 0 0 0 0 none 0 0 none 0 0))] b2 fun e b3 => ∃ z2 e2, e = .returned (.tuple #[.int .i64 z2, .int .i64 e2]) ∧ yaH [b4, a0, a2, a1, a3] b2 b3 ∧
 Calls pP 8 #[.int .i64 0] b3 fun e a5 => ∃ x5 e3, e = .returned (.tuple #[.pointer x5, .int .i64 e3]) ∧ yaH [b4, a0, a2, a1, a3] b3 a5 ∧
 brB (x7 == 1) (
 brB (x8 == 0) (
 brB (g5 == 2) (
 brB (g6 == 0) (
 brB (g7 == 2) (
 Calls pP 14 #[(.agg (Z0 g8 g9 h0 h1 h2 h3 h4 h5 h6 h7 e4 f7 f1 h8 h9 u0 u1 e5 f8 f2 e6 f9 f3)), (.agg (Z0 4 1 2 0 0 0 5 0 0 0 none 0 0 0 0 0 0 none 0 0 none 0 0))] a5 fun e a6 => ∃ b9, e = .returned (.bool b9) ∧ yaH [b4, a0, a2, a1, a3] a5 a6 ∧
 brB b9 (
 brB (u2 == 0) (
 brB (u3 == 211) (
 al a6 (.cells #[.int .i64 2] 3) fun w3 c4 =>
 Calls pP 28 #[.slice e7 g0 f4, (.slice (some ⟨w3, 0, none⟩) 1 1)] c4 fun e a7 => ∃ c0, e = .returned (.bool c0) ∧ yaH [b4, a0, a2, a1, a3] c4 a7 ∧
 brB c0 (
 brB g4 (
 Calls pP 14 #[(.agg (Z0 u4 u5 u6 u7 u9 v0 v1 v2 v3 v4 e8 g1 f5 v5 v6 v7 v8 e9 g2 f6 f0 g3 b6)), (.agg (Z0 4 1 2 0 0 0 5 0 0 0 none 0 0 0 0 0 0 none 0 0 none 0 0))] a7 fun e a4 => ∃ c1, e = .returned (.bool c1) ∧ yaH [b4, a0, a2, a1, a3] a7 a4 ∧
 brB c1 (
 brB (d7 == 0) (
 brB (d8 == 210) (
 brB (d9 == 0) (
 brB (e0 == 3) (
 brB (e1 == 0) (
 brB (e2 == 180) (
 brB (e3 == 1) (
 Calls pP 10 #[.pointer p2] a4 fun e c6 => ∃ b5 b8 b7, e = .returned (.slice b5 b8 b7) ∧ yaH [b4, a0, a2, a1, a3] a4 c6 ∧
 al c6 (.cells #[.int .i64 3] 3) fun w4 c7 =>
 Calls pP 28 #[.slice b5 b8 b7, (.slice (some ⟨w4, 0, none⟩) 1 1)] c7 fun e c8 => ∃ c2, e = .returned (.bool c2) ∧ yaH [b4, a0, a2, a1, a3] c7 c8 ∧
 R (.bool c2) c8)
 (
 R (.bool false) a4))
 (
 R (.bool false) a4))
 (
 R (.bool false) a4))
 (
 R (.bool false) a4))
 (
 R (.bool false) a4))
 (
 R (.bool false) a4))
 (
 R (.bool false) a4))
 (
 R (.bool false) a4))
 (
 R (.bool false) a7))
 (
 R (.bool false) a7))
 (
 R (.bool false) a6))
 (
 R (.bool false) a6))
 (
 R (.bool false) a6))
 (
 R (.bool false) a5))
 (
 R (.bool false) a5))
 (
 R (.bool false) a5))
 (
 R (.bool false) a5))
 (
 R (.bool false) a5)))) :
 CR pP 9 #[] w R :=
 yaA Tryz.wide_mixed (an := []) Tryz.func9 rfl rfl (by kernel_rfl) rfl (Eq.mpr (by kernel_rfl) h)
def ylX : LA := ⟨[0, 0, 1, 0, 1, 1, 1, 1], [0, 1, 5, 7, 8], [], 0, []⟩
def ylY : LA := ⟨[0, 0, 1, 1, 1, 1, 1, 1, 1, 0, 0, 1, 0, 0, 1, 0, 1, 1, 1, 1], [0, 1, 5, 7, 8, 9, 13], [(9, 0, 0)], 2, []⟩
def yf8 : LA := ⟨[0, 0, 1, 0, 1, 1, 1, 1, 1], [1, 5, 7, 14], [], 0, []⟩
def ylZ : LA := ⟨[0, 0, 1, 0, 0, 0, 1, 0, 0, 1, 0, 1, 1, 1, 1, 1], [1, 5, 7, 14, 15], [], 0, []⟩
def yl0 : LA := ⟨[0, 0, 1, 1, 1, 0, 0, 1, 0, 0, 1, 0, 0, 0, 1, 0, 0, 1, 0, 1, 1, 1, 1, 1], [1, 5, 7, 14, 15, 16, 18], [(16, 0, 0)], 1, []⟩
def yl1 : List LA := [ylX, ylY, yf8, ylZ, yl0]
abbrev yeD := dnF pP yl1 (code Tryz.f4)
abbrev yFm := yaW pP yl1 (code Tryz.f4)
abbrev yeT (p : List Nat) (K : List Kh) (R : VWP) := yaW pP yl1 (code Tryz.f4) p K (ybI pP Tryz.f4 [] R)
def yfM (a0 : OA) (a4 a2 : Nat) (a7 : Int) (a6 : OA) : (Option Addr) × Nat × Nat × Int → List Value × List TB := fun (a1, a5, a3, a8) => ([.slice a0 a4 a2, .int .i64 a7, .pointer a6, .slice a1 a5 a3, .int .i64 a8], [])
def ygQ (e7 : OA) (f1 e9 : Nat) (f4 : Int) (f3 e8 : OA) (f2 f0 : Nat) (f5 : Int) (bm0 : Nat) (c6 c7 c8 c9 d0 d1 d2 d3 d4 d5 : Int) (a0 : OA) (b2 a6 : Nat) (b8 b9 c0 c1 : Int) (a1 : OA) (b3 a7 : Nat) (a2 : OA) (b4 a8 bm1 : Nat) (d6 d7 d8 d9 e0 e1 e2 e3 e4 e5 : Int) (a3 : OA) (b5 a9 : Nat) (c2 c3 c4 c5 : Int) (a4 : OA) (b6 b0 : Nat) (a5 : OA) (b7 b1 : Nat) : Int → List Value × List TB := fun e6 => ([.slice e7 f1 e9, .int .i64 f4, .pointer f3, .slice e8 f2 f0, .int .i64 f5, (.pointer (some ⟨bm0, 0, none⟩)), .int .i64 e6], [⟨bm0, 37, [.int .i64 c6, .int .i64 c7, .int .i64 c8, .int .i64 c9, .int .i64 d0, .int .i64 d1, .int .i64 d2, .int .i64 d3, .int .i64 d4, .int .i64 d5, .slice a0 b2 a6, .int .i64 b8, .int .i64 b9, .int .i64 c0, .int .i64 c1, .slice a1 b3 a7, .slice a2 b4 a8], false⟩, ⟨bm1, 37, [.int .i64 d6, .int .i64 d7, .int .i64 d8, .int .i64 d9, .int .i64 e0, .int .i64 e1, .int .i64 e2, .int .i64 e3, .int .i64 e4, .int .i64 e5, .slice a3 b5 a9, .int .i64 c2, .int .i64 c3, .int .i64 c4, .int .i64 c5, .slice a4 b6 b0, .slice a5 b7 b1], false⟩])
def yeU (a5 : Int) (a4 a1 : OA) (a3 a2 : Nat) : Int → List Value × List TB := fun a0 => ([.int .i64 a5, .pointer a4, .slice a1 a3 a2, .int .i64 a0], [])
def ygR (a6 : Int) (a5 a2 : OA) (a4 a3 : Nat) (a0 : Int) : Int → List Value × List TB := fun a1 => ([.int .i64 a6, .pointer a5, .slice a2 a4 a3, .int .i64 a0, .int .i64 a1], [])
def ygS (d0 : Int) (c9 c6 : OA) (c8 c7 : Nat) (c3 c4 : Int) (bm0 : Nat) (b3 b4 b5 b6 b7 b8 b9 c0 c1 c2 : Int) (a0 : OA) (a6 a3 : Nat) (a9 b0 b1 b2 : Int) (a1 : OA) (a7 a4 : Nat) (a2 : OA) (a8 a5 : Nat) : Int → List Value × List TB := fun c5 => ([.int .i64 d0, .pointer c9, .slice c6 c8 c7, .int .i64 c3, .int .i64 c4, (.pointer (some ⟨bm0, 0, none⟩)), .int .i64 c5], [⟨bm0, 37, [.int .i64 b3, .int .i64 b4, .int .i64 b5, .int .i64 b6, .int .i64 b7, .int .i64 b8, .int .i64 b9, .int .i64 c0, .int .i64 c1, .int .i64 c2, .slice a0 a6 a3, .int .i64 a9, .int .i64 b0, .int .i64 b1, .int .i64 b2, .slice a1 a7 a4, .slice a2 a8 a5], false⟩])
abbrev ypP (a0 : OA) (a2 a1 : Nat) (a4 : Int) (a3 : OA) (I : Nat → Option Addr → Nat → Nat → Int → World → Prop) (m : Nat) : Kh := KG (yfM a0 a2 a1 a4 a3) (U4 I) m
theorem ykP {I : Nat → Option Addr → Nat → Nat → Int → World → Prop} (m' : Nat) (h1 : m' < m) (h2 : I m' q2 n2 n3 i1 w) : KS (ypP q0 n0 n1 i0 q1 I m) (yfM q0 n0 n1 i0 q1 (q2, n2, n3, i1)) w := ⟨m', h1, _, rfl, rfl, h2⟩
theorem ysX {a5 : OA} {a3 c5 : OA} (I : Nat → Option Addr → Nat → Nat → Int → World → Prop) (m0 : Nat) (h0 : I m0 c5 n2 n3 i1 w0)
 (hr : ∀ m a7 b0 a9 a4 w, I m a7 b0 a9 a4 w →
 brB (decide (a4 < (n0 : Int))) (
 brB (decide (a4 < 20)) (
 ixA a5 n0 a4 17 fun q6 =>
 yaD .i64 w q6 fun x7 => yaD .i64 w (Addr.add q6 1) fun x8 => yaD .i64 w (Addr.add q6 2) fun x9 => yaD .i64 w (Addr.add q6 3) fun v6 => yaD .i64 w (Addr.add q6 4) fun v7 => yaD .i64 w (Addr.add q6 5) fun v8 => yaD .i64 w (Addr.add q6 6) fun v9 => yaD .i64 w (Addr.add q6 7) fun w1 => yaD .i64 w (Addr.add q6 8) fun w2 => yaD .i64 w (Addr.add q6 9) fun w3 => yaN w (Addr.add q6 10) fun h7 v0 u3 => yaD .i64 w (Addr.add q6 11) fun w4 => yaD .i64 w (Addr.add q6 12) fun w5 => yaD .i64 w (Addr.add q6 13) fun w6 => yaD .i64 w (Addr.add q6 14) fun w7 => yaN w (Addr.add q6 15) fun h8 v1 u4 => yaN w (Addr.add q6 16) fun h9 v2 u5 =>
 Calls pP 11 #[(.agg (Z0 x7 x8 x9 v6 v7 v8 v9 w1 w2 w3 h7 v0 u3 w4 w5 w6 w7 h8 v1 u4 h9 v2 u5))] w fun e h3 => ∃ e2 e3 e4 e5 e6 e7 e8 e9 f0 f1 c0 d2 c6 f2 f3 f5 f6 c1 d3 c7 c2 d4 c8, e = .returned (.agg (Z0 e2 e3 e4 e5 e6 e7 e8 e9 f0 f1 c0 d2 c6 f2 f3 f5 f6 c1 d3 c7 c2 d4 c8)) ∧
 ∀ b1, h3.heap.size ≤ b1 →
 ixA a5 n0 a4 17 fun a1 =>
 ∀ a0, Adv [] [b1] h3 a0 →
 yaD .i64 a0 a1 fun w8 => yaD .i64 a0 (Addr.add a1 1) fun w9 => yaD .i64 a0 (Addr.add a1 2) fun x0 => yaD .i64 a0 (Addr.add a1 3) fun x1 => yaD .i64 a0 (Addr.add a1 4) fun x2 => yaD .i64 a0 (Addr.add a1 5) fun x3 => yaD .i64 a0 (Addr.add a1 6) fun x4 => yaD .i64 a0 (Addr.add a1 7) fun x5 => yaD .i64 a0 (Addr.add a1 8) fun x6 => yaD .i64 a0 (Addr.add a1 9) fun y0 => yaN a0 (Addr.add a1 10) fun u0 v3 u6 => yaD .i64 a0 (Addr.add a1 11) fun y1 => yaD .i64 a0 (Addr.add a1 12) fun y2 => yaD .i64 a0 (Addr.add a1 13) fun y3 => yaD .i64 a0 (Addr.add a1 14) fun y4 => yaN a0 (Addr.add a1 15) fun u1 v4 u7 => yaN a0 (Addr.add a1 16) fun u2 v5 u9 =>
 Calls pP 11 #[(.agg (Z0 w8 w9 x0 x1 x2 x3 x4 x5 x6 y0 u0 v3 u6 y1 y2 y3 y4 u1 v4 u7 u2 v5 u9))] a0 fun e d9 => ∃ f7 f8 f9 g0 g1 g2 g3 g4 g5 g6 c3 d5 c9 g7 g8 g9 h1 c4 d6 b4 b3 b6 b5, e = .returned (.agg (Z0 f7 f8 f9 g0 g1 g2 g3 g4 g5 g6 c3 d5 c9 g7 g8 g9 h1 c4 d6 b4 b3 b6 b5)) ∧ yaH [b1] a0 d9 ∧
 ∀ a8, d9.heap.size ≤ a8 →
 ∀ b7, Adv [] [a8] d9 b7 →
 Calls pP 12 #[.pointer a3, (.agg (Z0 e2 e3 e4 e5 e6 e7 e8 e9 f0 f1 c0 d2 c6 f2 f3 f5 f6 c1 d3 c7 c2 d4 c8))] b7 fun e b8 => ∃ e0 e1, e = .returned (.tuple #[.int .i64 e0, .int .i64 e1]) ∧ yaH [b1, a8] b7 b8 ∧
 brB (e1 != 0) (
 KS (ypP a5 n0 n1 i0 a3 I m) (yfM a5 n0 n1 i0 a3 (a7, b0, a9, (IntKind.wrap .i64 (a4 + 1)))) b8)
 (
 al b8 (.cells (Z0 f7 f8 f9 g0 g1 g2 g3 g4 g5 g6 c3 d5 c9 g7 g8 g9 h1 c4 d6 b4 b3 b6 b5) 37) fun h5 d8 =>
 ycZ pP (Builtin.append_ #[30, 30] 30 #[.slice a7 b0 a9, (.slice (some ⟨h5, 0, none⟩) 1 1)]) d8 fun h4 d1 h6 b9 => yaH [b1, a8] d8 b9 ∧
 brB (e0 != (d1 : Int)) (
 R (.bool false) b9)
 (
 yaL ylY (yeD 385 [0, 0, 1, 1, 1, 1, 1, 1, 1, 0, 0, 1, 0, 0, 1, 0, 1, 1, 1, 1]) (yeT [1, 1, 1, 1, 0, 1, 0, 0, 1, 0, 0, 1, 1, 1, 1, 1, 1, 1, 0] [(ypP a5 n0 n1 i0 a3 I m)] R) (ygQ a5 n0 n1 i0 a3 h4 d1 h6 a4 b1 e2 e3 e4 e5 e6 e7 e8 e9 f0 f1 c0 d2 c6 f2 f3 f5 f6 c1 d3 c7 c2 d4 c8 a8 f7 f8 f9 g0 g1 g2 g3 g4 g5 g6 c3 d5 c9 g7 g8 g9 h1 c4 d6 b4 b3 b6 b5 0) b9)))
 (
 yaL yf8 (yeD 393 [0, 0, 1, 0, 1, 1, 1, 1, 1]) (yeT [1, 1, 1, 1, 1, 0, 1, 0] [] R) (yeU i0 a3 a7 b0 a9 0) w))
 (
 yaL yf8 (yeD 393 [0, 0, 1, 0, 1, 1, 1, 1, 1]) (yeT [1, 1, 1, 1, 1, 0, 1, 0] [] R) (yeU i0 a3 a7 b0 a9 0) w)) :
 yaL ylX (yeD 394 [0, 0, 1, 0, 1, 1, 1, 1]) (yeT [1, 1, 1, 1, 0, 1, 0] [] R) (yfM a5 n0 n1 i0 a3 (c5, n2, n3, i1)) w0 :=
 lrule (yfM a5 n0 n1 i0 a3) (U4 I) h0 (by rintro m ⟨a7, b0, a9, a4⟩ w h; exact ⟨by kernel_rfl, by kernel_rfl, fun js => Eq.mpr (by kernel_rfl) (hr m a7 b0 a9 a4 w h)⟩)
abbrev yxR (e6 : OA) (f0 e8 : Nat) (f3 : Int) (f2 e7 : OA) (f1 e9 : Nat) (f4 : Int) (bm0 : Nat) (c6 c7 c8 c9 d0 d1 d2 d3 d4 d5 : Int) (a0 : OA) (b2 a6 : Nat) (b8 b9 c0 c1 : Int) (a1 : OA) (b3 a7 : Nat) (a2 : OA) (b4 a8 bm1 : Nat) (d6 d7 d8 d9 e0 e1 e2 e3 e4 e5 : Int) (a3 : OA) (b5 a9 : Nat) (c2 c3 c4 c5 : Int) (a4 : OA) (b6 b0 : Nat) (a5 : OA) (b7 b1 : Nat) (I : Nat → Int → World → Prop) (m : Nat) : Kh := KG (ygQ e6 f0 e8 f3 f2 e7 f1 e9 f4 bm0 c6 c7 c8 c9 d0 d1 d2 d3 d4 d5 a0 b2 a6 b8 b9 c0 c1 a1 b3 a7 a2 b4 a8 bm1 d6 d7 d8 d9 e0 e1 e2 e3 e4 e5 a3 b5 a9 c2 c3 c4 c5 a4 b6 b0 a5 b7 b1) (U1 I) m
theorem ysY {I : Nat → Int → World → Prop} (m' : Nat) (h1 : m' < m) (h2 : I m' l0 w) : KS (yxR q0 n0 n1 i0 q1 q2 n2 n3 i1 n4 i2 i3 i4 i5 i6 i7 i8 i9 j0 j1 q3 n5 n6 j2 j3 j4 j5 q4 n7 n8 q5 n9 o0 o1 j6 j7 j8 j9 k0 k1 k2 k3 k4 k5 q6 o2 o3 k6 k7 k8 k9 q7 o4 o5 q8 o6 o7 I m) (ygQ q0 n0 n1 i0 q1 q2 n2 n3 i1 n4 i2 i3 i4 i5 i6 i7 i8 i9 j0 j1 q3 n5 n6 j2 j3 j4 j5 q4 n7 n8 q5 n9 o0 o1 j6 j7 j8 j9 k0 k1 k2 k3 k4 k5 q6 o2 o3 k6 k7 k8 k9 q7 o4 o5 q8 o6 o7 l0) w := ⟨m', h1, _, rfl, rfl, h2⟩
theorem ysZ {K1 : Kh} (I : Nat → Int → World → Prop) (m0 : Nat) (h0 : I m0 l0 w0)
 (hr : ∀ m e6 w, I m e6 w →
 brB (decide (e6 < (n5 : Int))) (
 ixA q3 n5 e6 16 fun f9 =>
 st w (Addr.add f9 1) [.int .i64 99] fun f8 => yaH [n4, o1] w f8 ∧
 KS (yxR q0 n0 n1 i0 q1 q2 n2 n3 i1 n4 i2 i3 i4 i5 i6 i7 i8 i9 j0 j1 q3 n5 n6 j2 j3 j4 j5 q4 n7 n8 q5 n9 o0 o1 j6 j7 j8 j9 k0 k1 k2 k3 k4 k5 q6 o2 o3 k6 k7 k8 k9 q7 o4 o5 q8 o6 o7 I m) (ygQ q0 n0 n1 i0 q1 q2 n2 n3 i1 n4 i2 i3 i4 i5 i6 i7 i8 i9 j0 j1 q3 n5 n6 j2 j3 j4 j5 q4 n7 n8 q5 n9 o0 o1 j6 j7 j8 j9 k0 k1 k2 k3 k4 k5 q6 o2 o3 k6 k7 k8 k9 q7 o4 o5 q8 o6 o7 (IntKind.wrap .i64 (e6 + 1))) f8)
 (
 KS K1 (yfM q0 n0 n1 i0 q1 (q2, n2, n3, (IntKind.wrap .i64 (i1 + 1)))) w)) :
 yaL ylY (yeD 385 [0, 0, 1, 1, 1, 1, 1, 1, 1, 0, 0, 1, 0, 0, 1, 0, 1, 1, 1, 1]) (yeT [1, 1, 1, 1, 0, 1, 0, 0, 1, 0, 0, 1, 1, 1, 1, 1, 1, 1, 0] [K1] R) (ygQ q0 n0 n1 i0 q1 q2 n2 n3 i1 n4 i2 i3 i4 i5 i6 i7 i8 i9 j0 j1 q3 n5 n6 j2 j3 j4 j5 q4 n7 n8 q5 n9 o0 o1 j6 j7 j8 j9 k0 k1 k2 k3 k4 k5 q6 o2 o3 k6 k7 k8 k9 q7 o4 o5 q8 o6 o7 l0) w0 :=
 lrule (ygQ q0 n0 n1 i0 q1 q2 n2 n3 i1 n4 i2 i3 i4 i5 i6 i7 i8 i9 j0 j1 q3 n5 n6 j2 j3 j4 j5 q4 n7 n8 q5 n9 o0 o1 j6 j7 j8 j9 k0 k1 k2 k3 k4 k5 q6 o2 o3 k6 k7 k8 k9 q7 o4 o5 q8 o6 o7) (U1 I) h0 (by rintro m e6 w h; exact ⟨by kernel_rfl, by kernel_rfl, fun js => Eq.mpr (by kernel_rfl) (hr m e6 w h)⟩)
abbrev yxS (a4 : Int) (a3 a0 : OA) (a2 a1 : Nat) (I : Nat → Int → World → Prop) (m : Nat) : Kh := KG (yeU a4 a3 a0 a2 a1) (U1 I) m
theorem ys0 {I : Nat → Int → World → Prop} (m' : Nat) (h1 : m' < m) (h2 : I m' i1 w) : KS (yxS i0 q0 q1 n0 n1 I m) (yeU i0 q0 q1 n0 n1 i1) w := ⟨m', h1, _, rfl, rfl, h2⟩
theorem ys1 (I : Nat → Int → World → Prop) (m0 : Nat) (h0 : I m0 i1 w0)
 (hr : ∀ m a0 w, I m a0 w →
 brB (decide (a0 < (n0 : Int))) (
 yaL ylZ (yeD 390 [0, 0, 1, 0, 0, 0, 1, 0, 0, 1, 0, 1, 1, 1, 1, 1]) (yeT [1, 1, 1, 1, 1, 0, 1, 0, 0, 1, 0, 0, 0, 1, 0] [(yxS i0 q0 q1 n0 n1 I m)] R) (ygR i0 q0 q1 n0 n1 a0 0) w)
 (
 Calls pP 10 #[.pointer q0] w fun e a9 => ∃ b0 a7 b1, e = .returned (.slice b0 a7 b1) ∧
 brB ((a7 : Int) == 0) (
 Calls pP 9 #[] a9 fun e b2 => ∃ a8, e = .returned (.bool a8) ∧
 R (.bool a8) b2)
 (
 R (.bool false) a9))) :
 yaL yf8 (yeD 393 [0, 0, 1, 0, 1, 1, 1, 1, 1]) (yeT [1, 1, 1, 1, 1, 0, 1, 0] [] R) (yeU i0 q0 q1 n0 n1 i1) w0 :=
 lrule (yeU i0 q0 q1 n0 n1) (U1 I) h0 (by rintro m a0 w h; exact ⟨by kernel_rfl, by kernel_rfl, fun js => Eq.mpr (by kernel_rfl) (hr m a0 w h)⟩)
abbrev yxT (a5 : Int) (a4 a1 : OA) (a3 a2 : Nat) (a0 : Int) (I : Nat → Int → World → Prop) (m : Nat) : Kh := KG (ygR a5 a4 a1 a3 a2 a0) (U1 I) m
theorem ys2 {I : Nat → Int → World → Prop} (m' : Nat) (h1 : m' < m) (h2 : I m' i2 w) : KS (yxT i0 q0 q1 n0 n1 i1 I m) (ygR i0 q0 q1 n0 n1 i1 i2) w := ⟨m', h1, _, rfl, rfl, h2⟩
theorem ys3 {K3 : Kh} (I : Nat → Int → World → Prop) (m0 : Nat) (h0 : I m0 i2 w0)
 (hr : ∀ m a9 w, I m a9 w →
 brB (decide (a9 ≤ (yiV .i64 i0 3))) (
 Calls pP 13 #[.pointer q0, (.int .i64 (IntKind.wrap .i64 (i1 + 1)))] w fun e c5 => ∃ c8 c9 d0 d1 d2 d3 d4 d5 d6 d7 b6 c2 b9 d8 d9 e0 e1 b7 c3 c0 b8 c4 c1 f8, e = .returned (.tuple #[(.agg (Z0 c8 c9 d0 d1 d2 d3 d4 d5 d6 d7 b6 c2 b9 d8 d9 e0 e1 b7 c3 c0 b8 c4 c1)), .int .i64 f8]) ∧
 ∀ a7, c5.heap.size ≤ a7 →
 brB (f8 != 0) (
 ∀ f5, Adv [] [a7] c5 f5 →
 R (.bool false) f5)
 (
 ixA q1 n0 i1 17 fun a2 =>
 ∀ a0, Adv [] [a7] c5 a0 →
 yaD .i64 a0 a2 fun w5 => yaD .i64 a0 (Addr.add a2 1) fun w6 => yaD .i64 a0 (Addr.add a2 2) fun w7 => yaD .i64 a0 (Addr.add a2 3) fun w8 => yaD .i64 a0 (Addr.add a2 4) fun w9 => yaD .i64 a0 (Addr.add a2 5) fun x0 => yaD .i64 a0 (Addr.add a2 6) fun x1 => yaD .i64 a0 (Addr.add a2 7) fun x2 => yaD .i64 a0 (Addr.add a2 8) fun x3 => yaD .i64 a0 (Addr.add a2 9) fun x4 => yaN a0 (Addr.add a2 10) fun h6 v5 u5 => yaD .i64 a0 (Addr.add a2 11) fun x5 => yaD .i64 a0 (Addr.add a2 12) fun x6 => yaD .i64 a0 (Addr.add a2 13) fun x7 => yaD .i64 a0 (Addr.add a2 14) fun x8 => yaN a0 (Addr.add a2 15) fun h7 v6 u6 => yaN a0 (Addr.add a2 16) fun h8 v7 u7 =>
 Calls pP 14 #[(.agg (Z0 c8 c9 d0 d1 d2 d3 d4 d5 d6 d7 b6 c2 b9 d8 d9 e0 e1 b7 c3 c0 b8 c4 c1)), (.agg (Z0 w5 w6 w7 w8 w9 x0 x1 x2 x3 x4 h6 v5 u5 x5 x6 x7 x8 h7 v6 u6 h8 v7 u7))] a0 fun e c6 => ∃ f2, e = .returned (.bool f2) ∧ yaH [a7] a0 c6 ∧
 brB (!f2) (
 R (.bool false) c6)
 (
 yaL yl0 (yeD 385 [0, 0, 1, 1, 1, 0, 0, 1, 0, 0, 1, 0, 0, 0, 1, 0, 0, 1, 0, 1, 1, 1, 1, 1]) (yeT [1, 1, 1, 1, 1, 0, 1, 0, 0, 1, 0, 0, 0, 1, 0, 0, 1, 0, 0, 1, 1, 1, 0] [K3, (yxT i0 q0 q1 n0 n1 i1 I m)] R) (ygS i0 q0 q1 n0 n1 i1 a9 a7 c8 c9 d0 d1 d2 d3 d4 d5 d6 d7 b6 c2 b9 d8 d9 e0 e1 b7 c3 c0 b8 c4 c1 0) c6)))
 (
 Calls pP 15 #[.pointer q0, (.int .i64 (IntKind.wrap .i64 (i1 + 1)))] w fun e f6 => ∃ f9 g0 g1 g2 g3 g4 g5 g6 g7 g8 e3 e9 e6 g9 h1 h2 h3 e4 f0 e7 e5 f1 e8 h4, e = .returned (.tuple #[(.agg (Z0 f9 g0 g1 g2 g3 g4 g5 g6 g7 g8 e3 e9 e6 g9 h1 h2 h3 e4 f0 e7 e5 f1 e8)), .int .i64 h4]) ∧
 ∀ b1, f6.heap.size ≤ b1 →
 ∀ c7, Adv [] [b1] f6 c7 →
 Calls pP 13 #[.pointer q0, (.int .i64 (IntKind.wrap .i64 (i1 + 1)))] c7 fun e b3 => ∃ x9 y0 y1 y2 y3 y4 y5 y6 y7 y8 h9 v8 u9 y9 z0 z1 z2 u0 v9 v0 u1 w1 v1 h5, e = .returned (.tuple #[(.agg (Z0 x9 y0 y1 y2 y3 y4 y5 y6 y7 y8 h9 v8 u9 y9 z0 z1 z2 u0 v9 v0 u1 w1 v1)), .int .i64 h5]) ∧ yaH [b1] c7 b3 ∧
 ∀ b2, b3.heap.size ≤ b2 →
 brB (h4 != 0) (
 ∀ f7, Adv [] [b2] b3 f7 →
 R (.bool false) f7)
 (
 ixA q1 n0 i1 17 fun a3 =>
 ∀ a1, Adv [] [b2] b3 a1 →
 yaD .i64 a1 a3 fun z3 => yaD .i64 a1 (Addr.add a3 1) fun z4 => yaD .i64 a1 (Addr.add a3 2) fun z5 => yaD .i64 a1 (Addr.add a3 3) fun z6 => yaD .i64 a1 (Addr.add a3 4) fun z7 => yaD .i64 a1 (Addr.add a3 5) fun z8 => yaD .i64 a1 (Addr.add a3 6) fun z9 => yaD .i64 a1 (Addr.add a3 7) fun aa => yaD .i64 a1 (Addr.add a3 8) fun ab => yaD .i64 a1 (Addr.add a3 9) fun ac => yaN a1 (Addr.add a3 10) fun u2 w2 v2 => yaD .i64 a1 (Addr.add a3 11) fun ad => yaD .i64 a1 (Addr.add a3 12) fun ae => yaD .i64 a1 (Addr.add a3 13) fun af => yaD .i64 a1 (Addr.add a3 14) fun ag => yaN a1 (Addr.add a3 15) fun u3 w3 v3 => yaN a1 (Addr.add a3 16) fun u4 w4 v4 =>
 Calls pP 14 #[(.agg (Z0 f9 g0 g1 g2 g3 g4 g5 g6 g7 g8 e3 e9 e6 g9 h1 h2 h3 e4 f0 e7 e5 f1 e8)), (.agg (Z0 z3 z4 z5 z6 z7 z8 z9 aa ab ac u2 w2 v2 ad ae af ag u3 w3 v3 u4 w4 v4))] a1 fun e b4 => ∃ f3, e = .returned (.bool f3) ∧ yaH [b1, b2] a1 b4 ∧
 brB (!f3) (
 R (.bool false) b4)
 (
 brB (h5 != 210) (
 R (.bool false) b4)
 (
 KS K3 (yeU i0 q0 q1 n0 n1 (IntKind.wrap .i64 (i1 + 1))) b4))))) :
 yaL ylZ (yeD 390 [0, 0, 1, 0, 0, 0, 1, 0, 0, 1, 0, 1, 1, 1, 1, 1]) (yeT [1, 1, 1, 1, 1, 0, 1, 0, 0, 1, 0, 0, 0, 1, 0] [K3] R) (ygR i0 q0 q1 n0 n1 i1 i2) w0 :=
 lrule (ygR i0 q0 q1 n0 n1 i1) (U1 I) h0 (by rintro m a9 w h; exact ⟨by kernel_rfl, by kernel_rfl, fun js => Eq.mpr (by kernel_rfl) (hr m a9 w h)⟩)
abbrev yxU (c9 : Int) (c8 c5 : OA) (c7 c6 : Nat) (c3 c4 : Int) (bm0 : Nat) (b3 b4 b5 b6 b7 b8 b9 c0 c1 c2 : Int) (a0 : OA) (a6 a3 : Nat) (a9 b0 b1 b2 : Int) (a1 : OA) (a7 a4 : Nat) (a2 : OA) (a8 a5 : Nat) (I : Nat → Int → World → Prop) (m : Nat) : Kh := KG (ygS c9 c8 c5 c7 c6 c3 c4 bm0 b3 b4 b5 b6 b7 b8 b9 c0 c1 c2 a0 a6 a3 a9 b0 b1 b2 a1 a7 a4 a2 a8 a5) (U1 I) m
theorem ys4 {I : Nat → Int → World → Prop} (m' : Nat) (h1 : m' < m) (h2 : I m' j7 w) : KS (yxU i0 q0 q1 n0 n1 i1 i2 n2 i3 i4 i5 i6 i7 i8 i9 j0 j1 j2 q2 n3 n4 j3 j4 j5 j6 q3 n5 n6 q4 n7 n8 I m) (ygS i0 q0 q1 n0 n1 i1 i2 n2 i3 i4 i5 i6 i7 i8 i9 j0 j1 j2 q2 n3 n4 j3 j4 j5 j6 q3 n5 n6 q4 n7 n8 j7) w := ⟨m', h1, _, rfl, rfl, h2⟩
theorem ys5 {K3 K4 : Kh} (I : Nat → Int → World → Prop) (m0 : Nat) (h0 : I m0 j7 w0)
 (hr : ∀ m c3 w, I m c3 w →
 brB (decide (c3 < (n3 : Int))) (
 ixA q2 n3 c3 16 fun d3 =>
 st w (Addr.add d3 1) [.int .i64 99] fun d2 => yaH [n2] w d2 ∧
 KS (yxU i0 q0 q1 n0 n1 i1 i2 n2 i3 i4 i5 i6 i7 i8 i9 j0 j1 j2 q2 n3 n4 j3 j4 j5 j6 q3 n5 n6 q4 n7 n8 I m) (ygS i0 q0 q1 n0 n1 i1 i2 n2 i3 i4 i5 i6 i7 i8 i9 j0 j1 j2 q2 n3 n4 j3 j4 j5 j6 q3 n5 n6 q4 n7 n8 (IntKind.wrap .i64 (c3 + 1))) d2)
 (
 KS K4 (ygR i0 q0 q1 n0 n1 i1 (IntKind.wrap .i64 (i2 + 1))) w)) :
 yaL yl0 (yeD 385 [0, 0, 1, 1, 1, 0, 0, 1, 0, 0, 1, 0, 0, 0, 1, 0, 0, 1, 0, 1, 1, 1, 1, 1]) (yeT [1, 1, 1, 1, 1, 0, 1, 0, 0, 1, 0, 0, 0, 1, 0, 0, 1, 0, 0, 1, 1, 1, 0] [K3, K4] R) (ygS i0 q0 q1 n0 n1 i1 i2 n2 i3 i4 i5 i6 i7 i8 i9 j0 j1 j2 q2 n3 n4 j3 j4 j5 j6 q3 n5 n6 q4 n7 n8 j7) w0 :=
 lrule (ygS i0 q0 q1 n0 n1 i1 i2 n2 i3 i4 i5 i6 i7 i8 i9 j0 j1 j2 q2 n3 n4 j3 j4 j5 j6 q3 n5 n6 q4 n7 n8) (U1 I) h0 (by rintro m c3 w h; exact ⟨by kernel_rfl, by kernel_rfl, fun js => Eq.mpr (by kernel_rfl) (hr m c3 w h)⟩)
theorem yB5 {a2 a1 : Nat} (h :
 Calls pP 8 #[.int .i64 20] w fun e w1 => ∃ p2 x3, e = .returned (.tuple #[.pointer p2, .int .i64 x3]) ∧
 brB (Option.isNone p2) (
 R (.bool false) w1)
 (
 brB (x3 != 0) (
 R (.bool false) w1)
 (
 al w1 (.cells #[] 37) fun b4 w5 =>
 yaL ylX (yeD 394 [0, 0, 1, 0, 1, 1, 1, 1]) (yeT [1, 1, 1, 1, 0, 1, 0] [] R) (yfM q0 a2 a1 i0 p2 ((some ⟨b4, 0, none⟩), 0, 0, 0)) w5))) :
 CR pP 4 #[.slice q0 a2 a1, .int .i64 i0] w R :=
 yaA Tryz.wide_mixed (an := yl1) Tryz.func4 rfl rfl (by kernel_rfl) rfl (Eq.mpr (by kernel_rfl) h)
end
theorem yxV {w : World} {a a' : Option Addr} {n c n' c' : Nat} {l l' : List Int} (h : yb2 w 1 yiU a n l) (h' : yb2 w 1 yiU a' n' l') (hl : l.length ≤ 1000000) :
  Calls pP 28 #[.slice a n c, .slice a' n' c'] w fun e w' => e = .returned (.bool (decide (l = l'))) ∧ Mod [] w w' := by
 have hn := h.1
 have hn' := h'.1
 refine yaS (yB3 ?_)
 refine yaB (fun g => ?_) fun g => ?_
 ·have : l ≠ l' := fun e => by subst e; simp [hn, hn'] at g
  exact ⟨by rw [decide_eq_false this], Mod.refl _⟩
 have g : n = n' := by
  have g : (n : Int) = n' := by simpa using g
  omega
 refine ysW (fun mm x w' => ∃ k : Nat, x = k ∧ k ≤ l.length ∧ l.take k = l'.take k ∧ Mod [] w w' ∧ mm = l.length - k) l.length ⟨0, rfl, by omega, by simp, Mod.refl _, rfl⟩ ?_
 rintro mm x w1 ⟨k, rfl, hk, ht, M1, rfl⟩
 refine yaC (fun hlt => ?_) fun hge => ?_
 ·obtain ⟨y, hy⟩ : ∃ y, l[k]? = some y := ⟨_, List.getElem?_eq_getElem (by omega)⟩
  obtain ⟨y', hy'⟩ : ∃ y, l'[k]? = some y := ⟨_, List.getElem?_eq_getElem (by omega)⟩
  refine (h.keep0 M1).ix hy fun q hq => yaE (x := y) (by simpa [add_zero] using hq 0 _ rfl) ?_
  refine (h'.keep0 M1).ix hy' fun q hq => yaE (x := y') (by simpa [add_zero] using hq 0 _ rfl) ?_
  refine yaB (fun g => fun w2 A2 => ?_) fun g => fun w2 A2 => ?_
  ·have : l ≠ l' := fun e => by subst e; rw [hy] at hy'; cases hy'; simp at g
   exact ⟨by rw [decide_eq_false this], M1.go0 A2.mod (by simp)⟩
  ·have g : y = y' := by simpa using g
   exact ysV (l.length - (k + 1)) (by omega) ⟨k + 1, by rw [yaF (by omega) (by omega)]; omega, by omega, by rw [List.take_add_one, List.take_add_one, hy, hy', ht, g], M1.go0 A2.mod (by simp), rfl⟩
 ·have : l = l' := by
   rw [List.take_of_length_le (by omega), List.take_of_length_le (by omega)] at ht; exact ht
  exact ⟨by rw [decide_eq_true this], M1⟩
abbrev wmA : PMail := ⟨4, 1, 2, 0, 0, 0, 5, 0, 0, 0, [], ydW⟩
abbrev wmB : PMail := ⟨0, 2, 3, 0, 0, 0, 0, 0, 0, 0, [], ydW⟩
abbrev wmN : PMail := ⟨-1, 0, 0, 0, 0, 0, 0, 0, 0, 0, [], ydW⟩
theorem yrM {m : PMail} (hn : (yaX m).all num = true) (hk : 0 ≤ m.kind ∧ m.kind < 12) (hc : m.calls = []) (hr : m.r = ydW) : ybS m = 0 ∧ (ycN m).size ≤ 900000 := by
 obtain ⟨h1, h2⟩ := ysO hn hk hc hr
 have := ykO (m := m) (by omega)
 exact ⟨h1, by omega⟩
theorem yxW {w : World} {b : Nat} {x : Int} (h : w.heap[b]? = some (.cells #[.int .i64 x] 3)) : yb2 w 1 yiU (some ⟨b, 0, none⟩) 1 [x] :=
 ⟨rfl, fun i y hy => by
  have hi := (List.getElem?_eq_some_iff.1 hy).1
  have hi : i = 0 := by simp at hi; omega
  subst hi
  simp at hy; subst hy
  refine ⟨_, rfl, fun j v hv => ?_⟩
  have hj : j = 0 := by have := (List.getElem?_eq_some_iff.1 hv).1; simp [yiU] at this; omega
  subst hj
  simp [yiU] at hv; subst hv
  rw [Nat.zero_mul, add_zero, add_zero, yaU h]; rfl⟩
set_option maxHeartbeats 8000000 in
theorem ys6 (w : World) : Calls pP 9 #[] w fun e w' => e = .returned (.bool true) ∧ Mod [] w w' := by
 obtain ⟨eA, zA⟩ := yrM (m := wmA) (by decide) (by decide) rfl rfl
 obtain ⟨eB, zB⟩ := yrM (m := wmB) (by decide) (by decide) rfl rfl
 have eN : ybS wmN = 180 := by
  have : yd8 wmN = 180 := by rw [yd8, if_pos (by decide)]
  rw [ybS, if_pos (by rw [this]; decide), this]
 refine yaS (yB4 ?_)
 refine (ypK 2 w).mono ?_
 rintro _ w1 ⟨_, rfl, M1, hv⟩
 rw [if_pos (by decide)] at hv
 obtain ⟨b, bl, ba, rfl, fb, fl, fa, h1⟩ := hv
 refine ⟨_, _, rfl, brF rfl (brF rfl ?_)⟩
 have lb := yaJ h1.cells
 have ll := h1.lm.lt
 have la := h1.am.lt
 intro b4 f4 w5 A5
 have s5 := A5.mod.size
 have N5 := M1.go0 A5.mod (by simp)
 have h5 := h1.keep0 A5.mod
 have big : ∀ {x : Nat}, w1.heap.size ≤ x → x ≠ b ∧ x ≠ bl ∧ x ≠ ba := fun h => by omega
 have go1 : ∀ {x x' : World} {S : List Nat}, Mod S x x' → (∀ k ∈ S, k = b ∨ k = bl ∨ k = ba) → Mod [] w x → Mod [] w x' := fun M hS N => N.go0 M fun k hk => by rcases hS k hk with h | h | h <;> omega
 have kp : ∀ {x x' : World} {S bs : List Nat}, Mod S x x' → (∀ k ∈ S, k = b ∨ k = bl ∨ k = ba) → (∀ k ∈ bs, w1.heap.size ≤ k) → yaH bs x x' := fun M hS hb => yaH.of M fun k hk _ hk' => by
  have := hb k hk
  rcases hS k hk' with h | h | h <;> omega
 have sS : ∀ k ∈ [b, bl], k = b ∨ k = bl ∨ k = ba := fun k hk => by simp at hk; omega
 have sL : ∀ k ∈ [bl], k = b ∨ k = bl ∨ k = ba := fun k hk => by simp at hk; omega
 have sA : ∀ k ∈ [ba], k = b ∨ k = bl ∨ k = ba := fun k hk => by simp at hk; omega
 refine (ye3 h5 (yiS w5 wmA rfl rfl) (by simp) (fun _ => zA) (by omega)).mono ?_
 have q1 : yeH 2 [] wmA = 0 := by rw [yeH, if_neg (by simpa using eA)]; rfl
 rw [q1]
 rintro _ w6 ⟨rfl, M6, h6⟩
 simp only [if_true] at h6
 refine ⟨_, _, rfl, kp M6 sS (by simp; omega), ?_⟩
 have N6 := go1 M6 sS N5
 have z6 := M6.size
 refine (ye3 h6 (yiS w6 wmB rfl rfl) (by simp) (fun _ => zB) (by omega)).mono ?_
 have q2 : yeH 2 ([] ++ [(((0 + 1 : Nat) : Int), wmA)]) wmB = 0 := by rw [yeH, if_neg (by simpa using eB)]; rfl
 rw [q2]
 rintro _ w9 ⟨rfl, M9, h9⟩
 simp only [if_true] at h9
 refine ⟨_, _, rfl, kp M9 sS (by simp; omega), ?_⟩
 have N9 := go1 M9 sS N6
 have z9 := M9.size
 refine (ye3 h9 (yiS w9 wmA rfl rfl) (by simp) (fun _ => zA) (by omega)).mono ?_
 have q3 : yeH 2 (([] ++ [(((0 + 1 : Nat) : Int), wmA)]) ++ [(((0 + 1 + 1 : Nat) : Int), wmB)]) wmA = 2 := by rw [yeH, if_neg (by simpa using eA)]; rfl
 rw [q3]
 rintro _ w12 ⟨rfl, M12, h12⟩
 rw [if_neg (by decide), if_neg (by decide)] at h12
 refine ⟨_, _, rfl, kp M12 sS (by simp; omega), ?_⟩
 have N12 := go1 M12 sS N9
 have z12 := M12.size
 have h12 : WiAt w12 b 2 2 bl ba [(1, wmA), (2, wmB)] [] := h12
 refine (yeR h12 (by unfold r64; omega)).mono ?_
 rintro _ w15 ⟨_, rfl, ⟨s15, f15, p15, rfl, hO15, _⟩, M15⟩
 refine ⟨_, _, _, _, _, _, _, _, _, _, _, _, _, _, _, _, _, _, _, _, _, _, _, _, rfl, yaH.of0 M15, ?_⟩
 intro b40 f40 w41 A41
 have N41 := (N12.go0 M15 (by simp)).go0 A41.mod (by simp)
 have z15 := M15.size
 have z41 := A41.mod.size
 have h41 := (h12.keep0 M15).keep0 A41.mod
 have hO41 := hO15.keep0 A41.mod
 refine (yxL h41 (x := 2) (y := 1) (by unfold r64; omega) (by unfold r64; omega) true).mono ?_
 rintro _ w42 ⟨rfl, M42, h42⟩
 refine ⟨rfl, kp M42 sA (by simp; omega), ?_⟩
 have N42 := go1 M42 sA N41
 have z42 := M42.size
 have hO42 := hO41.keepB M42 (by simp; omega)
 have h42 : WiAt w42 b 2 2 bl ba [(1, wmA), (2, wmB)] [(1, 2)] := h42
 refine (yhM h42 (id := 1) (by unfold r64; omega)).mono ?_
 rintro _ w43 ⟨_, rfl, ⟨s43, f43, p43, rfl, _, _⟩, M43, h43⟩
 refine ⟨_, _, _, _, _, _, _, _, _, _, _, _, _, _, _, _, _, _, _, _, _, _, _, _, rfl, kp M43 sL (by simp; omega), ?_⟩
 have N43 := go1 M43 sL N42
 have z43 := M43.size
 have hO43 := hO42.keepB M43 (by simp; omega)
 have h43 : WiAt w43 b 2 2 bl ba [(1, wmA), (2, wmB)] [(1, 2)] := h43
 intro b68 f68 w69 A69
 have z69 := A69.mod.size
 refine (yxP (h43.keep0 A69.mod)).mono ?_
 rintro _ w70 ⟨a71, n72, c73, rfl, hR70, M70⟩
 refine ⟨_, _, _, rfl, yaH.of0 M70, ?_⟩
 have K70 : Mod [] w43 w70 := A69.mod.go0 M70 (by simp)
 have z70 := M70.size
 have hR70 : Row w70 w69.heap.size 3 1 yiU a71 n72 c73 [2] := hR70
 have h70 := h43.keep0 K70
 have hO70 := hO43.keep0 K70
 have N70 := N43.go0 K70 (by simp)
 refine (ynD h70 (x := 1) (y := 2) (by unfold r64; omega) (by unfold r64; omega)).mono ?_
 rintro _ w74 ⟨rfl, M74⟩
 refine ⟨_, rfl, yaH.of0 M74, ?_⟩
 have z74 := M74.size
 refine (yxL (h70.keep0 M74) (x := 1) (y := 2) (by unfold r64; omega) (by unfold r64; omega) false).mono ?_
 rintro _ w76 ⟨rfl, M76, h76⟩
 refine ⟨rfl, kp M76 sA (by simp; omega), ?_⟩
 have N76 := go1 M76 sA (N70.go0 M74 (by simp))
 have z76 := M76.size
 have hO76 := (hO70.keep0 M74).keepB M76 (by simp; omega)
 have hR76 := (hR70.keep0 M74).keep M76 fun ad ha hk => by have := hR70.base ad ha; simp at hk; omega
 have h76 : WiAt w76 b 2 2 bl ba [(1, wmA), (2, wmB)] [] := h76
 refine (yhM h76 (id := 1) (by unfold r64; omega)).mono ?_
 rintro _ w77 ⟨_, rfl, ⟨s77, f77, p77, rfl, hO77, _⟩, M77, h77⟩
 refine ⟨_, _, _, _, _, _, _, _, _, _, _, _, _, _, _, _, _, _, _, _, _, _, _, _, rfl, kp M77 sL (by simp; omega), ?_⟩
 have z77 := M77.size
 have h77 : WiAt w77 b 2 2 bl ba [(2, wmB)] [] := h77
 intro b102 f102 w103 A103
 have z103 := A103.mod.size
 refine (yhM (h77.keep0 A103.mod) (id := 1) (by unfold r64; omega)).mono ?_
 rintro _ w104 ⟨_, rfl, ⟨s104, f104, p104, rfl, _, _⟩, M104, h104⟩
 refine ⟨_, _, _, _, _, _, _, _, _, _, _, _, _, _, _, _, _, _, _, _, _, _, _, _, rfl, kp M104 sL (by simp; omega), ?_⟩
 have z104 := M104.size
 have h104 : WiAt w104 b 2 2 bl ba [(2, wmB)] [] := h104
 intro b129 f129 w130 A130
 have z130 := A130.mod.size
 refine (yzW (h104.keep0 A130.mod) (id := 2) (by unfold r64; omega)).mono ?_
 rintro _ w131 ⟨rfl, M131, h131⟩
 refine ⟨_, rfl, kp M131 sL (by simp; omega), ?_⟩
 have z131 := M131.size
 have h131 : WiAt w131 b 2 2 bl ba [] [] := h131
 have K77 := (((M77.trans A103.mod).trans M104).trans A130.mod).trans M131
 have N131 : Mod [] w w131 := N76.go0 K77 fun k hk => by simp at hk; omega
 refine (ye3 h131 (yiS w131 wmA rfl rfl) (by simp) (fun _ => zA) (by omega)).mono ?_
 rw [q1]
 rintro _ w133 ⟨rfl, M133, h133⟩
 simp only [if_true] at h133
 refine ⟨_, _, rfl, kp M133 sS (by simp; omega), ?_⟩
 have z133 := M133.size
 refine (ye3 h133 (yiS w133 wmN rfl rfl) (by simp) (fun h => by rw [eN] at h; cases h) (by omega)).mono ?_
 have q5 : yeH 2 ([] ++ [(((2 + 1 : Nat) : Int), wmA)]) wmN = 180 := by rw [yeH, if_pos (by rw [eN]; decide), eN]
 rw [q5]
 rintro _ w136 ⟨rfl, M136, h136⟩
 rw [if_neg (by decide), if_neg (by decide)] at h136
 refine ⟨_, _, rfl, kp M136 sS (by simp; omega), ?_⟩
 have z136 := M136.size
 refine (ypK 0 w136).mono ?_
 rintro _ w139 ⟨_, rfl, M139, hv⟩
 rw [if_neg (by decide)] at hv
 subst hv
 refine ⟨_, _, rfl, yaH.of0 M139, ?_⟩
 have z139 := M139.size
 have N139 : Mod [] w w139 := (go1 M136 sS (go1 M133 sS N131)).go0 M139 (by simp)
 have K2 : Mod [b, bl] w131 w139 := ((M133.trans M136).trans M139).less fun k hk _ => by simp at hk ⊢; omega
 have h139 : WiAt w139 b 2 3 bl ba [(3, wmA)] [] := h136.keep0 M139
 have hO1 : MailOwn w139 w12.heap.size wmA s15 f15 p15 := ((hO76.keepB K77 (by simp; omega)).keepB K2 (by simp; omega))
 have hO2 : MailOwn w139 w76.heap.size wmA s77 f77 p77 := ((((hO77.keep0 A103.mod).keepB M104 (by simp; omega)).keep0 A130.mod).keepB M131 (by simp; omega)).keepB K2 (by simp; omega)
 have hR139 : Row w139 w69.heap.size 3 1 yiU a71 n72 c73 [2] := (hR76.keep K77 fun ad ha hk => by have := hR76.base ad ha; simp at hk; omega).keep K2 fun ad ha hk => by have := hR76.base ad ha; simp at hk; omega
 refine brT rfl (brT rfl (brT rfl (brT rfl (brT rfl ?_))))
 refine (yhL (m := wmA) (m' := wmA) hO1.at (yiS w139 wmA rfl rfl) (by simp)).mono ?_
 rintro _ w142 ⟨rfl, M142⟩
 refine ⟨_, rfl, yaH.of0 M142, brT (by simp) (brT rfl (brT rfl ?_))⟩
 refine ycS fun b144 w145 c145 M145 f145 => ?_
 have N145 := (N139.go0 M142 (by simp)).go0 M145 (by simp)
 refine (yxV (((hR139.keep0 M142).keep0 M145).sl (fun _ => rfl)) (yxW c145) (by simp)).mono ?_
 rintro _ w146 ⟨rfl, M146⟩
 have K146 : Mod [] w139 w146 := (M142.go0 M145 (by simp)).go0 M146 (by simp)
 refine ⟨_, rfl, yaH.of0 M146, brT (by simp) (brT rfl ?_)⟩
 refine (yhL (m := wmA) (m' := wmA) (hO2.keep0 K146).at (yiS w146 wmA rfl rfl) (by simp)).mono ?_
 rintro _ w148 ⟨rfl, M148⟩
 have K148 := K146.go0 M148 (by simp)
 refine ⟨_, rfl, yaH.of0 M148, brT (by simp) (brT rfl (brT rfl (brT rfl (brT rfl (brT rfl (brT rfl (brT rfl ?_)))))))⟩
 refine (ypO (h139.keep0 K148)).mono ?_
 rintro _ w150 ⟨_, rfl, a151, n152, c153, rfl, hR150, M150⟩
 refine ⟨_, _, _, rfl, yaH.of0 M150, ?_⟩
 refine ycS fun b154 w155 c155 M155 f155 => ?_
 have hR150 : Row w150 w148.heap.size 3 1 yiU a151 n152 c153 [3] := hR150
 refine (yxV ((hR150.keep0 M155).sl (fun _ => rfl)) (yxW c155) (by simp)).mono ?_
 rintro _ w156 ⟨rfl, M156⟩
 exact ⟨_, rfl, yaH.of0 M156, by simp, (((N139.go0 K148 (by simp)).go0 M150 (by simp)).go0 M155 (by simp)).go0 M156 (by simp)⟩
theorem yFn {w0 w : World} (N : Mod [] w0 w) : Calls pP 9 #[] w fun e w' => ∃ t : Bool, e = .returned (.bool t) ∧ (Value.bool t = .bool true ∧ Mod [] w0 w') := by
 refine (ys6 w).mono ?_
 rintro _ w1 ⟨rfl, M1⟩
 exact ⟨_, rfl, rfl, N.go0 M1 (by simp)⟩
theorem Row.store1 {α : Type} {w : World} {base T sz : Nat} {enc : α → List Value} {a : Option Addr} {n c : Nat} {l : List α} {i k : Nat} {x y : α} {v : Value} {F : World → Prop} (h : Row w base T sz enc a n c l) (hs : ∀ x, (enc x).length = sz) (hk : k < sz) (hl : yrQ v = true) (hx : l[i]? = some x) (hy : enc y = (enc x).set k v)
  (hF : ∀ ad w', a = some ad → Row w' base T sz enc a n c (l.set i y) → Mod [ad.block] w w' → F w') : ixA a n (i : Int) sz fun q => st w (q.add k) [v] F := by
 obtain ⟨hn, hlen, ho⟩ := h
 have hi : i < l.length := (List.getElem?_eq_some_iff.1 hx).1
 rcases ho with ⟨ho, h0⟩ | ⟨g, cap, cur, hv, hb, hg, hnc, hcm, hsz, htk⟩
 ·omega
 ·simp only [Value.slice.injEq] at hv
  obtain ⟨rfl, _, rfl⟩ := hv
  have hle : (i + 1) * sz ≤ c * sz := Nat.mul_le_mul_right sz (by omega)
  have hle1 : i * sz + sz ≤ cur.size := by rw [hsz]; rw [Nat.add_mul, Nat.one_mul] at hle; exact hle
  refine ⟨⟨g, 0, none⟩, rfl, by omega, by omega, ?_⟩
  have ea : (Addr.add ⟨g, 0, none⟩ (((i : Int).toNat) * sz)).add k = ⟨g, i * sz + k, none⟩ := by
   rw [Int.toNat_natCast, ya0, ya0, Nat.zero_add]
  dsimp only
  rw [ea]
  refine ycT hg (by simp [hl]) (by simp; omega) fun w' h1 h2 => hF ⟨g, 0, none⟩ w' rfl ⟨by rw [List.length_set]; exact hn, ?_, .inr ⟨g, c, ybH cur (i * sz + k) [v], rfl, hb, h1, hnc, hcm, by rw [ygW]; exact hsz, ?_⟩⟩ h2
  ·rw [yfH hs, List.length_set, hn]
  ·refine List.ext_getElem? fun j => ?_
   rw [List.getElem?_take]
   by_cases hj : j < n * sz
   ·rw [if_pos hj, yh9 _ _ _ _ (by simp; omega)]
    have hsz0 : 0 < sz := by omega
    have hq : j / sz < l.length := Nat.div_lt_of_lt_mul (by rw [Nat.mul_comm, ← hn]; exact hj)
    have hr := Nat.mod_lt j hsz0
    have e : j / sz * sz + j % sz = j := by rw [Nat.mul_comm]; exact Nat.div_add_mod j sz
    have hcur : cur.toList[j]? = (enc l[j / sz])[j % sz]? := by
     have hm2 := yc1 hs l (j / sz) (j % sz) _ (List.getElem?_eq_getElem hq) hr
     rw [e] at hm2
     rw [← hm2, ← htk, List.getElem?_take, if_pos hj]
    by_cases he : j / sz = i
    ·rw [he] at e
     have hm := yc1 hs (l.set i y) i (j % sz) y (List.getElem?_set_self hi) hr
     rw [e] at hm
     rw [hm, hy, List.getElem?_set]
     have hxx : l[j / sz] = x := by
      have := (List.getElem?_eq_some_iff.1 hx).2
      simp only [he]; exact this
     by_cases hjk : k = j % sz
     ·rw [if_pos hjk, if_pos (show k < (enc x).length by rw [hs]; omega), if_pos (show i * sz + k ≤ j ∧ j < i * sz + k + [v].length by simp only [List.length_cons, List.length_nil]; omega)]
      have : j - (i * sz + k) = 0 := by omega
      rw [this]; rfl
     ·rw [if_neg hjk, if_neg (show ¬ (i * sz + k ≤ j ∧ j < i * sz + k + [v].length) by simp only [List.length_cons, List.length_nil]; omega), hcur, hxx]
    ·have hg' : (l.set i y)[j / sz]? = some l[j / sz] := by rw [List.getElem?_set_ne (Ne.symm he)]; exact List.getElem?_eq_getElem hq
     have hm := yc1 hs (l.set i y) (j / sz) (j % sz) _ hg' hr
     rw [e] at hm
     rw [hm, if_neg, hcur]
     simp only [List.length_cons, List.length_nil]
     rintro ⟨g1, g2⟩
     have h3 : i * sz ≤ j := by omega
     have h4 : j < (i + 1) * sz := by rw [Nat.add_mul]; omega
     exact he (Nat.div_eq_of_lt_le (by omega) (by omega))
   ·rw [if_neg hj, List.getElem?_eq_none]
    rw [yfH hs, List.length_set, ← hn]; omega
theorem yz1 {m : PMail} (h : ybS (ylO m) = 0) : (ycN (ylO m)).size ≤ 700000 := by
 obtain ⟨h0, hl0⟩ := ybY h
 obtain ⟨_, h1, h2, h3⟩ := ycD h0
 have l1 := yeP h1 10
 rw [List.take_of_length_le (by rw [yeO]; omega)] at l1
 obtain ⟨q1, q2⟩ := yf4 h2
 have l2 := yc7 (f := ye6) (c := 40000) (l := (ylO m).calls) fun x hx => (yf3 (q2 x hx).1 (q2 x hx).2).1
 have l3 := (yaO (ylO m).calls.length (by omega)).2
 have lc := yxJ m
 have l4 : (ybP (ylO m).calls).length ≤ 490000 := by unfold ybP; rw [List.length_append]; omega
 have l5 : (ydO (ylO m).r).length ≤ 60000 := (RepGood.of h3).len3 (ylO m).r.parts.length
 have p2 := (ya4 (bs (ybP (ylO m).calls)) (by rw [yaK]; omega)).2
 have p3 := (ya4 (bs (ydO (ylO m).r)) (by rw [yaK]; omega)).2
 rw [yaK] at p2 p3
 have l6 : (ybR (ylO m)).length ≤ 600000 := by unfold ybR; rw [List.length_append, List.length_append]; omega
 have := ykO hl0
 omega
theorem yrN {w : World} {q : Addr} {m : PMail} {s f p : Sl} {F : Int → Int → Int → Int → Int → Int → Int → Int → Int → Int → Option Addr → Nat → Nat → Int → Int → Int → Int → Option Addr → Nat → Nat → Option Addr → Nat → Nat → Prop} (c : ∀ j v, (m.cs s f p)[j]? = some v → w.cell? (q.add j) = some v) (hF : F m.kind m.fr m.to m.view m.normal m.last m.commit m.nonce m.base m.n s.a s.n s.c m.r.e m.r.off m.r.n m.r.gen f.a f.n f.c p.a p.n p.c) :
  yaD .i64 w q fun x0 => yaD .i64 w (q.add 1) fun x1 => yaD .i64 w (q.add 2) fun x2 => yaD .i64 w (q.add 3) fun x3 => yaD .i64 w (q.add 4) fun x4 => yaD .i64 w (q.add 5) fun x5 => yaD .i64 w (q.add 6) fun x6 => yaD .i64 w (q.add 7) fun x7 => yaD .i64 w (q.add 8) fun x8 => yaD .i64 w (q.add 9) fun x9 => yaN w (q.add 10) fun a10 n10 c10 => yaD .i64 w (q.add 11) fun x11 => yaD .i64 w (q.add 12) fun x12 => yaD .i64 w (q.add 13) fun x13 => yaD .i64 w (q.add 14) fun x14 => yaN w (q.add 15) fun a15 n15 c15 => yaN w (q.add 16) fun a16 n16 c16 => F x0 x1 x2 x3 x4 x5 x6 x7 x8 x9 a10 n10 c10 x11 x12 x13 x14 a15 n15 c15 a16 n16 c16 :=
 yaE (by have := c 0 _ rfl; rwa [add_zero] at this) (yaE (c 1 _ rfl) (yaE (c 2 _ rfl) (yaE (c 3 _ rfl) (yaE (c 4 _ rfl) (yaE (c 5 _ rfl) (yaE (c 6 _ rfl) (yaE (c 7 _ rfl) (yaE (c 8 _ rfl) (yaE (c 9 _ rfl) (ybD (c 10 _ rfl) (yaE (c 11 _ rfl) (yaE (c 12 _ rfl) (yaE (c 13 _ rfl) (yaE (c 14 _ rfl) (ybD (c 15 _ rfl) (ybD (c 16 _ rfl) hF))))))))))))))))
def idL (ms : List PMail) : PL := ms.zipIdx.map fun p => (((p.2 + 1 : Nat) : Int), p.1)
theorem yxX (ms : List PMail) : (idL ms).length = ms.length := by simp [idL]
theorem yB6 (ms : List PMail) (m : PMail) : idL (ms ++ [m]) = idL ms ++ [(((ms.length + 1 : Nat) : Int), m)] := by simp [idL, List.zipIdx_append]
theorem yz2 {ms : List PMail} {i : Nat} {m : PMail} (h : ms[i]? = some m) : (idL ms).drop i = (((i + 1 : Nat) : Int), m) :: (idL ms).drop (i + 1) := by
 have hi := (List.getElem?_eq_some_iff.1 h).1
 have hl : i < (idL ms).length := by rw [yxX]; exact hi
 have hg : (idL ms)[i]? = some (((i + 1 : Nat) : Int), m) := by
  unfold idL
  rw [List.getElem?_map, List.getElem?_zipIdx, h]; simp
 rw [List.drop_eq_getElem_cons hl, (List.getElem?_eq_some_iff.1 hg).2]
theorem ycC.keepB {S : List Nat} {w w' : World} {base : Nat} {s : Sl} {xs : List PMail} (h : ycC w base s xs) (M : Mod S w w') (hS : ∀ k ∈ S, k < base) : ycC w' base s xs := by
 obtain ⟨ll, h1, h2, h3⟩ := h
 exact ⟨ll, h1.keep M fun ad ha hk => by have := h1.base ad ha; have := hS _ hk; omega, fun y hy => (h2 y hy).keepB M hS, h3⟩
theorem ycC.keep0 {w w' : World} {base : Nat} {s : Sl} {xs : List PMail} (h : ycC w base s xs) (M : Mod [] w w') : ycC w' base s xs := h.keepB M (by simp)
def yFw (q : CV) : CV := ⟨⟨q.x.c, 99, q.x.op⟩, q.rs, q.ts⟩
set_option maxHeartbeats 16000000 in
theorem yxY {a : Option Addr} {n c : Nat} {lm : List MR} (k : Int) (w : World) (h : yb2 w 17 MR.cs a n lm) (hO : ∀ q ∈ lm, MailRd w q.m q.s q.f q.p) :
  Calls pP 4 #[.slice a n c, .int .i64 k] w fun e w' => e = .returned (.bool true) ∧ Mod [] w w' := by
 have rK := ysM (x := k) (m := 3) (by decide) (by decide)
 refine yaS (yB5 ?_)
 refine (ypK 20 w).mono ?_
 rintro _ w1 ⟨_, rfl, M1, hv⟩
 rw [if_pos (by decide)] at hv
 obtain ⟨b, bl, ba, rfl, fb, fl, fa, h1⟩ := hv
 refine ⟨_, _, rfl, brF rfl (brF rfl ?_)⟩
 refine ycS fun b4 w5 c5 M5 f5 => ?_
 have s1 := M1.size
 have s5 := M5.size
 have lb := yaJ h1.cells
 have ll := h1.lm.lt
 have la := h1.am.lt
 have sS : ∀ i ∈ [b, bl], w.heap.size ≤ i := fun i hi => by simp at hi; omega
 have sL : ∀ i ∈ [bl], w.heap.size ≤ i := fun i hi => by simp at hi; omega
 have oS : ∀ i ∈ [b, bl], i < w1.heap.size := fun i hi => by simp at hi; omega
 have oL : ∀ i ∈ [bl], i < w1.heap.size := fun i hi => by simp at hi; omega
 have hn := h.1
 have wk : ∀ {w0 w' : World} {S : List Nat} {L : PL} {nx : Nat}, WiAt w0 b 20 nx bl ba L [] → Mod S w0 w' → (∀ i ∈ S, w1.heap.size ≤ i) → WiAt w' b 20 nx bl ba L [] := fun h M hS => h.keep M (fun hh => by have := hS _ hh; omega) (fun hh => by have := hS _ hh; omega) (fun hh => by have := hS _ hh; omega)
 have L3 : ∀ {w9 : World} {a7 : Option Addr} {n7 c7 : Nat} {ms : List PMail}, ms.length ≤ 20 → WiAt w9 b 20 ms.length bl ba (idL ms) [] → ycC w9 w1.heap.size ⟨a7, n7, c7⟩ ms → (∀ m ∈ ms, m.calls.length ≤ 12) → Mod [] w w9 → w1.heap.size ≤ w9.heap.size →
   yaL yf8 (yeD 393 [0, 0, 1, 0, 1, 1, 1, 1, 1]) (yFm [1, 1, 1, 1, 1, 0, 1, 0] [] (ybI pP Tryz.f4 [] (fun v w' => v = .bool true ∧ Mod [] w w'))) (yeU k (some ⟨b, 0, none⟩) a7 n7 c7 0) w9 := fun {w9 a7 n7 c7 ms} hml h9 hm9 hc9 N9 z9 => by
  refine ys1 (fun mm x w' => ∃ i : Nat, x = i ∧ i ≤ ms.length ∧ WiAt w' b 20 ms.length bl ba ((idL ms).drop i) [] ∧ ycC w' w1.heap.size ⟨a7, n7, c7⟩ ms ∧ Mod [] w w' ∧ w1.heap.size ≤ w'.heap.size ∧ mm = ms.length - i) ms.length ⟨0, rfl, by omega, h9, hm9, N9, z9, rfl⟩ ?_
  rintro mm x w10 ⟨i, rfl, hi, h10, hm10, N10, z10, rfl⟩
  have hn7 : n7 = ms.length := by obtain ⟨l2, g1, _, g3⟩ := hm10; rw [← g3, List.length_map]; exact g1.1
  refine yaC (fun hlt => ?_) fun hge => ?_
  ·obtain ⟨m, hm⟩ : ∃ m, ms[i]? = some m := ⟨_, List.getElem?_eq_getElem (by omega)⟩
   have hmc := hc9 m (List.mem_of_getElem? hm)
   have hd := yz2 hm
   have e1 : IntKind.wrap .i64 ((i : Int) + 1) = ((i + 1 : Nat) : Int) := by rw [yaF (by omega) (by omega)]; omega
   have hlk : lkp ((idL ms).drop i) ((i + 1 : Nat) : Int) = some m := by rw [hd, lkp, if_pos rfl]
   have htE : twE ((idL ms).drop i) [] ((i + 1 : Nat) : Int) = 0 := by rw [twE, hlk]; rfl
   have htM : twM ((idL ms).drop i) [] ((i + 1 : Nat) : Int) = m := by rw [twM, hlk]; rfl
   have rid : r64 ((i + 1 : Nat) : Int) := by unfold r64; omega
   have lx : ∀ {w' : World}, ycC w' w1.heap.size ⟨a7, n7, c7⟩ ms → ∃ l2 : List MV, Row w' w1.heap.size 37 17 MV.cs a7 n7 c7 l2 ∧ ∃ y, l2[i]? = some y ∧ y.m = m ∧ MailOwn w' w1.heap.size y.m y.s y.f y.p := fun hm' => by
    obtain ⟨l2, g1, g2, g3⟩ := hm'
    obtain ⟨y, hy⟩ : ∃ y, l2[i]? = some y := ⟨_, List.getElem?_eq_getElem (by have g11 : n7 = l2.length := g1.1; omega)⟩
    refine ⟨l2, g1, y, hy, ?_, g2 y (List.mem_of_getElem? hy)⟩
    have := congrArg (fun l : List PMail => l[i]?) g3
    simp only [List.getElem?_map, hy, Option.map_some, hm] at this
    exact Option.some.inj this
   refine ys3 (fun mm x w' => ∃ t : Nat, x = t ∧ (t : Int) ≤ yiV .i64 k 3 + 1 ∧ WiAt w' b 20 ms.length bl ba ((idL ms).drop i) [] ∧ ycC w' w1.heap.size ⟨a7, n7, c7⟩ ms ∧ Mod [] w w' ∧ w1.heap.size ≤ w'.heap.size ∧ mm = 5 - t) 5 ⟨0, rfl, by omega, h10, hm10, N10, z10, rfl⟩ ?_
   rintro mm x w11 ⟨t, rfl, ht, h11, hm11, N11, z11, rfl⟩
   rw [e1]
   refine yaC (fun hlt4 => ?_) fun hge4 => ?_
   ·refine (yeR h11 rid).mono ?_
    rintro _ w12 ⟨_, rfl, ⟨s12, f12, p12, rfl, hO12, hlc12⟩, M12⟩
    rw [htM] at hO12 hlc12 ⊢
    rw [htE]
    refine ⟨_, _, _, _, _, _, _, _, _, _, _, _, _, _, _, _, _, _, _, _, _, _, _, _, rfl, ?_⟩
    intro b13 f13
    refine brF rfl ?_
    have hm12 := hm11.keep0 M12
    obtain ⟨l2, g1, y, hy, hym, gy⟩ := lx hm12
    refine (g1.sl MV.cs_len).ixW hy fun q hq => ?_
    intro w14 A14
    refine yrN (m := y.m) (s := y.s) (f := y.f) (p := y.p) (hq w14 A14.mod) ?_
    refine (yhL (hO12.keep0 A14.mod).at (gy.keep0 A14.mod).at (by omega)).mono ?_
    rintro _ w15 ⟨rfl, M15⟩
    refine ⟨_, rfl, yaH.of0 M15, brF (by rw [hym]; simp) ?_⟩
    obtain ⟨lc, hlc, _, hcs⟩ := ((hO12.keep0 A14.mod).keep0 M15).calls
    have hcl : lc.length ≤ 12 := by have := congrArg List.length hcs; rw [List.length_map] at this; omega
    have hsn := hlc.1
    have K15 : Mod [] w11 w15 := (M12.go0 A14.mod (by simp)).go0 M15 (by simp)
    have rb := yaT (hO12.calls.choose_spec.1)
    refine ys5 (fun mm x w' => ∃ (j : Nat) (lc' : List CV), x = j ∧ j ≤ lc.length ∧ lc'.length = lc.length ∧ Row w' w11.heap.size 50 16 CV.cs s12.a s12.n s12.c lc' ∧ Mod (yeL s12.a) w15 w' ∧ mm = lc.length - j) lc.length ⟨0, lc, rfl, by omega, rfl, hlc, (Mod.refl _).less (by simp), rfl⟩ ?_
    rintro mm x w16 ⟨j, lc', rfl, hj, hll', hR', M16, rfl⟩
    refine yaC (fun hlt5 => ?_) fun hge5 => ?_
    ·obtain ⟨z, hz⟩ : ∃ z, lc'[j]? = some z := ⟨_, List.getElem?_eq_getElem (by omega)⟩
     refine Row.store1 (y := yFw z) (k := 1) (v := .int .i64 99) hR' CV.cs_len (by omega) rfl hz rfl fun ad w17 ha hR17 M17 => ?_
     have hbk : ad.block ∈ yeL s12.a := yb3 _ _ ha
     have hbl : w11.heap.size ≤ ad.block ∧ ad.block < w12.heap.size := by
      obtain ⟨lcx, gx, _⟩ := hO12.calls
      obtain ⟨q1, q2, _⟩ := yaT gx _ hbk
      exact ⟨q1, q2⟩
     refine ⟨yaH.of M17 (by simp; omega), ys4 (lc.length - (j + 1)) (by omega) ⟨j + 1, lc'.set j (yFw z), by rw [yaF (by omega) (by omega)]; omega, by omega, by simp [hll'], hR17, (M16.trans M17).less fun i hi _ => by
      rcases List.mem_append.1 hi with hi | hi
      ·exact hi
      ·simp at hi; subst hi; exact hbk, rfl⟩⟩
    ·have hS : ∀ i ∈ yeL s12.a, w11.heap.size ≤ i := fun i hi => by
      obtain ⟨lcx, gx, _⟩ := hO12.calls
      exact (yaT gx i hi).1
     have K16 : Mod [] w11 w16 := K15.go0 M16 hS
     have zz := K16.size
     exact ys2 (5 - (t + 1)) (by omega) ⟨t + 1, by rw [yaF (by omega) (by omega)]; omega, by omega, h11.keep0 K16, hm11.keep0 K16, N11.go0 K16 (by simp), by omega, rfl⟩
   ·refine (yhM h11 rid).mono ?_
    rintro _ w12 ⟨_, rfl, ⟨s12, f12, p12, rfl, hO12, hlc12⟩, M12, h12⟩
    rw [htM] at hO12 hlc12 ⊢
    rw [htE]
    have htk : tkL ((idL ms).drop i) [] ((i + 1 : Nat) : Int) = (idL ms).drop (i + 1) := by rw [tkL, if_pos htE, hd, del, if_pos rfl]
    rw [htk] at h12
    refine ⟨_, _, _, _, _, _, _, _, _, _, _, _, _, _, _, _, _, _, _, _, _, _, _, _, rfl, ?_⟩
    have z12 := M12.size
    intro b13 f13 w14 A14
    have h14 := h12.keep0 A14.mod
    refine (yeR h14 rid).mono ?_
    rintro _ w15 ⟨_, rfl, ⟨s15, f15, p15, rfl, _, _⟩, M15⟩
    have h210 : twE ((idL ms).drop (i + 1)) [] ((i + 1 : Nat) : Int) = 210 := by
     have : lkp ((idL ms).drop (i + 1)) ((i + 1 : Nat) : Int) = none := by
      refine yhE.2 fun p hp e => ?_
      have hr := h11.rise
      rw [hd, List.pairwise_cons] at hr
      have := hr.1 p hp
      simp only at this
      omega
     rw [twE, this]
    rw [h210]
    refine ⟨_, _, _, _, _, _, _, _, _, _, _, _, _, _, _, _, _, _, _, _, _, _, _, _, rfl, yaH.of0 M15, ?_⟩
    intro b16 f16
    refine brF rfl ?_
    have hm12 := hm11.keepB M12 oL
    have K15 : Mod [] w12 w15 := A14.mod.go0 M15 (by simp)
    have hm15 := hm12.keep0 K15
    obtain ⟨l2, g1, y, hy, hym, gy⟩ := lx hm15
    refine (g1.sl MV.cs_len).ixW hy fun q hq => ?_
    intro w17 A17
    refine yrN (m := y.m) (s := y.s) (f := y.f) (p := y.p) (hq w17 A17.mod) ?_
    have K17 := K15.go0 A17.mod (by simp)
    refine (yhL (hO12.keep0 K17).at (gy.keep0 A17.mod).at (by omega)).mono ?_
    rintro _ w18 ⟨rfl, M18⟩
    have K18 := K17.go0 M18 (by simp)
    have z18 := K18.size
    refine ⟨_, rfl, yaH.of0 M18, brF (by rw [hym]; simp) (brF rfl ?_)⟩
    exact ys0 (ms.length - (i + 1)) (by omega) ⟨i + 1, rfl, by omega, h12.keep0 K18, hm12.keep0 K18, (N11.go0 M12 sL).go0 K18 (by simp), by omega, rfl⟩
  ·have hi : i = ms.length := by omega
   subst hi
   refine (ypO h10).mono ?_
   rintro _ w11 ⟨_, rfl, a11, n11, c11, rfl, hR11, M11⟩
   have hz : n11 = 0 := by rw [hR11.1, List.length_map, List.length_drop, yxX]; omega
   exact ⟨_, _, _, rfl, brT (by rw [hz]; rfl) (yFn (N10.go0 M11 (by simp)))⟩
 refine ysX (fun mm a7 n7 c7 x8 w' => ∃ (i : Nat) (ms : List PMail), x8 = i ∧ i ≤ 20 ∧ i ≤ lm.length ∧ ms.length ≤ i ∧ WiAt w' b 20 ms.length bl ba (idL ms) [] ∧ ycC w' w1.heap.size ⟨a7, n7, c7⟩ ms ∧ (∀ m ∈ ms, m.calls.length ≤ 12) ∧ Mod [] w w' ∧ w1.heap.size ≤ w'.heap.size ∧ mm = 20 - i) 20
  ⟨0, [], rfl, by omega, by omega, by simp, h1.keep0 M5, ⟨[], Row.fresh0 c5 f5, by simp, rfl⟩, by simp, M1.go0 M5 (by simp), s5, rfl⟩ ?_
 rintro mm a7 n7 c7 x8 w9 ⟨i, ms, rfl, hi, hil, hml, h9, hm9, hc9, N9, z9, rfl⟩
 refine yaC (fun hlt => ?_) fun hge => L3 (by omega) h9 hm9 hc9 N9 z9
 refine yaC (fun hlt20 => ?_) fun hge20 => L3 (by omega) h9 hm9 hc9 N9 z9
 obtain ⟨x, hx⟩ : ∃ x, lm[i]? = some x := ⟨_, List.getElem?_eq_getElem (by omega)⟩
 have hxr := hO x (List.mem_of_getElem? hx)
 refine (h.keep0 N9).ix hx fun q hq => ?_
 refine yrN (m := x.m) (s := x.s) (f := x.f) (p := x.p) hq ?_
 refine (yxI (hxr.keep0 N9)).mono ?_
 rintro _ w30 ⟨_, rfl, sa, fa2, pa, rfl, hA, M30⟩
 refine ⟨_, _, _, _, _, _, _, _, _, _, _, _, _, _, _, _, _, _, _, _, _, _, _, rfl, ?_⟩
 have z30 := M30.size
 intro b54 f54
 refine ((h.keep0 N9).keep0 M30).ixW hx fun q2 hq2 => ?_
 intro w56 A56
 have z56 := A56.mod.size
 refine yrN (m := x.m) (s := x.s) (f := x.f) (p := x.p) (hq2 w56 A56.mod) ?_
 have N56 : Mod [] w w56 := (N9.go0 M30 (by simp)).go0 A56.mod (by simp)
 refine (yxI (hxr.keep0 N56)).mono ?_
 rintro _ w80 ⟨_, rfl, sb, fb2, pb, rfl, hB, M80⟩
 refine ⟨_, _, _, _, _, _, _, _, _, _, _, _, _, _, _, _, _, _, _, _, _, _, _, rfl, yaH.of0 M80, ?_⟩
 have z80 := M80.size
 intro b104 f104 w105 A105
 have z105 := A105.mod.size
 have la12 := yxJ x.m
 have K105 : Mod [] w30 w105 := (A56.mod.go0 M80 (by simp)).go0 A105.mod (by simp)
 have K9 : Mod [] w9 w105 := M30.go0 K105 (by simp)
 have h105 := h9.keep0 K9
 have lb9 := yaJ h9.cells
 have ll9 := h9.lm.lt
 refine (ye3 h105 (hA.keep0 K105).at (by omega) (fun g => by have := yz1 g; omega) (by omega)).mono ?_
 rintro _ w106 ⟨rfl, M106, h106⟩
 have z106 := M106.size
 have kp106 : ∀ k ∈ [b54, b104], k ∉ [b, bl] := fun k hk => by simp at hk ⊢; omega
 refine ⟨_, _, rfl, yaH.of M106 fun k hk _ => kp106 k hk, ?_⟩
 have e1 : IntKind.wrap .i64 ((i : Int) + 1) = ((i + 1 : Nat) : Int) := by rw [yaF (by omega) (by omega)]; omega
 have N106 : Mod [] w w106 := (N9.go0 K9 (by simp)).go0 M106 sS
 refine yaB (fun g => ?_) fun g => ?_
 ·have g : ¬ yeH 20 (idL ms) (ylO x.m) = 0 := by simpa using g
  rw [if_neg g, if_neg g] at h106
  exact ykP (20 - (i + 1)) (by omega) ⟨i + 1, ms, e1, by omega, by omega, by omega, h106, (hm9.keep0 K9).keepB M106 oS, hc9, N106, by omega, rfl⟩
 have g : yeH 20 (idL ms) (ylO x.m) = 0 := by simpa using g
 rw [if_pos g, if_pos g] at h106
 rw [if_pos g]
 refine ycS fun b109 w110 c110 M110 f110 => ?_
 have z110 := M110.size
 obtain ⟨l2, g1, g2, g3⟩ := hm9
 have g1' : Row w110 w1.heap.size 37 17 MV.cs a7 n7 c7 l2 := ((g1.keep0 K9).keep M106 fun ad ha hk => by have := g1.base ad ha; have := oS _ hk; omega).keep0 M110
 have hl2 : l2.length = ms.length := by rw [← g3, List.length_map]
 obtain ⟨i0, hi0, hz0, hz1, hz2⟩ := info_parts yzH
 refine ybK (x := (⟨ylO x.m, sb, fb2, pb⟩ : MV)) g1' Tryz.underlying30 hi0 hz0 hz1 hz2 rfl (by decide) c110 rfl (MV.cs_one _) (by omega) (by unfold maxLen; omega) (by omega) fun a' c' w111 hR111 hM111 => ?_
 have M111 := hM111 _ (yb3 a7)
 have z111 := M111.size
 have r9 := yaT g1
 have r110 := yaT g1'
 have hn7 : n7 = ms.length := by have g11 : n7 = l2.length := g1.1; omega
 refine ⟨yaH.of M111 fun k hk _ hk' => by have := (r9 k hk').2.1; simp at hk; omega, brF (by rw [hn7]; simp) ?_⟩
 obtain ⟨lc, hlc, _, hcs⟩ := (hA.keep0 K105).calls
 have rc := yaT hA.calls.choose_spec.1
 have hsc : ∀ k ∈ yeL sa.a, w9.heap.size ≤ k ∧ k < w30.heap.size := fun k hk => by
  obtain ⟨lcx, gx, _⟩ := hA.calls
  obtain ⟨q1, q2, _⟩ := yaT gx k hk
  exact ⟨q1, q2⟩
 have hlc111 : Row w111 w9.heap.size 50 16 CV.cs sa.a sa.n sa.c lc := ((hlc.keep M106 fun ad ha hk => by have := hlc.base ad ha; simp at hk; omega).keep0 M110).keep M111 fun ad ha hk => by have := hlc.base ad ha; have := (r9 _ hk).2.1; omega
 have hcl : lc.length ≤ 12 := by have := congrArg List.length hcs; rw [List.length_map] at this; omega
 have hsn := hlc.1
 refine ysZ (fun mm x w' => ∃ (j : Nat) (lc' : List CV), x = j ∧ j ≤ lc.length ∧ lc'.length = lc.length ∧ Row w' w9.heap.size 50 16 CV.cs sa.a sa.n sa.c lc' ∧ Mod (yeL sa.a) w111 w' ∧ mm = lc.length - j) lc.length ⟨0, lc, rfl, by omega, rfl, hlc111, (Mod.refl _).less (by simp), rfl⟩ ?_
 rintro mm x2 w112 ⟨j, lc', rfl, hj, hll', hR', M112, rfl⟩
 refine yaC (fun hlt5 => ?_) fun hge5 => ?_
 ·obtain ⟨z, hz⟩ : ∃ z, lc'[j]? = some z := ⟨_, List.getElem?_eq_getElem (by omega)⟩
  refine Row.store1 (y := yFw z) (k := 1) (v := .int .i64 99) hR' CV.cs_len (by omega) rfl hz rfl fun ad w113 ha hR113 M113 => ?_
  have hbk : ad.block ∈ yeL sa.a := yb3 _ _ ha
  have hbl := hsc _ hbk
  refine ⟨yaH.of M113 (by simp; omega), ysY (lc.length - (j + 1)) (by omega) ⟨j + 1, lc'.set j (yFw z), by rw [yaF (by omega) (by omega)]; omega, by omega, by simp [hll'], hR113, (M112.trans M113).less fun i hi _ => by
   rcases List.mem_append.1 hi with hi | hi
   ·exact hi
   ·simp at hi; subst hi; exact hbk, rfl⟩⟩
 ·have z112 := M112.size
  have K112 : Mod (yeL a7 ++ yeL sa.a) w106 w112 := (((M110.trans M111).trans M112)).less fun k hk _ => by simpa using hk
  have T112 : Mod ([b, bl] ++ (yeL a7 ++ yeL sa.a)) w9 w112 := (((K9.trans M106).trans K112)).less fun k hk _ => by simpa [List.append_assoc] using hk
  refine ykP (20 - (i + 1)) (by omega) ⟨i + 1, ms ++ [ylO x.m], e1, by omega, by omega, by simp; omega, ?_, ⟨l2 ++ [⟨ylO x.m, sb, fb2, pb⟩], ?_, ?_, by simp [g3]⟩, ?_, ?_, by omega, rfl⟩
  ·rw [yB6, List.length_append]
   exact wk h106 K112 fun k hk => by
    rcases List.mem_append.1 hk with hk | hk
    ·exact (r9 k hk).1
    ·have := (hsc k hk).1; omega
  ·rw [show ms.length + 1 = n7 + 1 by omega] at *
   refine hR111.keep M112 fun ad ha hk => ?_
   obtain ⟨_, cur, hc⟩ := hR111.block ad ha
   obtain ⟨_, _, cur', hc'⟩ := yaT hlc111 _ hk
   rw [hc] at hc'; cases hc'
  ·intro y hy
   rcases List.mem_append.1 hy with hy | hy
   ·refine (g2 y hy).keepT T112 fun k hk cs T hT => ?_
    rcases List.mem_append.1 hk with hk | hk
    ·simp at hk
     rcases hk with rfl | rfl
     ·rw [h9.cells] at hT; cases hT; decide
     ·obtain ⟨es, cl, hb, _⟩ := h9.lm; rw [hb] at hT; cases hT
    ·rcases List.mem_append.1 hk with hk | hk
     ·obtain ⟨_, _, cur, hcur⟩ := r9 k hk; rw [hcur] at hT; cases hT; decide
     ·have := (hsc k hk).1; have := yaJ hT; omega
   ·simp at hy; subst hy
    have B1 : MailOwn w106 w56.heap.size (ylO x.m) sb fb2 pb := (hB.keep0 A105.mod).keepB M106 (by simp; omega)
    refine (B1.keepB K112 fun k hk => ?_).rebase (by omega)
    rcases List.mem_append.1 hk with hk | hk
    ·have := (r9 k hk).2.1; omega
    ·have := (hsc k hk).2; omega
  ·intro m hm
   rcases List.mem_append.1 hm with hm | hm
   ·exact hc9 m hm
   ·simp at hm; subst hm; exact la12
  ·exact N106.go0 K112 fun k hk => by
    rcases List.mem_append.1 hk with hk | hk
    ·have := (r9 k hk).1; omega
    ·have := (hsc k hk).1; have := N9.size; omega
end Go.Proofs.YtjellhflalbbmaaGreat
namespace Go.Proofs.YtjellhflalbbmaaGreat.wiresKeep
open Go.ChangeShapes Go.WideShapes Go.ChangeAt Go.RowKit
open Go.ChangeMaps (open_string shut_string)
set_option linter.unusedVariables false
theorem own : ownKnob Tryz.prog.godebug = none := by kernel_rfl
theorem laidOut : laidOutB Tryz.prog = true := by kernel_rfl
set_option maxRecDepth 100000 in
theorem lifted (os : Os) (started : os.Started) (H : Type) (enc : TypeId × Value → H) :
    ReturnsInHanded {} Tryz.checked os 4 .any (Rows.wiresKeepSpec.pre6 enc Tryz.prog Tryz.f4 Rows.wiresKeepRow.domain false) (Rows.wiresKeepSpec.post enc Tryz.prog Tryz.f4 false true false false) := by
  refine returnsInHanded_of_change (C := Tryz.checked) own started (by kernel_rfl) Tryz.func4
    (ChangeSpec.witness6 (enc := enc) (C := Tryz.checked) false ⟨#[], #[.slice none 0 0, .int .i64 0], []⟩ 8 (by kernel_rfl) (by kernel_rfl) (by kernel_rfl) (by kernel_rfl)) ?_
  intro W base args ds gs before hval0 hW hcnd _
  have hval : ∀ (j : Nat) t v, Tryz.f4.params[j]? = some t → args[j]? = some v → Value.okWide Tryz.prog W .any base t v := hval0
  have hW' := hW
  obtain ⟨p, q, hA0, hV, rfl, hfz, hnd⟩ := hW
  have hA : DataW.TrodAll enc Tryz.prog W 0 (fun _ => true) true Tryz.f4.params.toList args.toList ds p := hA0
  rw [Tryz.params4] at hA hval
  obtain ⟨v0, vs0, d0, ds0, p0, q0, hargs, rfl, rfl, h0, r0⟩ := trodAll_cons hA
  obtain ⟨v1, vs1, d1, ds1, p1, q1, rfl, rfl, rfl, h1, r1⟩ := trodAll_cons r0
  obtain ⟨rfl, rfl, rfl⟩ := trodAll_nil r1
  obtain rfl : args = #[v0, v1] := by cases args; simp_all
  obtain ⟨rfl, rfl⟩ := trodVars_none hV
  have k0 := h0
  have lt0 : ∀ x ∈ p0, x.block < W.heap.size := by obtain ⟨m, hm⟩ := k0; exact DataW.trod_lt m _ _ _ hm
  have k1 := h1
  have lt1 : ∀ x ∈ p1, x.block < W.heap.size := by obtain ⟨m, hm⟩ := k1; exact DataW.trod_lt m _ _ _ hm
  obtain ⟨b0, len0, cap0, rfl⟩ := okWide_slice Tryz.underlying30 (hval 0 30 v0 rfl rfl)
  obtain ⟨fuel0, hf0⟩ := h0
  obtain ⟨b0', len0', cap0', l0, e0, s0, g0, u0, c0⟩ := (yBH hf0).slice_inv Tryz.underlying30 (yzJ W)
  simp [Value.cells] at e0
  obtain ⟨rfl, rfl, rfl⟩ := e0
  rw [show Tryz.prog.cellsOf 37 = 17 by kernel_rfl] at s0
  obtain ⟨a1, rfl, _, _, w1⟩ := open_int Tryz.underlying3 (hval 1 3 v1 rfl rfl) h1
  clear hA0 hval0
  refine (yxY a1 W s0 g0).mono fun e W' ⟨he, hM⟩ => ?_
  have bel : Below W.heap.size W W' := hM.below (by simp)
  subst he
  exact ⟨_, rfl, _, _, _, [], _, [], hW', trodAll_mk1 (shut_bool Tryz.underlying4 _), (trodAll_cons_mk (Below.trod laidOut (by kernel_rfl) (of_decide_eq_true (by kernel_rfl)) k0 bel lt0) (trodAll_cons_mk (Below.trod laidOut (by kernel_rfl) (of_decide_eq_true (by kernel_rfl)) k1 bel lt1) trodAll_mk0)), rfl, bel.frame _, fun h => by cases h⟩
theorem over : Rows.wiresKeepRow.holds Tryz.pinned (OpenSpec.ofChange Rows.wiresKeepSpec) :=
  OpenClaim.holds_of_wide 4 Tryz.f4 rfl rfl rfl rfl rfl rfl rfl ⟨rfl, rfl, rfl, rfl, rfl⟩ rfl rfl rfl rfl rfl (by kernel_rfl) Tryz.func4 (by kernel_rfl)
    (of_decide_eq_true (by kernel_rfl)) (by unfold Func.isWrapper; first | (rw [if_pos (by decide +kernel)]; kernel_rfl) | (rw [if_neg (by decide +kernel)]; exact ⟨rfl, rfl⟩))
    (fun os started H enc _ => lifted os started H enc)
theorem proved : Rows.WiresKeepSaid := over
#print axioms proved
end Go.Proofs.YtjellhflalbbmaaGreat.wiresKeep
