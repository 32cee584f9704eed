/- Part 6 of the proof of PMGets. -/
import Derived.Test.YtkbcmppbjfpjmaaGreatPMGetsK5
namespace Go.Proofs.YtkbcmppbjfpjmaaGreat
open Go Go.RowKit
set_option linter.all false
structure RPS (w0 w : World) (b0 b1 b2 b3 b4 b5 : Nat) (s : ByteArray) (a e : Int) (x : PRep) (f p : Sl) (ev fv : Int) : Prop where
 hr : w.heap[b1]? = some (.cells #[.string s, .int .i64 a, .int .i64 e] QT)
 hx : w.heap[b2]? = some (.cells #[.int .i64 x.e, .int .i64 x.off, .int .i64 x.n, .int .i64 x.gen, .slice f.a f.n f.c, .slice p.a p.n p.c] 27)
 he : w.heap[b3]? = some (.cells #[.int .i64 ev] 3)
 hn : w.heap[b4]? = some (.cells #[.int .i64 fv] 3)
 fr : Row w w0.heap.size 55 5 yhV f.a f.n f.c x.found
 pr : Row w w0.heap.size 43 2 ylO p.a p.n p.c x.parts
 m : Mod [b1, b2, b3, b4, b5] w0 w
 lt : b0 < w0.heap.size ∧ b1 < w0.heap.size ∧ b2 < w0.heap.size ∧ b3 < w0.heap.size ∧ b4 < w0.heap.size ∧ b5 < w0.heap.size
 nd : [b5, b4, b3, b2, b1, b0].Nodup
 pos : ∃ n : Nat, a = n ∧ n ≤ s.size
def ydC (a e : Int) : Option Nat := if e = 0 then some a.toNat else none
theorem RPS.rd {w0 w : World} {b0 b1 b2 b3 b4 b5 : Nat} {s : ByteArray} {a e : Int} {x : PRep} {f p : Sl} {ev fv : Int} (H : RPS w0 w b0 b1 b2 b3 b4 b5 s a e x f p ev fv) : Rd QT s b1 (ydC a e) w := by
 obtain ⟨n, h1, h2⟩ := H.pos
 have h3 := H.hr
 rw [h1] at h3
 refine ⟨n, e, h3, h2, ?_⟩
 unfold ydC; rw [h1, Int.toNat_natCast]
theorem RPS.go {w0 w w' : World} {b0 b1 b2 b3 b4 b5 : Nat} {s : ByteArray} {a e : Int} {x : PRep} {f p : Sl} {ev fv : Int} {st : Option Nat} (H : RPS w0 w b0 b1 b2 b3 b4 b5 s a e x f p ev fv) (M : Mod [b1] w w') (hr : Rd QT s b1 st w') :
  ∃ a' e', RPS w0 w' b0 b1 b2 b3 b4 b5 s a' e' x f p ev fv ∧ st = ydC a' e' := by
 obtain ⟨n, e', h1, h2, h3⟩ := hr
 have nd := H.nd
 have lt := H.lt
 simp at nd
 refine ⟨n, e', ⟨h1, M.keep H.hx (by simp; omega), M.keep H.he (by simp; omega), M.keep H.hn (by simp; omega), H.fr.keep M fun ad ha hk => ?_, H.pr.keep M fun ad ha hk => ?_, H.m.via M (by simp), H.lt, H.nd, n, rfl, h2⟩, ?_⟩
 ·have := H.fr.base ad ha; simp at hk; omega
 ·have := H.pr.base ad ha; simp at hk; omega
 ·rw [h3]; unfold ydC; rw [Int.toNat_natCast]
theorem RPS.keep0 {w0 w w' : World} {b0 b1 b2 b3 b4 b5 : Nat} {s : ByteArray} {a e : Int} {x : PRep} {f p : Sl} {ev fv : Int} (H : RPS w0 w b0 b1 b2 b3 b4 b5 s a e x f p ev fv) (M : Mod [] w w') : RPS w0 w' b0 b1 b2 b3 b4 b5 s a e x f p ev fv :=
 ⟨M.keep0 H.hr, M.keep0 H.hx, M.keep0 H.he, M.keep0 H.hn, H.fr.keep0 M, H.pr.keep0 M, H.m.via M (by simp), H.lt, H.nd, H.pos⟩
def yv3 (w0 w : World) (s : ByteArray) (v : Value) : Prop :=
 (∃ (x : PRep) (f p : Sl), yc2 s x ∧ v = .tuple #[x.v f p, .int .i64 0] ∧ RepOwn w w0.heap.size x f p) ∨ ((∀ x, ¬ yc2 s x) ∧ v = .tuple #[ydS.v ya6 ya6, .int .i64 40])
set_option maxHeartbeats 4000000 in
theorem yJ9 {wS w0 wX : World} {b0 b1 b2 b3 b4 b5 : Nat} {s : ByteArray} {a e : Int} {x : PRep} {f p : Sl} {ev fv pv : Int} (H : RPS w0 wX b0 b1 b2 b3 b4 b5 s a e x f p ev fv) (h5 : wX.heap[b5]? = some (.cells #[.int .i64 pv] 3))
  (N : Mod [] wS wX) (hb : wS.heap.size ≤ b0) (hl : x.found.length ≤ 1000000 ∧ x.parts.length ≤ 1000000) (hB : wS.heap.size ≤ w0.heap.size) (hsp : ∀ y, yc2 s y → e = 0 ∧ x = y) :
  Calls pP 26 #[(.agg #[.int .i64 x.e, .int .i64 x.off, .int .i64 x.n, .int .i64 x.gen, .slice f.a f.n f.c, .slice p.a p.n p.c])] wX fun e w254 => ∃ (s255 : ByteArray) (x256 : Int), e = .returned (.tuple #[.string s255, .int .i64 x256]) ∧ yaR [b1, b2, b3, b4, b5] [(b0, 27)] [b0] wX w254 ∧ ∃ (s257 : ByteArray) (x258 x259 : Int), w254.heap[b1]? = some (.cells #[.string s257, .int .i64 x258, .int .i64 x259] 151) ∧ ∃ (x260 x261 x262 x263 : Int) (a264 : Option Addr) (n265 c266 : Nat) (a267 : Option Addr) (n268 c269 : Nat), w254.heap[b2]? = some (.cells #[.int .i64 x260, .int .i64 x261, .int .i64 x262, .int .i64 x263, .slice a264 n265 c266, .slice a267 n268 c269] 27) ∧ ∃ x270 : Int, w254.heap[b3]? = some (.cells #[.int .i64 x270] 3) ∧ ∃ x271 : Int, w254.heap[b4]? = some (.cells #[.int .i64 x271] 3) ∧ ∃ x272 : Int, w254.heap[b5]? = some (.cells #[.int .i64 x272] 3) ∧ brB (x259 != 0) ( ∀ w273, Adv [b0] [] w254 w273 → w273.heap[b1]? = some (.cells #[.string s257, .int .i64 x258, .int .i64 x259] 151) → w273.heap[b2]? = some (.cells #[.int .i64 x260, .int .i64 x261, .int .i64 x262, .int .i64 x263, .slice a264 n265 c266, .slice a267 n268 c269] 27) → w273.heap[b3]? = some (.cells #[.int .i64 x270] 3) → w273.heap[b4]? = some (.cells #[.int .i64 x271] 3) → w273.heap[b5]? = some (.cells #[.int .i64 x272] 3) → (fun v w' => yv3 wS w' s v ∧ Mod [] wS w') (.tuple #[(.agg #[.int .i64 0, .int .i64 0, .int .i64 0, .int .i64 0, .slice none 0 0, .slice none 0 0]), .int .i64 40]) w273) ( brB (x256 != 0) ( ∀ w274, Adv [b0] [] w254 w274 → w274.heap[b1]? = some (.cells #[.string s257, .int .i64 x258, .int .i64 x259] 151) → w274.heap[b2]? = some (.cells #[.int .i64 x260, .int .i64 x261, .int .i64 x262, .int .i64 x263, .slice a264 n265 c266, .slice a267 n268 c269] 27) → w274.heap[b3]? = some (.cells #[.int .i64 x270] 3) → w274.heap[b4]? = some (.cells #[.int .i64 x271] 3) → w274.heap[b5]? = some (.cells #[.int .i64 x272] 3) → (fun v w' => yv3 wS w' s v ∧ Mod [] wS w') (.tuple #[(.agg #[.int .i64 0, .int .i64 0, .int .i64 0, .int .i64 0, .slice none 0 0, .slice none 0 0]), .int .i64 40]) w274) ( brB (!(s255.toList == s.toList)) ( ∀ w275, Adv [b0] [] w254 w275 → w275.heap[b1]? = some (.cells #[.string s257, .int .i64 x258, .int .i64 x259] 151) → w275.heap[b2]? = some (.cells #[.int .i64 x260, .int .i64 x261, .int .i64 x262, .int .i64 x263, .slice a264 n265 c266, .slice a267 n268 c269] 27) → w275.heap[b3]? = some (.cells #[.int .i64 x270] 3) → w275.heap[b4]? = some (.cells #[.int .i64 x271] 3) → w275.heap[b5]? = some (.cells #[.int .i64 x272] 3) → (fun v w' => yv3 wS w' s v ∧ Mod [] wS w') (.tuple #[(.agg #[.int .i64 0, .int .i64 0, .int .i64 0, .int .i64 0, .slice none 0 0, .slice none 0 0]), .int .i64 40]) w275) ( ∀ w276, Adv [b0] [] w254 w276 → w276.heap[b1]? = some (.cells #[.string s257, .int .i64 x258, .int .i64 x259] 151) → w276.heap[b2]? = some (.cells #[.int .i64 x260, .int .i64 x261, .int .i64 x262, .int .i64 x263, .slice a264 n265 c266, .slice a267 n268 c269] 27) → w276.heap[b3]? = some (.cells #[.int .i64 x270] 3) → w276.heap[b4]? = some (.cells #[.int .i64 x271] 3) → w276.heap[b5]? = some (.cells #[.int .i64 x272] 3) → (fun v w' => yv3 wS w' s v ∧ Mod [] wS w') (.tuple #[(.agg #[.int .i64 x260, .int .i64 x261, .int .i64 x262, .int .i64 x263, .slice a264 n265 c266, .slice a267 n268 c269]), .int .i64 0]) w276))) := by
 have hA : RepOwn wX w0.heap.size x f p := ⟨H.fr, H.pr, hl.1, hl.2⟩
 refine (yu6 hA.at).mono ?_
 rintro _ w1 ⟨rfl, M1⟩
 have H1 := H.keep0 M1
 have lt := H.lt
 refine ⟨_, _, rfl, yaD.of0 M1, _, _, _, H1.hr, _, _, _, _, _, _, _, _, _, _, H1.hx, _, H1.he, _, H1.hn, _, M1.keep0 h5, ?_⟩
 have no : ∀ {w'}, Adv [b0] [] w1 w' → (∀ y, ¬ yc2 s y) → yv3 wS w' s (.tuple #[ydS.v ya6 ya6, .int .i64 40]) ∧ Mod [] wS w' := fun {w'} A h => ⟨.inr ⟨h, rfl⟩, (N.go0 M1 (by simp)).go0 A.mod (by simpa using hb)⟩
 refine yaB (fun g => fun w2 A2 _ _ _ _ _ => no A2 fun y hy => ?_) fun g => ?_
 ·have := (hsp y hy).1; simp [this] at g
 refine yaB (fun g2 => fun w2 A2 _ _ _ _ _ => no A2 fun y hy => ?_) fun g2 => ?_
 ·have := (hsp y hy).2; subst this; simp [hy.1] at g2
 have g2 : yfX x = 0 := by simpa using g2
 rw [if_pos g2, yfW]
 refine yaB (fun g3 => fun w2 A2 _ _ _ _ _ => no A2 fun y hy => ?_) fun g3 => fun w2 A2 _ _ _ _ _ => ?_
 ·have := (hsp y hy).2; subst this; simp [hy.eq] at g3
 ·have g3 : bs (ydW x) = s := by simpa using g3
  exact ⟨.inl ⟨x, f, p, yc2.of g2 g3.symm, rfl, ((hA.keep0 M1).keepB A2.mod (by simpa using lt.1)).rebase hB⟩, (N.go0 M1 (by simp)).go0 A2.mod (by simpa using hb)⟩
set_option maxHeartbeats 4000000 in
theorem yKa {wS w0 wX : World} {b0 b1 b2 b3 b4 b5 : Nat} {s : ByteArray} {a e : Int} {x : PRep} {f : Sl} {ev fv : Int} (H : RPS w0 wX b0 b1 b2 b3 b4 b5 s a e x f ya6 ev fv) (h5 : wX.heap[b5]? = some (.cells #[.int .i64 0] 3)) (hp0 : x.parts = [])
  (N : Mod [] wS w0) (hb : wS.heap.size ≤ b0 ∧ wS.heap.size ≤ b1 ∧ wS.heap.size ≤ b2 ∧ wS.heap.size ≤ b3 ∧ wS.heap.size ≤ b4 ∧ wS.heap.size ≤ b5) (hs : s.size ≤ 900000) (hl : x.found.length ≤ 1000000)
  (hsp : ∀ y, yc2 s y → e = 0 ∧ a = (yc1 y y.found.length).length ∧ x = ⟨y.e, y.off, y.n, y.gen, y.found, []⟩) :
  Calls pP 112 #[(.pointer (some ⟨b1, 0, none⟩)), (.pointer (some ⟨b5, 0, none⟩))] wX fun e w278 => e = .returned (.tuple #[]) ∧ yaR [b1, b2, b3, b4, b5] [(b0, 27)] [b0] wX w278 ∧ ∃ (s279 : ByteArray) (x280 x281 : Int), w278.heap[b1]? = some (.cells #[.string s279, .int .i64 x280, .int .i64 x281] 151) ∧ ∃ (x282 x283 x284 x285 : Int) (a286 : Option Addr) (n287 c288 : Nat) (a289 : Option Addr) (n290 c291 : Nat), w278.heap[b2]? = some (.cells #[.int .i64 x282, .int .i64 x283, .int .i64 x284, .int .i64 x285, .slice a286 n287 c288, .slice a289 n290 c291] 27) ∧ ∃ x292 : Int, w278.heap[b3]? = some (.cells #[.int .i64 x292] 3) ∧ ∃ x293 : Int, w278.heap[b4]? = some (.cells #[.int .i64 x293] 3) ∧ ∃ x294 : Int, w278.heap[b5]? = some (.cells #[.int .i64 x294] 3) ∧ yaK yhU (yi9 390 [0, 0, 1, 0, 1, 1, 1, 1, 1, 1, 1, 1]) (yJ7 [1, 1, 1, 1, 1, 1, 1, 1, 0, 1, 0] [] (ya4 pP Tryz.f81 [] (fun v w' => yv3 wS w' s v ∧ Mod [] wS w'))) (yf7 s b0 b1 b2 b3 b4 b5 (0, s279, x280, x281, x282, x283, x284, x285, a286, n287, c288, a289, n290, c291, x292, x293, x294)) w278 := by
 have sB := N.size
 have nd := H.nd
 simp at nd
 have lt := H.lt
 have hss : s.data.toList.length = s.size := by simp
 refine (yb4 (by omega) H.rd (off := 0) (x := 0) h5 rfl (by omega)).mono ?_
 rintro _ w1 ⟨rfl, hr1, hb1, M1⟩
 obtain ⟨pv, hpv⟩ : ∃ pv, pv = (ybT s.data.toList (ydC a e) 0).2 := ⟨_, rfl⟩
 have hb1 : w1.heap[b5]? = some (.cells #[.int .i64 pv] 3) := by rw [hb1, hpv]; rfl
 obtain ⟨a1, e1, H1, hst1⟩ : ∃ a1 e1, RPS w0 w1 b0 b1 b2 b3 b4 b5 s a1 e1 x f ya6 ev fv ∧ (ybT s.data.toList (ydC a e) 0).1 = ydC a1 e1 := by
  obtain ⟨n, e', h1, h2, h3⟩ := hr1
  refine ⟨n, e', ⟨h1, M1.keep H.hx (by simp; omega), M1.keep H.he (by simp; omega), M1.keep H.hn (by simp; omega), H.fr.keep M1 fun ad ha hk => ?_, by rw [hp0]; exact Row.nil .., H.m.via M1 (by simp), H.lt, H.nd, n, rfl, h2⟩, ?_⟩
  ·have := H.fr.base ad ha; simp at hk; omega
  ·rw [h3]; unfold ydC; rw [Int.toNat_natCast]
 refine ⟨rfl, yaD.ofE M1 fun k hk hl he => by simp at hk he ⊢; omega, _, _, _, H1.hr, _, _, _, _, _, _, _, _, _, _, H1.hx, _, H1.he, _, H1.hn, _, hb1, ?_⟩
 have hsp1 : ∀ y, yc2 s y → e1 = 0 ∧ a1 = (yeQ y 0).length ∧ x = ⟨y.e, y.off, y.n, y.gen, y.found, []⟩ ∧ pv = y.parts.length := fun y hy => by
  obtain ⟨h1, h2, h3⟩ := hsp y hy
  have h4 := hy.np
  have h5 : ydC a e = some (yc1 y y.found.length).length := by unfold ydC; rw [if_pos h1, h2, Int.toNat_natCast]
  rw [h5, h4] at hst1 hpv
  obtain ⟨n, hn1, hn2⟩ := H1.pos
  unfold ydC at hst1
  by_cases he : e1 = 0
  ·rw [if_pos he] at hst1
   simp only [Option.some.injEq] at hst1
   exact ⟨he, by omega, h3, hpv⟩
  ·rw [if_neg he] at hst1; cases hst1
 obtain ⟨ve, voff, vn, vgen, lf, lp⟩ := x
 have hp0 : lp = [] := hp0
 subst hp0
 refine yx6 (fun mm x16 s1 a e y0 y1 y2 y3 fa fn fc pa pn pc ev' fv' pv' w' => ∃ (i : Nat) (l : List PPart), x16 = i ∧ l.length = i ∧ i ≤ s.size + 1 ∧ (e = 0 → (i : Int) ≤ a) ∧ s1 = s ∧ y0 = ve ∧ y1 = voff ∧ y2 = vn ∧ y3 = vgen ∧ fa = f.a ∧ fn = f.n ∧ fc = f.c ∧ ev' = ev ∧ fv' = fv ∧ pv' = pv ∧ RPS w0 w' b0 b1 b2 b3 b4 b5 s a e ⟨ve, voff, vn, vgen, lf, l⟩ f ⟨pa, pn, pc⟩ ev fv ∧
  (∀ y, yc2 s y → e = 0 ∧ a = (yeQ y i).length ∧ l = y.parts.take i) ∧ mm = pv.toNat - i) pv.toNat
  ⟨0, [], rfl, rfl, by omega, fun h => by obtain ⟨n, h1, _⟩ := H1.pos; omega, rfl, rfl, rfl, rfl, rfl, rfl, rfl, rfl, rfl, rfl, rfl, H1, fun y hy => ⟨(hsp1 y hy).1, (hsp1 y hy).2.1, by simp⟩, by omega⟩ ?_
 rintro mm x16 s1 a2 e2 y0 y1 y2 y3 fa fn fc pa pn pc ev' fv' pv' w2 ⟨i, l, rfl, hli, his, hia, rfl, rfl, rfl, rfl, rfl, rfl, rfl, rfl, rfl, rfl, rfl, H2, hsp2, rfl⟩ _ _ _ _ h52
 have N2 : Mod [] wS w2 := (N.go0 H2.m (by simp; omega))
 have s2 := H2.m.size
 have ek : IntKind.wrap .i64 ((i : Int) + 1) = ((i + 1 : Nat) : Int) := by rw [yaG (by omega) (by omega)]; omega
 have fin : (∀ y, yc2 s1 y → l = y.parts) → _ := fun hd => yJ9 (a := a2) (pv := pv') H2 h52 N2 hb.1 ⟨hl, by show l.length ≤ _; omega⟩ sB fun y hy => ⟨(hsp2 y hy).1, by rw [hd y hy]; obtain ⟨h1, h2, h3, h4⟩ := hsp1 y hy; cases h3; rfl⟩
 refine yaC (fun hlt => ?_) fun hge => fin fun y hy => ?_
 rotate_left
 ·have h1 := (hsp1 y hy).2.2.2
  have h2 := (hsp2 y hy).2.2
  rw [h2, List.take_of_length_le (by omega)]
 refine yaB (fun g => ?_) fun g => fin fun y hy => ?_
 rotate_left
 ·have := (hsp2 y hy).1; simp [this] at g
 have g : e2 = 0 := by simpa using g
 intro b6 f6 w3 A3 _ _ _ _ _ hp3
 have l6 := A3.lt b6 (by simp)
 have s3 := A3.mod.size
 refine (yDF (by omega) (H2.rd.keep0 A3.mod) hp3 (by omega)).mono ?_
 rintro _ w4 ⟨rfl, hr4, hp4, M4⟩
 have K4 : Mod [b1] w2 w4 := (A3.mod.trans M4).less fun k hk hl => by simp at hk ⊢; omega
 obtain ⟨a4, e4, H4, hst4⟩ := H2.go K4 hr4
 have s4 := M4.size
 generalize hyp : (ydK s1.data.toList (ydC a2 e2)).2 = yp at hp4
 refine ⟨rfl, yaD.ofE M4 fun k hk hl he => by simp at hk he ⊢; omega, _, _, _, H4.hr, _, _, _, _, _, _, _, _, _, _, H4.hx, _, H4.he, _, H4.hn, _, K4.keep h52 (by simp; omega), _, _, hp4, ?_⟩
 have hrow : ∀ k ∈ yjJ pa, w0.heap.size ≤ k ∧ k < w2.heap.size := fun k hk => by
  have := yaW H2.pr k hk; exact ⟨this.1, this.2.1⟩
 refine yCt (f := ⟨pa, pn, pc⟩) (y := yp) H4.pr (by show l.length ≤ _; omega) (by have := H4.m.size; exact this) (fun b hb' hk => by have := hrow b hk; simp at hb'; omega) fun a' c' w5 hR5 M5 => ?_
 intro w6 A6 hr6 hx6 he6 hn6 h56 _
 have H6 : RPS w0 w6 b0 b1 b2 b3 b4 b5 s1 a4 e4 ⟨y0, y1, y2, y3, lf, l ++ [yp]⟩ f ⟨a', pn + 1, c'⟩ ev' fv' := by
  refine ⟨hr6, hx6, he6, hn6, ?_, hR5.keep A6.mod fun ad ha hk => ?_, (H4.m.via (M5.trans A6.mod) fun k hk hl => ?_), H4.lt, H4.nd, H4.pos⟩
  ·refine (H4.fr.keep M5 fun ad ha hk => ?_).keep A6.mod fun ad ha hk => ?_
   ·obtain ⟨_, cur, hc⟩ := H4.fr.block ad ha
    obtain ⟨_, _, cur2, hc2⟩ := yaW H4.pr _ hk
    rw [hc2] at hc; cases hc
   ·have := H4.fr.base ad ha; simp at hk; omega
  ·have := hR5.base ad ha; simp at hk; omega
  ·rcases List.mem_append.1 hk with hk | hk
   ·have := hrow k hk; omega
   ·simp at hk ⊢; omega
 refine yx5 (pv'.toNat - (i + 1)) (by omega) ⟨i + 1, l ++ [yp], ek, by simp [hli], ?_, fun he => ?_, rfl, rfl, rfl, rfl, rfl, rfl, rfl, rfl, rfl, rfl, rfl, H6, fun y hy => ?_, by omega⟩
 ·have := hia g
  obtain ⟨n, hn1, hn2⟩ := H2.pos
  omega
 ·
  have hst : ydC a4 e4 = some a4.toNat := by unfold ydC; rw [if_pos he]
  obtain ⟨n, hn1, hn2⟩ := H2.pos
  have h2 : ydC a2 e2 = some n := by unfold ydC; rw [if_pos g, hn1, Int.toNat_natCast]
  rw [hst, h2] at hst4
  unfold ydK at hst4
  simp only at hst4
  have := hia g
  cases hq : (yfT s1.data.toList (some n) ⟨#[]⟩).1 with
  | none => rw [hq] at hst4; simp [ybT] at hst4
  | some q =>
   have h5 := yBq hq
   rw [hq] at hst4
   have h6 := yCu hst4
   obtain ⟨n4, hn4, _⟩ := H4.pos
   omega
 ·obtain ⟨h1, h2, h3⟩ := hsp2 y hy
  have h4 := (hsp1 y hy).2.2.2
  obtain ⟨y0', hy0⟩ : ∃ z, y.parts[i]? = some z := ⟨_, List.getElem?_eq_getElem (by omega)⟩
  have h5 := hy.p hy0
  have h6 : ydC a2 e2 = some (yeQ y i).length := by unfold ydC; rw [if_pos h1, h2, Int.toNat_natCast]
  rw [h6, h5] at hst4 hyp
  obtain ⟨n4, hn4, _⟩ := H4.pos
  unfold ydC at hst4
  by_cases he : e4 = 0
  ·rw [if_pos he] at hst4
   simp only [Option.some.injEq] at hst4
   refine ⟨he, by omega, ?_⟩
   have hyp : y0' = yp := hyp
   rw [List.take_add_one, hy0, h3, hyp]; rfl
  ·rw [if_neg he] at hst4; cases hst4
theorem RPS.app {w0 w w1 w2 : World} {b0 b1 b2 b3 b4 b5 : Nat} {s : ByteArray} {a e : Int} {x : PRep} {f p : Sl} {ev fv : Int} {y : PFound} {a' : Option Addr} {n' c' : Nat} (H : RPS w0 w b0 b1 b2 b3 b4 b5 s a e x f p ev fv) (hp : p = ya6) (hx0 : x.parts = []) (hR : Row w1 w0.heap.size 55 5 yhV a' n' c' (x.found ++ [y])) (M : Mod (yjJ f.a) w w1) (A : Mod [b2] w1 w2)
  (hr : w2.heap[b1]? = some (.cells #[.string s, .int .i64 a, .int .i64 e] QT)) (hx : w2.heap[b2]? = some (.cells #[.int .i64 x.e, .int .i64 x.off, .int .i64 x.n, .int .i64 x.gen, .slice a' n' c', .slice p.a p.n p.c] 27))
  (he : w2.heap[b3]? = some (.cells #[.int .i64 ev] 3)) (hn : w2.heap[b4]? = some (.cells #[.int .i64 fv] 3)) :
  RPS w0 w2 b0 b1 b2 b3 b4 b5 s a e ⟨x.e, x.off, x.n, x.gen, x.found ++ [y], x.parts⟩ ⟨a', n', c'⟩ p ev fv := by
 have lt := H.lt
 have hrow : ∀ k ∈ yjJ f.a, w0.heap.size ≤ k := fun k hk => (yaW H.fr k hk).1
 refine ⟨hr, hx, he, hn, hR.keep A fun ad ha hk => ?_, by subst hp; rw [hx0]; exact Row.nil .., (H.m.via (M.trans A) fun k hk hl => ?_), H.lt, H.nd, H.pos⟩
 ·have := hR.base ad ha; simp at hk; omega
 ·rcases List.mem_append.1 hk with hk | hk
  ·have := hrow k hk; omega
  ·simp at hk ⊢; omega
set_option maxHeartbeats 8000000 in
theorem ytJ {s : ByteArray} (hs : s.size ≤ 900000) (w : World) :
  Calls pP 81 #[.string s] w fun e w' => ∃ v, e = .returned v ∧ yv3 w w' s v ∧ Mod [] w w' := by
 refine yGC ?_
 intro b0 g0 b1 g1 b2 g2 b3 g3 b4 g4 b5 g5 w7 A7 h2 h3 h4
 have s7 := A7.mod.size
 have nd := A7.nd
 have lt : b0 < w7.heap.size ∧ b1 < w7.heap.size ∧ b2 < w7.heap.size ∧ b3 < w7.heap.size ∧ b4 < w7.heap.size ∧ b5 < w7.heap.size := ⟨A7.lt b0 (by simp), A7.lt b1 (by simp), A7.lt b2 (by simp), A7.lt b3 (by simp), A7.lt b4 (by simp), A7.lt b5 (by simp)⟩
 refine ydO fun b8 w9 c9 M9 f9 => ?_
 intro w10 A10 hr10 hx10 he10 hn10
 have s9 := M9.size
 have s10 := A10.mod.size
 have l8 := ya0 c9
 have c10 := A10.mod.keep0 c9
 have N10 : Mod [] w w10 := (A7.mod.go0 M9 (by simp)).go0 A10.mod (by simp)
 have H0 : RPS w10 w10 b0 b1 b2 b3 b4 b5 s 0 0 ydS ya6 ya6 0 0 := ⟨hr10, hx10, he10, hn10, Row.nil .., Row.nil .., (Mod.refl _).less (by simp), by omega, nd, 0, rfl, by omega⟩
 refine yx3 (fun mm x28 s1 a e y0 y1 y2 y3 fa fn fc pa pn pc ev fv w' => ∃ k : Nat, x28 = k ∧ k ≤ 5 ∧ s1 = s ∧ y0 = 0 ∧ fa = none ∧ fn = 0 ∧ fc = 0 ∧ pa = none ∧ pn = 0 ∧ pc = 0 ∧ RPS w10 w' b0 b1 b2 b3 b4 b5 s a e ⟨y0, y1, y2, y3, [], []⟩ ya6 ya6 ev fv ∧
  (∀ x, yc2 s x → e = 0 ∧ a = (yhP x k).length ∧ [ev, y1, y2, y3, fv].take k = (hdI x).take k) ∧ mm = 5 - k) 5
  ⟨0, rfl, by omega, rfl, rfl, rfl, rfl, rfl, rfl, rfl, rfl, H0, fun x _ => ⟨rfl, by simp [yhP], rfl⟩, rfl⟩ ?_
 rintro mm x28 s1 a e y0 y1 y2 y3 fa fn fc pa pn pc ev fv w11 ⟨k, rfl, hk, rfl, rfl, rfl, rfl, rfl, rfl, rfl, rfl, H, hsp, rfl⟩ _ _ _ _
 have nd' := nd
 simp at nd'
 have hss : s1.data.toList.length = s1.size := by simp
 refine yaC (fun hlt => ?_) fun hge => ?_
 ·have hk5 : k < 5 := by omega
  have c11 := H.m.keep c10 (show b8 ∉ [b1, b2, b3, b4, b5] by simp; omega)
  have ek : IntKind.wrap .i64 ((k : Int) + 1) = ((k + 1 : Nat) : Int) := by rw [yaG (by omega) (by omega)]; omega
  have step : ∀ (x0 : Int) (x : PRep), yc2 s1 x → ∃ n, (hdI x)[k]? = some n ∧ ybT s1.data.toList (ydC a e) x0 = (some (yhP x (k + 1)).length, n) := fun x0 x hx => by
   obtain ⟨h1, h2, h3⟩ := hsp x hx
   obtain ⟨n, hn⟩ : ∃ n, (hdI x)[k]? = some n := ⟨_, List.getElem?_eq_getElem (by simpa [hdI] using hk5)⟩
   refine ⟨n, hn, ?_⟩
   have := hx.hd hn
   unfold ydC
   rw [if_pos h1, h2, Int.toNat_natCast]
   exact yDG this x0
  have done : ∀ {st : Option Nat} {v x0 : Int} {n : Nat} {e' z1 z2 z3 ev' fv' : Int}, ybT s1.data.toList (ydC a e) x0 = (st, v) → st = (if e' = 0 then some n else none) → ([ev', z1, z2, z3, fv'].take (k + 1) = [ev, y1, y2, y3, fv].take k ++ [v]) →
    ∀ x, yc2 s1 x → e' = 0 ∧ ((n : Nat) : Int) = (yhP x (k + 1)).length ∧ [ev', z1, z2, z3, fv'].take (k + 1) = (hdI x).take (k + 1) := fun {st v x0 n e' z1 z2 z3 ev' fv'} hv hst ht x hx => by
   obtain ⟨m, hm, hm2⟩ := step x0 x hx
   obtain ⟨_, _, hm3⟩ := hsp x hx
   rw [hv] at hm2
   simp only [Prod.mk.injEq] at hm2
   obtain ⟨e1, e2⟩ := hm2
   rw [e1] at hst
   have he : e' = 0 := by
    by_cases he : e' = 0
    ·exact he
    ·rw [if_neg he] at hst; cases hst
   rw [if_pos he] at hst
   refine ⟨he, by simp only [Option.some.injEq] at hst; omega, ?_⟩
   rw [ht, hm3, e2, List.take_add_one, hm]; rfl
  rcases (by omega : k = 0 ∨ k = 1 ∨ k = 2 ∨ k = 3 ∨ k = 4) with rfl | rfl | rfl | rfl | rfl
  ·refine ⟨_, rfl, by omega, by omega, yfB (x := some ⟨b3, 0, none⟩) (by rw [ya5, ya1 c11]; rfl) ?_⟩
   refine (yb4 (by omega) H.rd (off := 0) (x := ev) H.he rfl (by omega)).mono ?_
   rintro _ w12 ⟨rfl, hr, hb, M12⟩
   obtain ⟨n, e', h1, h2', h3'⟩ := hr
   have hb : w12.heap[b3]? = some (.cells #[.int .i64 (ybT s1.data.toList (ydC a e) ev).2] 3) := by rw [hb]; rfl
   have H' : RPS w10 w12 b0 b1 b2 b3 b4 b5 s1 n e' ⟨0, y1, y2, y3, [], []⟩ ya6 ya6 (ybT s1.data.toList (ydC a e) ev).2 fv := ⟨h1, M12.keep H.hx (by simp; omega), hb, M12.keep H.hn (by simp; omega), Row.nil .., Row.nil .., H.m.via M12 (by simp), H.lt, H.nd, n, rfl, h2'⟩
   exact ⟨rfl, yaD.ofE M12 fun k hk hl he => by simp at hk he ⊢; omega, _, _, _, h1, _, _, _, _, _, _, _, _, _, _, H'.hx, _, H'.he, _, H'.hn, ye6 (5 - (0 + 1)) (by omega) ⟨0 + 1, ek, by omega, rfl, rfl, rfl, rfl, rfl, rfl, rfl, rfl, H', done rfl h3' rfl, rfl⟩⟩
  ·refine ⟨_, rfl, by omega, by omega, yfB (x := some ⟨b2, 1, none⟩) (by rw [ya5, ya1 c11]; rfl) ?_⟩
   refine (yb4 (by omega) H.rd (off := 1) (x := y1) H.hx rfl (by omega)).mono ?_
   rintro _ w12 ⟨rfl, hr, hb, M12⟩
   obtain ⟨n, e', h1, h2', h3'⟩ := hr
   have H' : RPS w10 w12 b0 b1 b2 b3 b4 b5 s1 n e' ⟨0, (ybT s1.data.toList (ydC a e) y1).2, y2, y3, [], []⟩ ya6 ya6 ev fv := ⟨h1, by rw [hb]; rfl, M12.keep H.he (by simp; omega), M12.keep H.hn (by simp; omega), Row.nil .., Row.nil .., H.m.via M12 (by simp), H.lt, H.nd, n, rfl, h2'⟩
   exact ⟨rfl, yaD.ofE M12 fun k hk hl he => by simp at hk he ⊢; omega, _, _, _, h1, _, _, _, _, _, _, _, _, _, _, H'.hx, _, H'.he, _, H'.hn, ye6 (5 - (1 + 1)) (by omega) ⟨1 + 1, ek, by omega, rfl, rfl, rfl, rfl, rfl, rfl, rfl, rfl, H', done rfl h3' rfl, rfl⟩⟩
  ·refine ⟨_, rfl, by omega, by omega, yfB (x := some ⟨b2, 2, none⟩) (by rw [ya5, ya1 c11]; rfl) ?_⟩
   refine (yb4 (by omega) H.rd (off := 2) (x := y2) H.hx rfl (by omega)).mono ?_
   rintro _ w12 ⟨rfl, hr, hb, M12⟩
   obtain ⟨n, e', h1, h2', h3'⟩ := hr
   have H' : RPS w10 w12 b0 b1 b2 b3 b4 b5 s1 n e' ⟨0, y1, (ybT s1.data.toList (ydC a e) y2).2, y3, [], []⟩ ya6 ya6 ev fv := ⟨h1, by rw [hb]; rfl, M12.keep H.he (by simp; omega), M12.keep H.hn (by simp; omega), Row.nil .., Row.nil .., H.m.via M12 (by simp), H.lt, H.nd, n, rfl, h2'⟩
   exact ⟨rfl, yaD.ofE M12 fun k hk hl he => by simp at hk he ⊢; omega, _, _, _, h1, _, _, _, _, _, _, _, _, _, _, H'.hx, _, H'.he, _, H'.hn, ye6 (5 - (2 + 1)) (by omega) ⟨2 + 1, ek, by omega, rfl, rfl, rfl, rfl, rfl, rfl, rfl, rfl, H', done rfl h3' rfl, rfl⟩⟩
  ·refine ⟨_, rfl, by omega, by omega, yfB (x := some ⟨b2, 3, none⟩) (by rw [ya5, ya1 c11]; rfl) ?_⟩
   refine (yb4 (by omega) H.rd (off := 3) (x := y3) H.hx rfl (by omega)).mono ?_
   rintro _ w12 ⟨rfl, hr, hb, M12⟩
   obtain ⟨n, e', h1, h2', h3'⟩ := hr
   have H' : RPS w10 w12 b0 b1 b2 b3 b4 b5 s1 n e' ⟨0, y1, y2, (ybT s1.data.toList (ydC a e) y3).2, [], []⟩ ya6 ya6 ev fv := ⟨h1, by rw [hb]; rfl, M12.keep H.he (by simp; omega), M12.keep H.hn (by simp; omega), Row.nil .., Row.nil .., H.m.via M12 (by simp), H.lt, H.nd, n, rfl, h2'⟩
   exact ⟨rfl, yaD.ofE M12 fun k hk hl he => by simp at hk he ⊢; omega, _, _, _, h1, _, _, _, _, _, _, _, _, _, _, H'.hx, _, H'.he, _, H'.hn, ye6 (5 - (3 + 1)) (by omega) ⟨3 + 1, ek, by omega, rfl, rfl, rfl, rfl, rfl, rfl, rfl, rfl, H', done rfl h3' rfl, rfl⟩⟩
  ·refine ⟨_, rfl, by omega, by omega, yfB (x := some ⟨b4, 0, none⟩) (by rw [ya5, ya1 c11]; rfl) ?_⟩
   refine (yb4 (by omega) H.rd (off := 0) (x := fv) H.hn rfl (by omega)).mono ?_
   rintro _ w12 ⟨rfl, hr, hb, M12⟩
   obtain ⟨n, e', h1, h2', h3'⟩ := hr
   have hb : w12.heap[b4]? = some (.cells #[.int .i64 (ybT s1.data.toList (ydC a e) fv).2] 3) := by rw [hb]; rfl
   have H' : RPS w10 w12 b0 b1 b2 b3 b4 b5 s1 n e' ⟨0, y1, y2, y3, [], []⟩ ya6 ya6 ev (ybT s1.data.toList (ydC a e) fv).2 := ⟨h1, M12.keep H.hx (by simp; omega), M12.keep H.he (by simp; omega), hb, Row.nil .., Row.nil .., H.m.via M12 (by simp), H.lt, H.nd, n, rfl, h2'⟩
   exact ⟨rfl, yaD.ofE M12 fun k hk hl he => by simp at hk he ⊢; omega, _, _, _, h1, _, _, _, _, _, _, _, _, _, _, H'.hx, _, H'.he, _, H'.hn, ye6 (5 - (4 + 1)) (by omega) ⟨4 + 1, ek, by omega, rfl, rfl, rfl, rfl, rfl, rfl, rfl, rfl, H', done rfl h3' rfl, rfl⟩⟩
 have hk5 : k = 5 := by omega
 subst hk5
 intro w13 A13 hr13 hx13 he13 hn13
 have hb0 : w.heap.size ≤ b0 ∧ w.heap.size ≤ b1 ∧ w.heap.size ≤ b2 ∧ w.heap.size ≤ b3 ∧ w.heap.size ≤ b4 ∧ w.heap.size ≤ b5 := ⟨g0, g1, g2, g3, g4, g5⟩
 have H13 : RPS w10 w13 b0 b1 b2 b3 b4 b5 s1 a e ⟨ev, y1, y2, y3, [], []⟩ ya6 ya6 ev fv := ⟨hr13, hx13, he13, hn13, Row.nil .., Row.nil .., H.m.via A13.mod (by simp), H.lt, H.nd, H.pos⟩
 have hsp13 : ∀ x, yc2 s1 x → e = 0 ∧ a = (yc1 x 0).length ∧ [ev, y1, y2, y3, fv] = hdI x := fun x hx => by
  obtain ⟨h1, h2, h3⟩ := hsp x hx
  rw [yv2] at h2
  exact ⟨h1, h2, by simpa [hdI] using h3⟩
 clear hsp H
 refine yx4 (fun mm x11 s2 a e z0 z1 z2 z3 fa fn fc pa pn pc ev' fv' w' => ∃ (i : Nat) (l : List PFound), x11 = i ∧ l.length = i ∧ i ≤ s1.size + 1 ∧ (e = 0 → (i : Int) ≤ a) ∧ s2 = s1 ∧ z0 = ev ∧ z1 = y1 ∧ z2 = y2 ∧ z3 = y3 ∧ pa = none ∧ pn = 0 ∧ pc = 0 ∧ ev' = ev ∧ fv' = fv ∧ RPS w10 w' b0 b1 b2 b3 b4 b5 s1 a e ⟨ev, y1, y2, y3, l, []⟩ ⟨fa, fn, fc⟩ ya6 ev fv ∧
  (∀ x, yc2 s1 x → e = 0 ∧ a = (yc1 x i).length ∧ l = x.found.take i) ∧ mm = fv.toNat - i) fv.toNat
  ⟨0, [], rfl, rfl, by omega, fun h => by obtain ⟨n, h1, _⟩ := H13.pos; omega, rfl, rfl, rfl, rfl, rfl, rfl, rfl, rfl, rfl, rfl, H13, fun x hx => ⟨(hsp13 x hx).1, (hsp13 x hx).2.1, by simp⟩, by omega⟩ ?_
 rintro mm x11 s2 a2 e2 z0 z1 z2 z3 fa fn fc pa pn pc ev' fv' w14 ⟨i, l, rfl, hli, his, hia, rfl, rfl, rfl, rfl, rfl, rfl, rfl, rfl, rfl, rfl, H, hsp, rfl⟩ _ _ _ _
 have s14 := H.m.size
 have hd13 : ∀ x, yc2 s2 x → ev' = x.e ∧ z1 = x.off ∧ z2 = x.n ∧ z3 = x.gen ∧ fv' = x.found.length := fun x hx => by
  have := (hsp13 x hx).2.2
  simpa [hdI] using this
 have ek : IntKind.wrap .i64 ((i : Int) + 1) = ((i + 1 : Nat) : Int) := by rw [yaG (by omega) (by omega)]; omega
 have out : ∀ {w15}, Adv [] [] w14 w15 → w15.heap[b5]? = some (.cells #[.int .i64 0] 3) → (∀ x, yc2 s2 x → i = x.found.length) → _ := fun {w15} A15 h5 hd => yKa (wS := w) (wX := w15) (H.keep0 A15.mod) h5 rfl N10 hb0 hs (show l.length ≤ _ by omega) fun x hx => by
  obtain ⟨h1, h2, h3⟩ := hsp x hx
  obtain ⟨q1, q2, q3, q4, q5⟩ := hd13 x hx
  have h4 := hd x hx
  refine ⟨h1, by rw [h2, h4], ?_⟩
  rw [h3, h4, List.take_length, q1, q2, q3, q4]
 refine yaC (fun hlt => ?_) fun hge => ?_
 rotate_left
 ·intro w15 A15 _ _ _ _ h5
  refine out A15 h5 fun x hx => ?_
  obtain ⟨_, _, h3⟩ := hsp x hx
  have := congrArg List.length h3
  have h4 := (hd13 x hx).2.2.2.2
  rw [List.length_take] at this; omega
 refine yaB (fun g => ?_) fun g => ?_
 rotate_left
 ·intro w15 A15 _ _ _ _ h5
  refine out A15 h5 fun x hx => ?_
  have := (hsp x hx).1; simp [this] at g
 have g : e2 = 0 := by simpa using g
 intro b6 f6 w15 A15 _ _ _ _ hf15
 have l6 := A15.lt b6 (by simp)
 have s15 := A15.mod.size
 refine (yb4 (by omega) (H.rd.keep0 A15.mod) (off := 0) (x := 0) hf15 rfl (by omega)).mono ?_
 rintro _ w16 ⟨rfl, hr16, hf16, M16⟩
 have s16 := M16.size
 have K16 : Mod [b1] w14 w16 := (A15.mod.trans M16).less fun k hk hl => by simp at hk ⊢; omega
 obtain ⟨a16, e16, H16, hst16⟩ := H.go K16 hr16
 obtain ⟨n16, rfl, hn16⟩ := H16.pos
 obtain ⟨off, hoff⟩ : ∃ off, off = (ybT s2.data.toList (ydC a2 e2) 0).2 := ⟨_, rfl⟩
 have hf16 : w16.heap[b6]? = some (.cells #[.int .i64 off, .bool false, .string ByteArray.empty, .bool false, .string ByteArray.empty] 55) := by rw [hf16, hoff]; rfl
 have hsp16 : ∀ x, yc2 s2 x → ∃ y, x.found[i]? = some y ∧ e16 = 0 ∧ off = y.off ∧ yeI s2.data.toList n16 = some (y.r, (yc1 x (i + 1)).length) := fun x hx => by
  obtain ⟨h1, h2, h3⟩ := hsp x hx
  have h4 := (hd13 x hx).2.2.2.2
  obtain ⟨y, hy⟩ : ∃ y, x.found[i]? = some y := ⟨_, List.getElem?_eq_getElem (by omega)⟩
  obtain ⟨h5, h6⟩ := hx.f hy
  have h7 : ydC a2 e2 = some (yc1 x i).length := by unfold ydC; rw [if_pos h1, h2, Int.toNat_natCast]
  rw [h7, h5] at hst16 hoff
  unfold ydC at hst16
  by_cases he : e16 = 0
  ·rw [if_pos he, Int.toNat_natCast] at hst16
   simp only [Option.some.injEq] at hst16
   exact ⟨y, hy, he, hoff, by rw [← hst16]; exact h6⟩
  ·rw [if_neg he] at hst16; cases hst16
 have hup16 : e16 = 0 → (i : Int) + 1 ≤ n16 := fun he => by
  have h1 : ydC ((n16 : Nat) : Int) e16 = some n16 := by unfold ydC; rw [if_pos he, Int.toNat_natCast]
  obtain ⟨n2, hn2, hn3⟩ := H.pos
  have h2 : ydC a2 e2 = some n2 := by unfold ydC; rw [if_pos g, hn2, Int.toNat_natCast]
  rw [h1, h2] at hst16
  have h3 := yCu hst16
  have := hia g
  omega
 have hrow : ∀ k ∈ yjJ fa, w10.heap.size ≤ k ∧ k < w14.heap.size := fun k hk => by
  have := yaW H.fr k hk; exact ⟨this.1, this.2.1⟩
 refine ⟨rfl, yaD.ofE M16 fun k hk hl he => by simp at hk he ⊢; omega, _, _, _, H16.hr, _, _, _, _, _, _, _, _, _, _, H16.hx, _, H16.he, _, H16.hn, _, _, _, _, _, hf16, ?_, ?_⟩
 ·intro b9 f9 w17 A17 _ _ _ _ _
  have l9 := A17.lt b9 (by simp)
  have s17 := A17.mod.size
  refine (ym5 s2 n16 (by omega) hn16 w17).mono ?_
  rintro _ w18 ⟨_, rfl, ⟨r, to, e18, rfl, hrec⟩, M18⟩
  have s18 := M18.size
  have K18 : Mod [b1] w14 w18 := ((K16.trans A17.mod).trans M18).less (by simp)
  have H18 := (H16.keep0 A17.mod).keep0 M18
  have hf18 := M18.keep0 (A17.mod.keep0 hf16)
  refine ⟨_, _, _, _, _, _, rfl, yaD.of0 M18, _, _, _, H18.hr, _, _, _, _, _, _, _, _, _, _, H18.hx, _, H18.he, _, H18.hn, _, _, _, _, _, hf18, ?_⟩
  intro w19 A19 _ _ _ _ _
  have s19 := A19.mod.size
  have K19 : Mod [b1] w14 w19 := (K18.trans A19.mod).less fun k hk hl => by simp at hk ⊢; omega
  have hf19 := A19.mod.keep hf18 (show b6 ∉ [b9] by simp; omega)
  have hr19 : Rd QT s2 b1 (ydC ((n16 : Nat) : Int) e16) w19 := H18.rd.keep A19.mod (by simp; omega)
  refine (yeE hr19 (to := to) (e1 := e18) (by
   rcases hrec with ⟨_, h⟩ | ⟨_, h, _⟩
   ·have := ykS h; omega
   ·omega)).mono ?_
  rintro _ w20 ⟨rfl, M20, hr20⟩
  have s20 := M20.size
  have K20 : Mod [b1] w14 w20 := (K19.trans M20).less (by simp)
  have hf20 := M20.keep hf19 (show b6 ∉ [b1] by simp; omega)
  obtain ⟨a20, e20, H20, hst20⟩ := H.go K20 hr20
  refine ⟨_, rfl, yaD.ofE M20 fun k hk hl he => by simp at hk he ⊢; omega, _, _, _, H20.hr, _, _, _, _, _, _, _, _, _, _, H20.hx, _, H20.he, _, H20.hn, _, _, _, _, _, hf20, ?_⟩
  have hc20 : e20 = 0 → e16 = 0 ∧ e18 = 0 ∧ a20 = to ∧ (i : Int) + 1 ≤ a20 := fun he => by
   obtain ⟨n20, hn20, _⟩ := H20.pos
   have h1 : ydC a20 e20 = some n20 := by unfold ydC; rw [if_pos he, hn20, Int.toNat_natCast]
   rw [h1] at hst20
   by_cases hc : (ydC ((n16 : Nat) : Int) e16).isSome = true ∧ e18 = 0
   ·rw [if_pos hc] at hst20
    have h16 : e16 = 0 := by
     by_cases h : e16 = 0
     ·exact h
     ·have := hc.1; unfold ydC at this; rw [if_neg h] at this; cases this
    rcases hrec with ⟨_, h⟩ | ⟨h, _, _⟩
    ·have h2 := ykS h
     have h3 := hup16 h16
     simp only [Option.some.injEq] at hst20
     exact ⟨h16, hc.2, by omega, by omega⟩
    ·exact absurd hc.2 h
   ·rw [if_neg hc] at hst20; cases hst20
  have hsp20 : ∀ x, yc2 s2 x → e20 = 0 ∧ a20 = (yc1 x (i + 1)).length ∧ e16 = 0 ∧ e18 = 0 ∧ l ++ [⟨off, r⟩] = x.found.take (i + 1) := fun x hx => by
   obtain ⟨y, hy, h16, h1, h2⟩ := hsp16 x hx
   rcases hrec with ⟨h3, h4⟩ | ⟨_, _, h4⟩
   ·rw [h2] at h4
    simp only [Option.some.injEq, Prod.mk.injEq] at h4
    have h5 : (ydC ((n16 : Nat) : Int) e16).isSome = true := by unfold ydC; rw [if_pos h16]; rfl
    rw [if_pos ⟨h5, h3⟩] at hst20
    obtain ⟨n20, hn20, _⟩ := H20.pos
    unfold ydC at hst20
    by_cases he : e20 = 0
    ·rw [if_pos he] at hst20
     simp only [Option.some.injEq] at hst20
     refine ⟨he, by omega, h16, h3, ?_⟩
     rw [List.take_add_one, hy, (hsp x hx).2.2, h1, ← h4.1]; rfl
    ·rw [if_neg he] at hst20; cases hst20
   ·rw [h2] at h4; cases h4
  refine yaB (fun gm => ?_) fun gm => ?_
  rotate_left
  ·
   refine yf8 (f := ⟨fa, fn, fc⟩) (y := ⟨off, ⟨false, ByteArray.empty, false, ByteArray.empty⟩⟩) H20.fr (show l.length ≤ _ by omega) H20.m.size (fun b hb' hk => by have := hrow b hk; simp at hb'; omega) fun a' c' w22 hR M22 => ?_
   intro w23 A23 hr hx he hn _
   have H23 := H20.app rfl rfl hR M22 A23.mod hr hx he hn
   refine ygK (fv'.toNat - (i + 1)) (by omega) ⟨i + 1, l ++ [⟨off, ⟨false, ByteArray.empty, false, ByteArray.empty⟩⟩], ek, by simp [hli], ?_, fun he => (hc20 he).2.2.2, rfl, rfl, rfl, rfl, rfl, rfl, rfl, rfl, rfl, rfl, H23, fun x hx => ?_, by omega⟩
   ·have := hia g
    obtain ⟨n, hn1, hn2⟩ := H.pos
    omega
   ·obtain ⟨_, _, h16, h18, _⟩ := hsp20 x hx
    have : (ydC ((n16 : Nat) : Int) e16).isSome = true := by unfold ydC; rw [if_pos h16]; rfl
    rw [this, h18] at gm; cases gm
  ·intro w21 A21 hr21 hx21 he21 hn21 hf21
   have K21 : Mod [b1] w14 w21 := (K20.trans A21.mod).less fun k hk hl => by simp at hk ⊢; omega
   have s21 := A21.mod.size
   refine yf8 (f := ⟨fa, fn, fc⟩) (y := ⟨off, r⟩) (H.fr.keep K21 fun ad ha hk => by have := H.fr.base ad ha; simp at hk; omega) (show l.length ≤ _ by omega) (by have := H.m.size; omega) (fun b hb' hk => by have := hrow b hk; simp at hb'; omega) fun a' c' w22 hR M22 => ?_
   intro w23 A23 hr hx he hn _
   have H21 : RPS w10 w21 b0 b1 b2 b3 b4 b5 s2 a20 e20 ⟨ev', z1, z2, z3, l, []⟩ ⟨fa, fn, fc⟩ ya6 ev' fv' := ⟨hr21, hx21, he21, hn21, H.fr.keep K21 fun ad ha hk => by have := H.fr.base ad ha; simp at hk; omega, Row.nil .., H.m.via K21 (by simp), H.lt, H.nd, H20.pos⟩
   have H23 := H21.app rfl rfl hR M22 A23.mod hr hx he hn
   refine ygK (fv'.toNat - (i + 1)) (by omega) ⟨i + 1, l ++ [⟨off, r⟩], ek, by simp [hli], ?_, fun he => (hc20 he).2.2.2, rfl, rfl, rfl, rfl, rfl, rfl, rfl, rfl, rfl, rfl, H23, fun x hx => ⟨(hsp20 x hx).1, (hsp20 x hx).2.1, (hsp20 x hx).2.2.2.2⟩, by omega⟩
   have := hia g
   obtain ⟨n, hn1, hn2⟩ := H.pos
   omega
 ·intro w17 A17 _ _ _ _ _
  have s17 := A17.mod.size
  refine (ym5 s2 n16 (by omega) hn16 w17).mono ?_
  rintro _ w18 ⟨_, rfl, ⟨r, to, e18, rfl, hrec⟩, M18⟩
  have s18 := M18.size
  have K18 : Mod [b1] w14 w18 := ((K16.trans A17.mod).trans M18).less (by simp)
  have H18 := (H16.keep0 A17.mod).keep0 M18
  have hf18 := M18.keep0 (A17.mod.keep0 hf16)
  refine ⟨_, _, _, _, _, _, rfl, yaD.of0 M18, _, _, _, H18.hr, _, _, _, _, _, _, _, _, _, _, H18.hx, _, H18.he, _, H18.hn, _, _, _, _, _, hf18, ?_⟩
  intro b9 f9 w19 A19 _ _ _ _ _
  have l9 := A19.lt b9 (by simp)
  have s19 := A19.mod.size
  have K19 : Mod [b1] w14 w19 := (K18.trans A19.mod).less fun k hk hl => by simp at hk ⊢; omega
  have hf19 := A19.mod.keep0 hf18
  have hr19 : Rd QT s2 b1 (ydC ((n16 : Nat) : Int) e16) w19 := H18.rd.keep0 A19.mod
  refine (yeE hr19 (to := to) (e1 := e18) (by
   rcases hrec with ⟨_, h⟩ | ⟨_, h, _⟩
   ·have := ykS h; omega
   ·omega)).mono ?_
  rintro _ w20 ⟨rfl, M20, hr20⟩
  have s20 := M20.size
  have K20 : Mod [b1] w14 w20 := (K19.trans M20).less (by simp)
  have hf20 := M20.keep hf19 (show b6 ∉ [b1] by simp; omega)
  obtain ⟨a20, e20, H20, hst20⟩ := H.go K20 hr20
  refine ⟨_, rfl, yaD.ofE M20 fun k hk hl he => by simp at hk he ⊢; omega, _, _, _, H20.hr, _, _, _, _, _, _, _, _, _, _, H20.hx, _, H20.he, _, H20.hn, _, _, _, _, _, hf20, ?_⟩
  have hc20 : e20 = 0 → e16 = 0 ∧ e18 = 0 ∧ a20 = to ∧ (i : Int) + 1 ≤ a20 := fun he => by
   obtain ⟨n20, hn20, _⟩ := H20.pos
   have h1 : ydC a20 e20 = some n20 := by unfold ydC; rw [if_pos he, hn20, Int.toNat_natCast]
   rw [h1] at hst20
   by_cases hc : (ydC ((n16 : Nat) : Int) e16).isSome = true ∧ e18 = 0
   ·rw [if_pos hc] at hst20
    have h16 : e16 = 0 := by
     by_cases h : e16 = 0
     ·exact h
     ·have := hc.1; unfold ydC at this; rw [if_neg h] at this; cases this
    rcases hrec with ⟨_, h⟩ | ⟨h, _, _⟩
    ·have h2 := ykS h
     have h3 := hup16 h16
     simp only [Option.some.injEq] at hst20
     exact ⟨h16, hc.2, by omega, by omega⟩
    ·exact absurd hc.2 h
   ·rw [if_neg hc] at hst20; cases hst20
  have hsp20 : ∀ x, yc2 s2 x → e20 = 0 ∧ a20 = (yc1 x (i + 1)).length ∧ e16 = 0 ∧ e18 = 0 ∧ l ++ [⟨off, r⟩] = x.found.take (i + 1) := fun x hx => by
   obtain ⟨y, hy, h16, h1, h2⟩ := hsp16 x hx
   rcases hrec with ⟨h3, h4⟩ | ⟨_, _, h4⟩
   ·rw [h2] at h4
    simp only [Option.some.injEq, Prod.mk.injEq] at h4
    have h5 : (ydC ((n16 : Nat) : Int) e16).isSome = true := by unfold ydC; rw [if_pos h16]; rfl
    rw [if_pos ⟨h5, h3⟩] at hst20
    obtain ⟨n20, hn20, _⟩ := H20.pos
    unfold ydC at hst20
    by_cases he : e20 = 0
    ·rw [if_pos he] at hst20
     simp only [Option.some.injEq] at hst20
     refine ⟨he, by omega, h16, h3, ?_⟩
     rw [List.take_add_one, hy, (hsp x hx).2.2, h1, ← h4.1]; rfl
    ·rw [if_neg he] at hst20; cases hst20
   ·rw [h2] at h4; cases h4
  refine yaB (fun gm => ?_) fun gm => ?_
  rotate_left
  ·
   refine yf8 (f := ⟨fa, fn, fc⟩) (y := ⟨off, ⟨false, ByteArray.empty, false, ByteArray.empty⟩⟩) H20.fr (show l.length ≤ _ by omega) H20.m.size (fun b hb' hk => by have := hrow b hk; simp at hb'; omega) fun a' c' w22 hR M22 => ?_
   intro w23 A23 hr hx he hn _
   have H23 := H20.app rfl rfl hR M22 A23.mod hr hx he hn
   refine ygK (fv'.toNat - (i + 1)) (by omega) ⟨i + 1, l ++ [⟨off, ⟨false, ByteArray.empty, false, ByteArray.empty⟩⟩], ek, by simp [hli], ?_, fun he => (hc20 he).2.2.2, rfl, rfl, rfl, rfl, rfl, rfl, rfl, rfl, rfl, rfl, H23, fun x hx => ?_, by omega⟩
   ·have := hia g
    obtain ⟨n, hn1, hn2⟩ := H.pos
    omega
   ·obtain ⟨_, _, h16, h18, _⟩ := hsp20 x hx
    have : (ydC ((n16 : Nat) : Int) e16).isSome = true := by unfold ydC; rw [if_pos h16]; rfl
    rw [this, h18] at gm; cases gm
  ·intro w21 A21 hr21 hx21 he21 hn21 hf21
   have K21 : Mod [b1] w14 w21 := (K20.trans A21.mod).less fun k hk hl => by simp at hk ⊢; omega
   have s21 := A21.mod.size
   refine yf8 (f := ⟨fa, fn, fc⟩) (y := ⟨off, r⟩) (H.fr.keep K21 fun ad ha hk => by have := H.fr.base ad ha; simp at hk; omega) (show l.length ≤ _ by omega) (by have := H.m.size; omega) (fun b hb' hk => by have := hrow b hk; simp at hb'; omega) fun a' c' w22 hR M22 => ?_
   intro w23 A23 hr hx he hn _
   have H21 : RPS w10 w21 b0 b1 b2 b3 b4 b5 s2 a20 e20 ⟨ev', z1, z2, z3, l, []⟩ ⟨fa, fn, fc⟩ ya6 ev' fv' := ⟨hr21, hx21, he21, hn21, H.fr.keep K21 fun ad ha hk => by have := H.fr.base ad ha; simp at hk; omega, Row.nil .., H.m.via K21 (by simp), H.lt, H.nd, H20.pos⟩
   have H23 := H21.app rfl rfl hR M22 A23.mod hr hx he hn
   refine ygK (fv'.toNat - (i + 1)) (by omega) ⟨i + 1, l ++ [⟨off, r⟩], ek, by simp [hli], ?_, fun he => (hc20 he).2.2.2, rfl, rfl, rfl, rfl, rfl, rfl, rfl, rfl, rfl, rfl, H23, fun x hx => ⟨(hsp20 x hx).1, (hsp20 x hx).2.1, (hsp20 x hx).2.2.2.2⟩, by omega⟩
   have := hia g
   obtain ⟨n, hn1, hn2⟩ := H.pos
   omega
set_option maxRecDepth 20000 in
theorem yfO (s : ByteArray) (a : Nat) (hs : s.size ≤ 1000000000000) (ha : a ≤ s.size) (w : World) :
  Calls pP 44 #[.string s, .int .i64 (a : Nat)] w fun e w' => ∃ v, e = .returned v ∧ yDa a (vg 0 (s.data.toList.drop a)) v ∧ w' = w := by
 refine yF8 ?_
 refine yaC (fun h => by omega) fun _ => yaC (fun h => by omega) fun _ => ?_
 refine yw6 (fun mm x p y w' => ∃ k acc : Nat, y = k ∧ x = acc ∧ p = (2 ^ (7 * k) : Nat) ∧ k ≤ 9 ∧ acc < 2 ^ (7 * k) ∧ w' = w ∧ a + k ≤ s.size ∧
  vg 0 (s.data.toList.drop a) = (vg k (s.data.toList.drop (a + k))).map (fun p => (acc + 2 ^ (7 * k) * p.1, k + p.2)) ∧ mm = 9 - k) 9 ⟨0, 0, rfl, rfl, rfl, by omega, by simp, rfl, by omega, by simp, rfl⟩ ?_
 rintro mm x p y w1 ⟨k, acc, rfl, rfl, rfl, hk, hacc, rfl, hak, hv, rfl⟩
 have e1 : IntKind.wrap .i64 ((a : Int) + (k : Int)) = ((a + k : Nat) : Int) := by rw [yaG (by omega) (by omega)]; omega
 rw [e1, decide_eq_true (by omega), ynA]
 refine yaC (fun hge => ?_) fun hlt => ?_
 ·refine ⟨?_, rfl⟩
  rw [hv, List.drop_eq_nil_of_le (by simp; omega)]
  exact ⟨10, by decide, rfl⟩
 have hlt' : a + k < s.size := by omega
 obtain ⟨c, hc, hcv⟩ := ycA hlt'
 refine ⟨by omega, by omega, ?_⟩
 rw [Int.toNat_natCast, hcv]
 have hdr : s.data.toList.drop (a + k) = c :: s.data.toList.drop (a + (k + 1)) := by
  obtain ⟨hl, he⟩ := List.getElem?_eq_some_iff.1 hc
  rw [List.drop_eq_getElem_cons hl, he]; rfl
 have hc8 := c.toNat_lt
 have hc8' : c.toNat < 256 := hc8
 dsimp only
 rw [ydJ (n := c.toNat) (by omega)]
 rw [hdr, yAr] at hv
 have hp7 : 2 ^ (7 * k) ≤ 2 ^ 63 := Nat.pow_le_pow_right (by omega) (by omega)
 have bad : ((k = 9 ∧ 1 < c.toNat) ∨ (0 < k ∧ c.toNat = 0)) → ∃ v, (Value.tuple #[.int .u64 0, .int .i64 0, .int .i64 11]) = v ∧ yDa a (vg 0 (s.data.toList.drop a)) v ∧ w1 = w1 := fun hb => ⟨_, rfl, by rw [hv, if_pos hb]; exact ⟨11, by decide, rfl⟩, rfl⟩
 have bad' : ((k = 9 ∧ 1 < c.toNat) ∨ (0 < k ∧ c.toNat = 0)) → yDa a (vg 0 (s.data.toList.drop a)) (Value.tuple #[.int .u64 0, .int .i64 0, .int .i64 11]) ∧ w1 = w1 := fun hb => ⟨by rw [hv, if_pos hb]; exact ⟨11, by decide, rfl⟩, rfl⟩
 have emod : Int.tmod ((c.toNat : Nat) : Int) 128 = ((c.toNat % 128 : Nat) : Int) := by rw [Int.tmod_eq_emod_of_nonneg (by omega)]; omega
 rw [emod]
 have hp : 2 ^ (7 * k) * (c.toNat % 128) < 2 ^ 64 ∨ (k = 9 ∧ 1 < c.toNat) := by
  have hcs : k = 0 ∨ k = 1 ∨ k = 2 ∨ k = 3 ∨ k = 4 ∨ k = 5 ∨ k = 6 ∨ k = 7 ∨ k = 8 ∨ k = 9 := by omega
  rcases hcs with rfl | rfl | rfl | rfl | rfl | rfl | rfl | rfl | rfl | rfl <;> simp <;> omega
 have ek : IntKind.wrap .i64 ((k : Int) + 1) = ((k + 1 : Nat) : Int) := by rw [yaG (by omega) (by omega)]; omega
 rw [ek]
 have good : ∀ {K : Kh}, K = yiC s (a : Int) (fun mm x p y w' => ∃ k acc : Nat, y = k ∧ x = acc ∧ p = (2 ^ (7 * k) : Nat) ∧ k ≤ 9 ∧ acc < 2 ^ (7 * k) ∧ w' = w1 ∧ a + k ≤ s.size ∧
  vg 0 (s.data.toList.drop a) = (vg k (s.data.toList.drop (a + k))).map (fun p => (acc + 2 ^ (7 * k) * p.1, k + p.2)) ∧ mm = 9 - k) (9 - k) → ¬ ((k = 9 ∧ 1 < c.toNat) ∨ (0 < k ∧ c.toNat = 0)) →
   nz 128 (brB (decide (((c.toNat : Nat) : Int) < 128)) (yDa a (vg 0 (s.data.toList.drop a)) (.tuple #[(.int .u64 (IntKind.wrap .u64 ((acc : Int) + (IntKind.wrap .u64 (((c.toNat % 128 : Nat) : Int) * ((2 ^ (7 * k) : Nat) : Int)))))), (.int .i64 (IntKind.wrap .i64 (((a + k : Nat) : Int) + 1))), .int .i64 0]) ∧ w1 = w1)
    (KS K (yeS s (a : Int) ((IntKind.wrap .u64 ((acc : Int) + (IntKind.wrap .u64 (((c.toNat % 128 : Nat) : Int) * ((2 ^ (7 * k) : Nat) : Int))))), (IntKind.wrap .u64 (((2 ^ (7 * k) : Nat) : Int) * 128)), ((k + 1 : Nat) : Int))) w1)) := fun {K} hK hb => by
  subst hK
  rw [if_neg hb] at hv
  have hp : 2 ^ (7 * k) * (c.toNat % 128) < 2 ^ 64 := hp.elim id fun h => absurd (.inl h) hb
  have e2 : (((c.toNat % 128 : Nat) : Int) * ((2 ^ (7 * k) : Nat) : Int)) = ((2 ^ (7 * k) * (c.toNat % 128) : Nat) : Int) := by
   rw [Int.natCast_mul, Int.mul_comm]
  rw [e2, ydJ (by omega)]
  have hsum : acc + 2 ^ (7 * k) * (c.toNat % 128) < 2 ^ 64 := by
   have h9 : k = 9 → c.toNat ≤ 1 := by omega
   have hcs : k = 0 ∨ k = 1 ∨ k = 2 ∨ k = 3 ∨ k = 4 ∨ k = 5 ∨ k = 6 ∨ k = 7 ∨ k = 8 ∨ k = 9 := by omega
   rcases hcs with rfl | rfl | rfl | rfl | rfl | rfl | rfl | rfl | rfl | rfl <;> simp at hacc ⊢ <;> omega
  have e3 : (acc : Int) + ((2 ^ (7 * k) * (c.toNat % 128) : Nat) : Int) = ((acc + 2 ^ (7 * k) * (c.toNat % 128) : Nat) : Int) := by omega
  rw [e3, ydJ (by omega)]
  refine ⟨by omega, yaC (fun hsm => ?_) fun hbg => ?_⟩
  ·have hsm : c.toNat < 128 := by omega
   rw [if_pos hsm] at hv
   refine ⟨?_, rfl⟩
   rw [hv, yaG (by omega) (by omega)]
   have e4 : c.toNat % 128 = c.toNat := by omega
   simp only [Option.map_some, yDa, e4]
   congr 3
  ·have hbg : ¬ c.toNat < 128 := by omega
   rw [if_neg hbg] at hv
   have k8 : k ≤ 8 := by omega
   have h56 : 2 ^ (7 * k) ≤ 2 ^ 56 := Nat.pow_le_pow_right (by omega) (by omega)
   have e : 7 * (k + 1) = 7 * k + 7 := by omega
   refine yw5 (9 - (k + 1)) (by omega) ⟨k + 1, acc + 2 ^ (7 * k) * (c.toNat % 128), rfl, rfl, ?_, by omega, ?_, rfl, by omega, ?_, rfl⟩
   ·rw [e, Nat.pow_add, show ((2 ^ (7 * k) : Nat) : Int) * 128 = ((2 ^ (7 * k) * 2 ^ 7 : Nat) : Int) by omega, ydJ (by omega)]
   ·rw [e, Nat.pow_add]
    have h5 : c.toNat % 128 ≤ 127 := by omega
    have := Nat.mul_le_mul_left (2 ^ (7 * k)) h5
    omega
   ·rw [hv, Option.map_map]
    congr 1
    funext p
    simp only [Function.comp]
    rw [e, Nat.pow_add, Nat.mul_add, ← Nat.mul_assoc]
    congr 1
    ·rw [Nat.add_assoc]
    ·omega
 refine yaB (fun h9 => ?_) fun h9 => ?_
 ·have h9 : k = 9 := by simp at h9; omega
  refine yaC (fun h1 => bad' (.inl ⟨h9, by omega⟩)) fun h1 => ?_
  refine yaB (fun h0 => yaC (fun hk0 => bad' (.inr ⟨by omega, by simp at h0; omega⟩)) fun hk0 => by omega) fun h0 => ?_
  have h0 : c.toNat ≠ 0 := by simp at h0; omega
  exact good rfl (by omega)
 ·have h9 : k ≠ 9 := by simp at h9; omega
  refine yaB (fun h0 => yaC (fun hk0 => bad' (.inr ⟨by omega, by simp at h0; omega⟩)) fun hk0 => good rfl (by omega)) fun h0 => ?_
  have h0 : c.toNat ≠ 0 := by simp at h0; omega
  exact good rfl (by omega)
set_option maxRecDepth 20000 in
theorem yb5 (s : ByteArray) (a lim : Nat) (hs : s.size ≤ 1000000000000) (ha : a ≤ s.size) (hl : lim ≤ 1000000000000) (w : World) :
  Calls pP 45 #[.string s, .int .i64 (a : Nat), .int .i64 (lim : Nat)] w fun e w' => ∃ v, e = .returned v ∧ ywP a (tg lim (s.data.toList.drop a)) v ∧ w' = w := by
 refine yF9 ?_
 refine (yfO s a hs ha w).mono ?_
 rintro e w1 ⟨v, rfl, hv, rfl⟩
 cases hg : vg 0 (s.data.toList.drop a) with
 | none =>
  rw [hg] at hv
  obtain ⟨e, he, rfl⟩ := hv
  refine ⟨_, _, _, rfl, ?_⟩
  rw [show (e != 0) = true by simpa using he]
  refine ⟨?_, rfl⟩
  unfold tg; rw [hg]
  exact ⟨e, he, rfl⟩
 | some p =>
  obtain ⟨n, m⟩ := p
  rw [hg] at hv
  have hv : v = .tuple #[.int .u64 (n : Nat), .int .i64 ((a + m : Nat) : Int), .int .i64 0] := hv
  subst hv
  have hm := ykH _ hg
  have hn := yC9 _ (by omega) hg
  have el : (s.data.toList.drop a).length = s.size - a := by simp
  have et : tg lim (s.data.toList.drop a) = if n ≤ lim ∧ n ≤ (s.data.toList.drop a).length - m then some (bs (((s.data.toList.drop a).drop m).take n), m + n) else none := by
   unfold tg; rw [hg]
  rw [el] at hm et
  refine ⟨_, _, _, rfl, ?_⟩
  rw [show ((0 : Int) != 0) = false from rfl, ybB]
  refine yaC (fun h => by omega) fun _ => ?_
  have e1 : IntKind.wrap .i64 ((s.size : Int) - ((a + m : Nat) : Int)) = ((s.size - (a + m) : Nat) : Int) := by rw [yaG (by omega) (by omega)]; omega
  rw [ydJ (by omega), e1, ydJ (by omega)]
  refine yaC (fun h => ?_) fun h => ?_
  ·refine ⟨?_, rfl⟩
   rw [et, if_neg (by omega)]
   exact ⟨2, by decide, rfl⟩
  refine yaC (fun h2 => ?_) fun h2 => ?_
  ·refine ⟨?_, rfl⟩
   rw [et, if_neg (by omega)]
   exact ⟨10, by decide, rfl⟩
  have e2 : IntKind.wrap .i64 ((n : Nat) : Int) = ((n : Nat) : Int) := yaG (by omega) (by omega)
  have e3 : IntKind.wrap .i64 (((a + m : Nat) : Int) + ((n : Nat) : Int)) = ((a + m + n : Nat) : Int) := by rw [yaG (by omega) (by omega)]; omega
  rw [e2, e3]
  refine ⟨by omega, by omega, by omega, ?_, rfl⟩
  rw [et, if_pos (by omega), Int.toNat_natCast, Int.toNat_natCast, yuC s (a + m) n (by omega), List.drop_drop]
  exact congrArg (fun k : Nat => Value.tuple #[.string (bs (List.take n (List.drop (a + m) s.data.toList))), .int .i64 (k : Int), .int .i64 0]) (by omega)
set_option maxRecDepth 20000 in
theorem yv4 (s : ByteArray) (a lim : Nat) (hs : s.size ≤ 1000000000000) (ha : a ≤ s.size) (hl : lim ≤ 1000000000000) (w : World) :
  Calls pP 43 #[.string s, .int .i64 (a : Nat), .int .i64 (lim : Nat)] w fun e w' => ∃ v, e = .returned v ∧ ywP a (cg lim (s.data.toList.drop a)) v ∧ Mod [] w w' := by
 refine yGf ?_
 refine (yb5 s a lim hs ha hl w).mono ?_
 rintro e w1 ⟨v, rfl, hv, rfl⟩
 cases hg : tg lim (s.data.toList.drop a) with
 | none =>
  rw [hg] at hv
  obtain ⟨e, he, rfl⟩ := hv
  refine ⟨_, _, _, rfl, ?_⟩
  rw [show (e != 0) = true by simpa using he]
  refine ⟨?_, Mod.refl _⟩
  unfold cg; rw [hg]
  exact ⟨e, he, rfl⟩
 | some p =>
  obtain ⟨t, m⟩ := p
  rw [hg] at hv
  have hv : v = .tuple #[.string t, .int .i64 ((a + m : Nat) : Int), .int .i64 0] := hv
  subst hv
  have hm := yfQ hg
  have el : (s.data.toList.drop a).length = s.size - a := by simp
  have et : cg lim (s.data.toList.drop a) = if 4 ≤ (s.data.toList.drop a).length - m ∧ ((s.data.toList.drop a).drop m).take 4 = ycX (ypY t.data.toList) then some (t, m + 4) else none := by
   unfold cg; rw [hg]
  rw [el] at hm et
  refine ⟨_, _, _, rfl, ?_⟩
  have e1 : IntKind.wrap .i64 ((s.size : Int) - ((a + m : Nat) : Int)) = ((s.size - (a + m) : Nat) : Int) := by rw [yaG (by omega) (by omega)]; omega
  have e2 : IntKind.wrap .i64 (((a + m : Nat) : Int) + 4) = ((a + m + 4 : Nat) : Int) := by rw [yaG (by omega) (by omega)]; omega
  rw [show ((0 : Int) != 0) = false from rfl, ybB]
  rw [e1, e2]
  refine yaC (fun h => ?_) fun h => ?_
  ·refine ⟨?_, Mod.refl _⟩
   rw [et, if_neg (by omega)]
   exact ⟨20, by decide, rfl⟩
  refine ⟨by omega, by omega, by omega, fun w2 A2 => ?_⟩
  refine (yBV t (by omega) w2).mono ?_
  rintro e w3 ⟨rfl, M3⟩
  refine ⟨_, rfl, ?_⟩
  have hcu := yBT t.data.toList
  refine (show Calls pP 68 #[.int .u32 (ypY t.data.toList)] w3 fun e w' => e = .returned (.string (bs (ycX (ypY t.data.toList)))) ∧ Mod [] w3 w' by rw [hcu]; exact yBW (yBU _) w3).mono ?_
  rintro e w4 ⟨rfl, M4⟩
  have hM : Mod [] w1 w4 := (A2.mod.go0 M3 (by simp)).go0 M4 (by simp)
  refine ⟨_, rfl, ?_⟩
  rw [Int.toNat_natCast, Int.toNat_natCast, yuC s (a + m) 4 (by omega)]
  have hbe : ((bs (List.take 4 (List.drop (a + m) s.data.toList))).toList == (bs (ycX (ypY t.data.toList))).toList) = decide (List.take 4 (List.drop (a + m) s.data.toList) = ycX (ypY t.data.toList)) := by
   rw [Bool.eq_iff_iff, beq_iff_eq, decide_eq_true_iff]
   constructor
   ·intro h; exact yhM (ycL.1 h)
   ·intro h; rw [h]
  rw [hbe]
  rw [List.drop_drop] at et
  refine yaB (fun h => ?_) fun h => ?_
  ·have h : ¬ List.take 4 (List.drop (a + m) s.data.toList) = ycX (ypY t.data.toList) := by simpa using h
   refine ⟨?_, hM⟩
   rw [et, if_neg (fun hh => h hh.2)]
   exact ⟨21, by decide, rfl⟩
  ·have h : List.take 4 (List.drop (a + m) s.data.toList) = ycX (ypY t.data.toList) := by simpa using h
   refine ⟨?_, hM⟩
   rw [et, if_pos ⟨by omega, h⟩]
   exact congrArg (fun k : Nat => Value.tuple #[.string t, .int .i64 (k : Int), .int .i64 0]) (show a + m + 4 = a + (m + 4) by omega)
def yLn : PRec := ⟨false, ⟨#[]⟩, false, ⟨#[]⟩⟩
def ytK : Option (PRec × Nat) → Value → Prop
 | some (x, b), v => v = .tuple #[x.v, .int .i64 (b : Nat), .int .i64 0]
 | none, v => ∃ e : Int, e ≠ 0 ∧ v = .tuple #[yLn.v, .int .i64 0, .int .i64 e]
theorem yFa {l : List UInt8} {a k : Nat} (h : yq2 l a = some (k, a + 1)) (hk : k = 3) : yeI l a = (ye2 64 l (a + 1)).bind fun q => some (⟨true, q.1, true, ⟨#[]⟩⟩, q.2) := by
 subst hk; simp [yeI, h, yfS]
theorem yCv {l : List UInt8} {a k : Nat} (h : yq2 l a = some (k, a + 1)) (hk : k = 1) : yeI l a = (ye2 64 l (a + 1)).bind fun q => (ye2 512 l q.2).bind fun r => some (⟨true, q.1, false, r.1⟩, r.2) := by
 subst hk; simp [yeI, h, yfS]
theorem yFb {l : List UInt8} {a k : Nat} (h : yq2 l a = some (k, a + 1)) (hk : k = 0) : yeI l a = (ye2 512 l (a + 1)).bind fun r => some (⟨false, ⟨#[]⟩, false, r.1⟩, r.2) := by
 subst hk; simp [yeI, h, yfS]
set_option maxRecDepth 20000 in
theorem ypX (s : ByteArray) (a : Nat) (hs : s.size ≤ 1000000000000) (ha : a ≤ s.size) (w : World) :
  Calls pP 84 #[.string s, .int .i64 (a : Nat)] w fun e w' => ∃ v, e = .returned v ∧ ytK (yeI s.data.toList a) v ∧ Mod [] w w' := by
 refine yGi ?_
 intro b1 f1
 refine yaC (fun h => by omega) fun _ => yaC (fun h => by omega) fun _ => ?_
 have el : s.data.toList.length = s.size := by simp
 refine yaB (fun h => ?_) fun h => ?_
 ·have h : a = s.size := by simp at h; omega
  intro w4 A4
  have : yeI s.data.toList a = none := by unfold yeI yq2; rw [List.getElem?_eq_none (by omega)]; rfl
  exact ⟨by rw [this]; exact ⟨10, by decide, rfl⟩, A4.mod⟩
 have h : a < s.size := by simp at h; omega
 obtain ⟨c, hc, hcv⟩ := ycA h
 have hc8 := yKh c
 refine ⟨by omega, by omega, ?_⟩
 rw [Int.toNat_natCast, hcv]
 have ef : yq2 s.data.toList a = if c.toNat = 0 ∨ c.toNat = 1 ∨ c.toNat = 3 then some (c.toNat, a + 1) else none := by unfold yq2; rw [hc]
 have none1 : ¬ (c.toNat = 0 ∨ c.toNat = 1 ∨ c.toNat = 3) → yeI s.data.toList a = none := fun hn => by unfold yeI; rw [ef, if_neg hn]; rfl
 have ea : IntKind.wrap .i64 ((a : Int) + 1) = ((a + 1 : Nat) : Int) := by rw [yaG (by omega) (by omega)]; omega
 intro b6 f6
 refine yaB (fun h2 => fun w7 A7 => ?_) fun h2 => ?_
 ·have h2 : c.toNat = 2 := by simp at h2; omega
  exact ⟨by rw [none1 (by omega)]; exact ⟨30, by decide, rfl⟩, A7.mod⟩
 have h2 : c.toNat ≠ 2 := by simp at h2; omega
 refine yaC (fun h3 => fun w7 A7 => ?_) fun h3 => ?_
 ·exact ⟨by rw [none1 (by omega)]; exact ⟨30, by decide, rfl⟩, A7.mod⟩
 rw [if_pos (by omega)] at ef
 refine yaC (fun h4 => fun w9 A9 => ?_) fun h4 => ?_
 ·have hcs : c.toNat = 1 ∨ c.toNat = 3 := by omega
  rw [ea]
  refine (yb5 s (a + 1) 64 hs (by omega) (by omega) w9).mono ?_
  rintro e w10 ⟨v, rfl, hv, rfl⟩
  cases hg : tg 64 (s.data.toList.drop (a + 1)) with
  | none =>
   rw [hg] at hv
   obtain ⟨e, he, rfl⟩ := hv
   refine ⟨_, _, _, rfl, yaD.of0 (Mod.refl _), ?_⟩
   rw [show (e != 0) = true by simpa using he]
   intro w11 A11
   have : yeI s.data.toList a = none := by
    rcases hcs with h1 | h1
    ·rw [yCv ef h1, ye2, hg]; rfl
    ·rw [yFa ef h1, ye2, hg]; rfl
   exact ⟨by rw [this]; exact ⟨e, he, rfl⟩, A9.mod.go0 A11.mod (by simp; omega)⟩
  | some p =>
   obtain ⟨t, m⟩ := p
   rw [hg] at hv
   have hv : v = .tuple #[.string t, .int .i64 ((a + 1 + m : Nat) : Int), .int .i64 0] := hv
   subst hv
   have hm := yfQ hg
   have el1 : (s.data.toList.drop (a + 1)).length = s.size - (a + 1) := by simp
   rw [el1] at hm
   refine ⟨_, _, _, rfl, yaD.of0 (Mod.refl _), ?_⟩
   rw [show ((0 : Int) != 0) = false from rfl, ybB]
   refine yaB (fun h5 => fun w11 A11 => ?_) fun h5 => fun w11 A11 => ?_
   ·have h5 : c.toNat = 3 := by simp at h5; omega
    have : yeI s.data.toList a = some (⟨true, t, true, ⟨#[]⟩⟩, a + 1 + m) := by
     rw [yFa ef h5, ye2, hg]; rfl
    exact ⟨by rw [this]; rfl, A9.mod.go0 A11.mod (by simp; omega)⟩
   ·have h5 : c.toNat = 1 := by simp at h5; omega
    refine (yb5 s (a + 1 + m) 512 hs (by omega) (by omega) w11).mono ?_
    rintro e w12 ⟨v, rfl, hv, rfl⟩
    cases hg2 : tg 512 (s.data.toList.drop (a + 1 + m)) with
    | none =>
     rw [hg2] at hv
     obtain ⟨e, he, rfl⟩ := hv
     refine ⟨_, _, _, rfl, yaD.of0 (Mod.refl _), ?_⟩
     rw [show (e != 0) = true by simpa using he]
     intro w13 A13
     have : yeI s.data.toList a = none := by
      rw [yCv ef h5, ye2, hg]; show Option.bind (ye2 _ _ _) _ = _; rw [ye2, hg2]; rfl
     exact ⟨by rw [this]; exact ⟨e, he, rfl⟩, (A9.mod.go0 A11.mod (by simp; omega)).go0 A13.mod (by simp; omega)⟩
    | some p =>
     obtain ⟨t2, m2⟩ := p
     rw [hg2] at hv
     have hv : v = .tuple #[.string t2, .int .i64 ((a + 1 + m + m2 : Nat) : Int), .int .i64 0] := hv
     subst hv
     refine ⟨_, _, _, rfl, yaD.of0 (Mod.refl _), ?_⟩
     rw [show ((0 : Int) != 0) = false from rfl, ybB]
     intro w13 A13
     have : yeI s.data.toList a = some (⟨true, t, false, t2⟩, a + 1 + m + m2) := by
      rw [yCv ef h5, ye2, hg]; show Option.bind (ye2 _ _ _) _ = _; rw [ye2, hg2]; rfl
     exact ⟨by rw [this]; rfl, (A9.mod.go0 A11.mod (by simp; omega)).go0 A13.mod (by simp; omega)⟩
 ·have h0 : c.toNat = 0 := by omega
  refine yaB (fun h5 => by simp at h5; omega) fun h5 => fun w9 A9 => ?_
  rw [ea]
  refine (yb5 s (a + 1) 512 hs (by omega) (by omega) w9).mono ?_
  rintro e w10 ⟨v, rfl, hv, rfl⟩
  cases hg : tg 512 (s.data.toList.drop (a + 1)) with
  | none =>
   rw [hg] at hv
   obtain ⟨e, he, rfl⟩ := hv
   refine ⟨_, _, _, rfl, yaD.of0 (Mod.refl _), ?_⟩
   rw [show (e != 0) = true by simpa using he]
   intro w11 A11
   have : yeI s.data.toList a = none := by rw [yFb ef h0, ye2, hg]; rfl
   exact ⟨by rw [this]; exact ⟨e, he, rfl⟩, A9.mod.go0 A11.mod (by simp; omega)⟩
  | some p =>
   obtain ⟨t, m⟩ := p
   rw [hg] at hv
   have hv : v = .tuple #[.string t, .int .i64 ((a + 1 + m : Nat) : Int), .int .i64 0] := hv
   subst hv
   refine ⟨_, _, _, rfl, yaD.of0 (Mod.refl _), ?_⟩
   rw [show ((0 : Int) != 0) = false from rfl, ybB]
   intro w11 A11
   have : yeI s.data.toList a = some (⟨false, ⟨#[]⟩, false, t⟩, a + 1 + m) := by
    rw [yFb ef h0, ye2, hg]; rfl
   exact ⟨by rw [this]; rfl, A9.mod.go0 A11.mod (by simp; omega)⟩
theorem Row.fresh0 {α : Type} {w : World} {base T sz b : Nat} {enc : α → List Value} (h : w.heap[b]? = some (.cells #[] T)) (hb : base ≤ b) : Row w base T sz enc (some ⟨b, 0, none⟩) 0 0 [] :=
 ⟨rfl, by simp, .inr ⟨b, 0, #[], rfl, hb, h, by simp, by simp, by simp, by simp⟩⟩
def yLo (n : Nat) : List Value := [.int .u64 (n : Nat)]
theorem yGI : (Tryz.prog.info? 71).map (fun i => (i.zero, i.size, i.bytes)) = some (some (.int .u64 0), 1, 8) := by kernel_rfl
theorem yv5 {l : List UInt8} {a b : Nat} {x : PRec} (h : yeI l a = some (x, b)) : a ≤ b ∧ (a ≤ l.length → b ≤ l.length) := by
 unfold yeI at h
 cases hf : yq2 l a with
 | none => rw [hf] at h; simp at h
 | some p =>
  rw [hf] at h
  have hp : a + 1 = p.2 ∧ a < l.length := by
   unfold yq2 at hf
   cases hl : l[a]? with
   | none => rw [hl] at hf; simp at hf
   | some c =>
    rw [hl] at hf
    have := (List.getElem?_eq_some_iff.1 hl).1
    simp only at hf
    split at hf
    ·simp at hf; subst hf; exact ⟨rfl, this⟩
    ·simp at hf
  simp only [Option.bind_some] at h
  have ti : ∀ {has : Bool} {lim a b : Nat} {t : ByteArray}, yfS has lim l a = some (t, b) → a ≤ b ∧ (a ≤ l.length → b ≤ l.length) := fun {has lim a b t} h => by
   unfold yfS at h
   split at h
   ·have := yh8 h; omega
   ·simp at h; omega
  cases h1 : yfS (decide (p.1 % 2 = 1)) 64 l p.2 with
  | none => rw [h1] at h; simp at h
  | some q =>
   rw [h1] at h
   simp only [Option.bind_some] at h
   have t1 := ti h1
   cases h2 : yfS (decide (p.1 / 2 % 2 = 0)) 512 l q.2 with
   | none => rw [h2] at h; simp at h
   | some r =>
    rw [h2] at h
    have t2 := ti h2
    simp at h
    omega
theorem ytK.out {o : Option (PRec × Nat)} {v : Value} (h : ytK o v) : ∃ (x : PRec) (b e : Int), v = .tuple #[x.v, .int .i64 b, .int .i64 e] ∧ ((e = 0 ∧ ∃ n : Nat, b = n ∧ o = some (x, n)) ∨ (e ≠ 0 ∧ o = none)) := by
 cases o with
 | none => obtain ⟨e, he, rfl⟩ := h; exact ⟨_, _, _, rfl, .inr ⟨he, rfl⟩⟩
 | some p => obtain ⟨x, b⟩ := p; exact ⟨_, _, _, h, .inl ⟨rfl, b, rfl, rfl⟩⟩
theorem yDa.out {a : Nat} {o : Option (Nat × Nat)} {v : Value} (h : yDa a o v) : ∃ (n : Nat) (b e : Int), v = .tuple #[.int .u64 (n : Nat), .int .i64 b, .int .i64 e] ∧ ((e = 0 ∧ ∃ m : Nat, b = ((a + m : Nat) : Int) ∧ o = some (n, m)) ∨ (e ≠ 0 ∧ o = none)) := by
 cases o with
 | none => obtain ⟨e, he, rfl⟩ := h; exact ⟨0, _, _, rfl, .inr ⟨he, rfl⟩⟩
 | some p => obtain ⟨x, b⟩ := p; exact ⟨_, _, _, h, .inl ⟨rfl, b, rfl, rfl⟩⟩
theorem ywP.out {a : Nat} {o : Option (ByteArray × Nat)} {v : Value} (h : ywP a o v) : ∃ (n : ByteArray) (b e : Int), v = .tuple #[.string n, .int .i64 b, .int .i64 e] ∧ ((e = 0 ∧ ∃ m : Nat, b = ((a + m : Nat) : Int) ∧ o = some (n, m)) ∨ (e ≠ 0 ∧ o = none ∧ n = ⟨#[]⟩ ∧ b = 0)) := by
 cases o with
 | none => obtain ⟨e, he, rfl⟩ := h; exact ⟨_, _, _, rfl, .inr ⟨he, rfl, rfl, rfl⟩⟩
 | some p => obtain ⟨x, b⟩ := p; exact ⟨_, _, _, h, .inl ⟨rfl, b, rfl, rfl⟩⟩
set_option maxHeartbeats 2000000 in
set_option maxRecDepth 20000 in
theorem ym6 (s : ByteArray) (a : Nat) (hs : s.size ≤ 1000000000000) (ha : a ≤ s.size) (w : World) :
  Calls pP 139 #[.string s, .int .i64 (a : Nat)] w fun e w' => ∃ v, e = .returned v ∧ yq3 w w' (yjE s.data.toList a) v ∧ Mod [] w w' := by
 refine yGj ?_
 intro b1 f1 w2 A2
 have l1 := A2.lt b1 (by simp)
 have s2 := A2.mod.size
 refine ydO fun b3 w4 c4 M4 f4 => ?_
 have s4 := M4.size
 have el : s.data.toList.length = s.size := by simp
 have bad : ∀ {e : Int} {w'}, e ≠ 0 → yjE s.data.toList a = none → Mod [] w w' → yq3 w w' (yjE s.data.toList a) (.tuple #[.agg #[.int .i64 0, .int .i64 0, .int .i64 0, .slice none 0 0], .int .i64 0, .int .i64 e]) ∧ Mod [] w w' := fun he hn M => ⟨by rw [hn]; exact ⟨_, he, rfl⟩, M⟩
 refine yxE (fun mm ar nr cr x8 x9 w' => ∃ (j : Nat) (xs : List Nat) (a1 : Nat), x9 = j ∧ xs.length = j ∧ j ≤ 4 ∧ x8 = a1 ∧ a1 ≤ s.size ∧ (∀ x ∈ xs, x < 18446744073709551616) ∧ Mod [] w w' ∧ w2.heap.size ≤ w'.heap.size ∧
  ybR ycY s.data.toList 4 a = (ybR ycY s.data.toList (4 - j) a1).map (fun p => (xs ++ p.1, p.2)) ∧ Row w' w2.heap.size 71 1 yLo ar nr cr xs ∧ mm = 4 - j) 4
  ⟨0, [], a, rfl, rfl, by omega, rfl, ha, by simp, A2.mod.go0 M4 (by simp), by omega, by simp, Row.fresh0 c4 (by omega), rfl⟩ ?_
 rintro mm ar nr cr x8 x9 w5 ⟨j, xs, a1, rfl, hxl, hj, rfl, ha1, hxs, N5, s5, q5, hRow, rfl⟩
 refine yaC (fun hlt => ?_) fun hge => ?_
 ·have hlt : j < 4 := by omega
  have ej : 4 - j = (4 - (j + 1)) + 1 := by omega
  refine (yfO s a1 hs ha1 w5).mono ?_
  rintro e w6 ⟨v, rfl, hv, rfl⟩
  obtain ⟨n, b, e, rfl, hor⟩ := hv.out
  refine ⟨_, _, _, rfl, yaD.of0 (Mod.refl _), ?_⟩
  rcases hor with ⟨rfl, m, rfl, hg⟩ | ⟨he, hg⟩
  ·rw [show ((0 : Int) != 0) = false from rfl, ybB]
   have en : ycY s.data.toList a1 = some (n, a1 + m) := by unfold ycY; rw [hg]; rfl
   have hm := ydZ en
   refine ydO fun b9 w9 c9 M9 f9 => ?_
   have s9 := M9.size
   obtain ⟨i0, hi, hz0, hz1, hz2⟩ := info_parts yGI
   have hR9 := hRow.keep0 M9
   refine ycG (x := n) hR9 Tryz.underlying192 hi hz0 hz1 hz2 rfl (by decide) c9 rfl (by simp [yLo, Value.oneCell']) (by omega) (by unfold maxLen; omega) (by omega) fun a' c' w10 hR10 hM10 => ?_
   have M10 := hM10 _ (yeC ar)
   have s10 := M10.size
   have hnew := hR9.newS
   refine ⟨yaD.of M10 fun b hb _ hb' => ?_, ?_⟩
   ·have := hnew b hb'; simp at hb; omega
   refine yxD (4 - (j + 1)) (by omega) ⟨j + 1, xs ++ [n], a1 + m, by rw [yaG (by omega) (by omega)]; omega, by rw [List.length_append, hxl]; rfl, by omega, rfl, by omega, ?_, ?_, by omega, ?_, hR10, rfl⟩
   ·intro x hx
    rcases List.mem_append.1 hx with h | h
    ·exact hxs x h
    ·simp at h; subst h; exact hm.2.2
   ·exact (N5.go0 M9 (by simp)).go0 M10 fun i hi => by have := hnew i hi; omega
   ·rw [q5, ej]
    show Option.map _ ((ycY _ _).bind _) = _
    rw [en]
    simp only [Option.bind_some, Option.map_map]
    congr 1
    funext p; simp
  ·rw [show (e != 0) = true by simpa using he]
   intro w9 A9
   refine bad he ?_ (N5.go0 A9.mod (by simp; omega))
   have en : ycY s.data.toList a1 = none := by unfold ycY; rw [hg]; rfl
   have : ybR ycY s.data.toList 4 a = none := by
    rw [q5, ej]; show Option.map _ ((ycY _ _).bind _) = _; rw [en]; rfl
   unfold yjE hdA
   rw [this]; rfl
 ·have hj4 : j = 4 := by omega
  subst hj4
  obtain ⟨x, y, z, k, rfl⟩ : ∃ x y z k, xs = [x, y, z, k] := by
   match xs, hxl with
   | [x, y, z, k], _ => exact ⟨x, y, z, k, rfl⟩
  have hx := hxs x (by simp)
  have hy := hxs y (by simp)
  have hz := hxs z (by simp)
  have hk := hxs k (by simp)
  have q4 : ybR ycY s.data.toList 4 a = some ([x, y, z, k], a1) := q5
  have hhd : hdA s.data.toList a = if x ≤ 1099511627776 ∧ y ≤ 1099511627776 ∧ z ≤ 1099511627776 ∧ 1 ≤ k ∧ k ≤ 16 then some ([x, y, z, k], a1) else none := by unfold hdA; rw [q4]; rfl
  have none1 : ¬ (x ≤ 1099511627776 ∧ y ≤ 1099511627776 ∧ z ≤ 1099511627776 ∧ 1 ≤ k ∧ k ≤ 16) → yjE s.data.toList a = none := fun hn => by unfold yjE; rw [hhd, if_neg hn]; rfl
  have hU := hRow.sl (fun _ => rfl)
  have ix : ∀ {w' : World} {i v : Nat} {F : Addr → Prop}, [x, y, z, k][i]? = some v → (∀ q, (∀ w', Mod [] w5 w' → w'.cell? q = some (.int .u64 (v : Nat))) → F q) → ixA ar nr (i : Nat) 1 F := fun {w' i v F} hv hF => hU.ixW hv fun q hq => hF q fun w' M => by have := hq w' M 0 _ rfl; rwa [add_zero] at this
  refine ix (w' := w5) (i := 0) rfl fun q0 h0 => yaF (h0 _ (Mod.refl _)) (yaC (fun g w7 A7 => bad (by decide) (none1 (by omega)) (N5.go0 A7.mod (by simp; omega))) fun g1 => ?_)
  refine ix (w' := w5) (i := 1) rfl fun q1 h1 => yaF (h1 _ (Mod.refl _)) (yaC (fun g w7 A7 => bad (by decide) (none1 (by omega)) (N5.go0 A7.mod (by simp; omega))) fun g2 => ?_)
  refine ix (w' := w5) (i := 2) rfl fun q2 h2 => yaF (h2 _ (Mod.refl _)) (yaC (fun g w7 A7 => bad (by decide) (none1 (by omega)) (N5.go0 A7.mod (by simp; omega))) fun g3 => ?_)
  refine ix (w' := w5) (i := 3) rfl fun q3 h3 => yaF (h3 _ (Mod.refl _)) (yaB (fun g w7 A7 => bad (by decide) (none1 (by simp at g; omega)) (N5.go0 A7.mod (by simp; omega))) fun g4 => ?_)
  refine ix (w' := w5) (i := 3) rfl fun q3 h3 => yaF (h3 _ (Mod.refl _)) (yaC (fun g w7 A7 => bad (by decide) (none1 (by omega)) (N5.go0 A7.mod (by simp; omega))) fun g5 => ?_)
  have g4 : k ≠ 0 := by simp at g4; omega
  rw [if_pos (by omega)] at hhd
  refine ix (w' := w5) (i := 0) rfl fun q0 h0 => ?_
  intro w7 A7
  have s7 := A7.mod.size
  refine yaF (h0 _ A7.mod) (ix (w' := w5) (i := 1) rfl fun q1 h1 => yaF (h1 _ A7.mod) (ix (w' := w5) (i := 2) rfl fun q2 h2 => yaF (h2 _ A7.mod) ?_))
  intro b8 f8 w9 A9
  have l8 := A9.lt b8 (by simp)
  have s9 := A9.mod.size
  rw [yaG (x := ((x : Nat) : Int)) (by omega) (by omega), yaG (x := ((y : Nat) : Int)) (by omega) (by omega), yaG (x := ((z : Nat) : Int)) (by omega) (by omega)]
  have N9 : Mod [] w w9 := (N5.go0 A7.mod (by simp)).go0 A9.mod (by simp)
  have M59 : Mod [] w5 w9 := A7.mod.go0 A9.mod (by simp)
  have qb : yjE s.data.toList a = (ybR yeI s.data.toList k a1).map fun q => (⟨(x : Nat), (y : Nat), (z : Nat), q.1⟩, q.2) := by unfold yjE; rw [hhd]; rfl
  refine yxG (fun mm x8 x14 ar nr cr w' => ∃ (j : Nat) (xs : List PRec) (a2 : Nat), x14 = j ∧ xs.length = j ∧ j ≤ k ∧ x8 = a2 ∧ a2 ≤ s.size ∧ Mod [] w w' ∧ Mod [] w5 w' ∧ w9.heap.size ≤ w'.heap.size ∧
   ybR yeI s.data.toList k a1 = (ybR yeI s.data.toList (k - j) a2).map (fun p => (xs ++ p.1, p.2)) ∧ Row w' w9.heap.size 53 4 yg2 ar nr cr xs ∧ mm = k - j) k
   ⟨0, [], a1, rfl, rfl, by omega, rfl, ha1, N9, M59, by omega, by simp, Row.nil .., rfl⟩ ?_
  rintro mm x8 x14 ar2 nr2 cr2 w10 ⟨j, xs, a2, rfl, hxl2, hj, rfl, ha2, N10, M10, s10, q10, hRow2, rfl⟩
  refine hU.ixW (i := 3) rfl fun q3 h3 => yaF (by have := h3 _ M10 0 _ rfl; rwa [add_zero] at this) ?_
  rw [yaG (x := ((k : Nat) : Int)) (by omega) (by omega)]
  refine yaC (fun hlt => ?_) fun hge => fun w11 A11 => ?_
  ·have ej : k - j = (k - (j + 1)) + 1 := by omega
   refine (ypX s a2 hs ha2 w10).mono ?_
   rintro e w11 ⟨v, rfl, hv, M11⟩
   have s11 := M11.size
   obtain ⟨r, b, e, rfl, hor⟩ := hv.out
   refine ⟨_, _, _, _, _, _, rfl, yaD.of0 M11, ?_⟩
   intro b12 f12
   have N11 := N10.go0 M11 (by simp)
   rcases hor with ⟨rfl, n, rfl, hg⟩ | ⟨he, hg⟩
   ·rw [show ((0 : Int) != 0) = false from rfl, ybB]
    intro w12 A12
    have s12 := A12.mod.size
    have l12 := A12.lt b12 (by simp)
    have hm := (yv5 hg).2 (by omega)
    refine ydO fun b13 w13 c13 M13 f13 => ?_
    have s13 := M13.size
    have K13 : Mod [] w10 w13 := (M11.go0 A12.mod (by simp)).go0 M13 (by simp)
    have hR13 := hRow2.keep0 K13
    obtain ⟨i0, hi, hz0, hz1, hz2⟩ := info_parts yFF
    refine ycG (x := r) hR13 Tryz.underlying44 hi hz0 hz1 hz2 rfl (by decide) c13 rfl (ynZ _) (by omega) (by unfold maxLen; omega) (by omega) fun a' c' w14 hR14 hM14 => ?_
    have M14 := hM14 _ (yeC ar2)
    have s14 := M14.size
    have hnew := hR13.newS
    have hrow := yaW hRow2
    refine ⟨yaD.of M14 fun b hb _ hb' => ?_, ?_⟩
    ·have := hrow b hb'; simp at hb; omega
    intro w15 A15
    have s15 := A15.mod.size
    refine yxF (k - (j + 1)) (by omega) ⟨j + 1, xs ++ [r], n, by rw [yaG (by omega) (by omega)]; omega, by rw [List.length_append, hxl2]; rfl, by omega, rfl, by omega, ?_, ?_, by omega, ?_, ?_, rfl⟩
    ·refine ((N10.go0 K13 (by simp)).go0 M14 fun i hi => ?_).go0 A15.mod (by simp; omega)
     have := hnew i hi; omega
    ·refine ((M10.go0 K13 (by simp)).go0 M14 fun i hi => ?_).go0 A15.mod (by simp; omega)
     have := hnew i hi; omega
    ·rw [q10, ej]
     show Option.map _ ((yeI _ _).bind _) = _
     rw [hg]
     simp only [Option.bind_some, Option.map_map]
     congr 1
     funext p; simp
    ·refine hR14.keep A15.mod fun ad ha hk => ?_
     have := hR14.base ad ha; simp at hk; omega
   ·rw [show (e != 0) = true by simpa using he]
    intro w12 A12
    refine bad he ?_ (N11.go0 A12.mod (by simp; omega))
    rw [qb, q10, ej]
    show Option.map _ (Option.map _ ((yeI _ _).bind _)) = _
    rw [hg]; rfl
  ·have hjk : k - j = 0 := by omega
   rw [qb, q10, hjk]
   refine ⟨⟨⟨ar2, nr2, cr2⟩, rfl, ?_, ?_⟩, N10.go0 A11.mod (by simp; omega)⟩
   ·show Row w11 w.heap.size 53 4 yg2 ar2 nr2 cr2 (xs ++ [])
    rw [List.append_nil]
    refine (hRow2.keep A11.mod fun ad ha hk => ?_).rebase (by omega)
    have := hRow2.base ad ha; simp at hk; omega
   ·show (xs ++ []).length ≤ 16
    rw [List.append_nil]; omega
abbrev InT : TypeId := 124
def RdI (s : ByteArray) (br : Nat) (st : Option Nat) (w : World) : Prop :=
 ∃ (a : Nat) (bad : Bool), w.heap[br]? = some (.cells #[.string s, .int .i64 (a : Nat), .bool bad] InT) ∧ a ≤ s.size ∧ st = if bad then none else some a
def yyE (l : List UInt8) (a : Nat) : Option (Int × Nat) := (ycY l a).bind fun p => if p.1 ≤ 1099511627776 then some (((p.1 : Nat) : Int), p.2) else none
theorem ydB {l r : List UInt8} {a : Nat} {x : Int} (hx : num x = true) (h : l.drop a = yaJ x.toNat ++ r) : yyE l a = some (x, a + (yaJ x.toNat).length) := by
 have := yd1 hx
 unfold yyE; rw [ydM (by omega) h]
 show (if _ then _ else _) = _
 rw [if_pos (by omega)]
 congr 2; omega
theorem ycZ {s : ByteArray} {br : Nat} {st : Option Nat} {w : World} (hs : s.size ≤ 1000000000000) (h : RdI s br st w) :
  Calls pP 83 #[.pointer (some ⟨br, 0, none⟩)] w fun e w' => ∃ v, e = .returned v ∧ ∃ x : Int, v = .int .i64 x ∧ num x = true ∧ Mod [br] w w' ∧ ∃ st', RdI s br st' w' ∧ st.bind (yyE s.data.toList) = st'.map fun a => (x, a) := by
 obtain ⟨a, bad, h1, ha, rfl⟩ := h
 refine yGs h1 ?_
 intro w1 A1
 refine (yfO s a hs ha w1).mono ?_
 rintro e w2 ⟨v, rfl, hv, rfl⟩
 obtain ⟨n, b, e, rfl, hor⟩ := hv.out
 refine ⟨_, _, _, rfl, yaD.of0 (Mod.refl _), ?_⟩
 have hM : ∀ {w6}, Adv [br] [] w2 w6 → Mod [br] w w6 := fun A6 => A1.mod.trans A6.mod
 refine yaB (fun g w6 A6 h6 => ⟨0, rfl, by decide, hM A6, none, ⟨a, true, h6, ha, rfl⟩, by rw [if_pos g]; rfl⟩) fun g => ?_
 have g : bad = false := g
 subst g
 rcases hor with ⟨rfl, m, rfl, hg⟩ | ⟨he, hg⟩
 ·rw [show ((0 : Int) != 0) = false from rfl, ybB]
  have en : ycY s.data.toList a = some (n, a + m) := by unfold ycY; rw [hg]; rfl
  have hm := ydZ en
  have el : s.data.toList.length = s.size := by simp
  refine yaC (fun g w6 A6 h6 => ⟨0, rfl, by decide, hM A6, none, ⟨a, true, h6, ha, rfl⟩, ?_⟩) fun g w6 A6 h6 => ⟨_, rfl, ?_, hM A6, some (a + m), ⟨a + m, false, h6, by omega, rfl⟩, ?_⟩
  ·show yyE _ a = none
   unfold yyE; rw [en]; show (if _ then _ else _) = _; rw [if_neg (by omega)]
  ·rw [yaG (by omega) (by omega)]; simp [num]; omega
  ·rw [yaG (by omega) (by omega)]
   show yyE _ a = _
   unfold yyE; rw [en]; show (if _ then _ else _) = _; rw [if_pos (by omega)]; rfl
 ·rw [show (e != 0) = true by simpa using he]
  intro w6 A6 h6
  refine ⟨0, rfl, by decide, hM A6, none, ⟨a, true, h6, ha, rfl⟩, ?_⟩
  show yyE _ a = none
  unfold yyE ycY; rw [hg]; rfl
theorem ygN {s : ByteArray} {br : Nat} {st : Option Nat} {w : World} (hs : s.size ≤ 1000000000000) (h : RdI s br st w) :
  Calls pP 85 #[.pointer (some ⟨br, 0, none⟩)] w fun e w' => ∃ v, e = .returned v ∧ ∃ x : ByteArray, v = .string x ∧ Mod [br] w w' ∧ ∃ st', RdI s br st' w' ∧ st.bind (ye2 16 s.data.toList) = st'.map fun a => (x, a) := by
 obtain ⟨a, bad, h1, ha, rfl⟩ := h
 refine yGt h1 ?_
 intro w1 A1
 refine (yb5 s a 16 hs ha (by omega) w1).mono ?_
 rintro e w2 ⟨v, rfl, hv, rfl⟩
 obtain ⟨n, b, e, rfl, hor⟩ := hv.out
 refine ⟨_, _, _, rfl, yaD.of0 (Mod.refl _), ?_⟩
 have hM : ∀ {w6}, Adv [br] [] w2 w6 → Mod [br] w w6 := fun A6 => A1.mod.trans A6.mod
 refine yaB (fun g w6 A6 h6 => ⟨_, rfl, hM A6, none, ⟨a, true, h6, ha, rfl⟩, by rw [if_pos g]; rfl⟩) fun g => ?_
 have g : bad = false := g
 subst g
 rcases hor with ⟨rfl, m, rfl, hg⟩ | ⟨he, hg, _, _⟩
 ·rw [show ((0 : Int) != 0) = false from rfl, ybB]
  have en : ye2 16 s.data.toList a = some (n, a + m) := by unfold ye2; rw [hg]; rfl
  have hm := yh8 en
  have el : s.data.toList.length = s.size := by simp
  intro w6 A6 h6
  exact ⟨_, rfl, hM A6, some (a + m), ⟨a + m, false, h6, by omega, rfl⟩, en⟩
 ·rw [show (e != 0) = true by simpa using he]
  intro w6 A6 h6
  refine ⟨_, rfl, hM A6, none, ⟨a, true, h6, ha, rfl⟩, ?_⟩
  show ye2 16 _ a = none
  unfold ye2; rw [hg]; rfl
theorem ycV {α : Type} {st st1 : Option Nat} {f : Nat → Option (α × Nat)} {x y : α} {a b : Nat} (h : st.bind f = st1.map fun a => (x, a)) (hs : st = some a) (hf : f a = some (y, b)) : st1 = some b ∧ x = y := by
 subst hs
 rw [Option.bind_some, hf] at h
 cases st1 with
 | none => simp at h
 | some c => simp at h; exact ⟨by rw [h.2], h.1.symm⟩
def yGX (o : POp) (c : Nat) (o' : POp) : POp :=
 if c = 116 then { o with part := ⟨o'.part.t, o.part.n⟩ } else if c = 112 then { o with part := o'.part } else if c = 110 then { o with n := o'.n } else if c = 111 then { o with off := o'.off } else if c = 98 then { o with b := o'.b }
 else if c = 103 then { o with g := o'.g } else if c = 109 then { o with m := o'.m } else if c = 101 then { o with gen := o'.gen } else if c = 114 then { o with robin := o'.robin } else { o with topics := o'.topics }
theorem yCw (x : ByteArray) : ∀ u ∈ yjD x, u.oneCell' = true := by simp [yjD, Value.oneCell']
set_option maxHeartbeats 4000000 in
set_option maxRecDepth 20000 in
theorem yGJ {s : ByteArray} {br base : Nat} {st : Option Nat} {w : World} {o : POp} {rs : Sl} {c : Nat} (hs : s.size ≤ 1000000000000) (h : RdI s br st w) (hO : OpOwn w base o rs ya6) (ht : o.topics = []) (hb : base ≤ w.heap.size) (hc : c ∈ [112, 116, 110, 111, 98, 103, 109, 101, 114, 108]) :
  Calls pP 133 #[.pointer (some ⟨br, 0, none⟩), o.v rs ya6, .int .u8 (c : Nat)] w fun e w' => ∃ v, e = .returned v ∧ ∃ (o1 : POp) (rs1 ts1 : Sl) (st1 : Option Nat), v = o1.v rs1 ts1 ∧ OpOwn w' base o1 rs1 ts1 ∧ (c ≠ 108 → o1.topics = [] ∧ ts1 = ya6) ∧
   o1.kind = o.kind ∧ RdI s br st1 w' ∧ Mod [br] w w' ∧ (∀ (a : Nat) (o' : POp) (r : List UInt8), st = some a → OpGood o' → ha o'.kind c = true → s.data.toList.drop a = yg6 o' c ++ r → st1 = some (a + (yg6 o' c).length) ∧ o1 = yGX o c o') := by
 obtain ⟨a0, bad, h1, ha0, hst⟩ := h
 have hlt := ya0 h1
 refine yGu h1 ?_
 intro b1 f1 b2 f2
 have keepO : ∀ {w' : World}, Mod [br] w w' → OpOwn w' base o rs ya6 := fun M => hO.keep M fun k hk cs T hT => by
  simp at hk; subst hk; rw [h1] at hT; cases hT; exact ⟨by decide, by decide⟩
 have fin : ∀ {w4 w9 : World} {x1 : Int} {t1 : Bool}, Mod [br] w w4 → Adv [b2, b1] [] w4 w9 → Mod [br] w w9 := fun M A => (M.trans A.mod).less fun i hi hl => by simp at hi ⊢; omega
 have kE : ∀ {w3 w4 : World}, Mod [br] w3 w4 → yaR [br] [(b1, 49), (b2, 49)] [b1, b2] w3 w4 := fun M => yaD.ofE M fun k hk hl he => he
 refine yaB (fun g w3 A3 h3 => ?_) fun g => ?_
 ·have g : c = 116 := by simp at g; omega
  subst g
  refine (ygN (st := st) hs ⟨a0, bad, h3, ha0, hst⟩).mono ?_
  rintro e w4 ⟨v, rfl, x, rfl, M4, st4, ⟨a4, bad4, h4, ha4, hst4⟩, hq⟩
  refine ⟨_, rfl, kE M4, _, _, _, h4, fun w9 A9 h9 => ?_⟩
  have N := fin (x1 := 0) (t1 := true) (A3.mod.trans M4) A9
  have hO9 := keepO N
  refine ⟨{ o with part := ⟨x, o.part.n⟩ }, rs, ya6, st4, rfl, ⟨hO9.recs, hO9.topics, hO9.lr, hO9.lt⟩, fun _ => ⟨ht, rfl⟩, rfl, ⟨a4, bad4, h9, ha4, hst4⟩, N, fun a o' r hsa G hcc hd => ?_⟩
  obtain ⟨e1, e2⟩ := ycV hq hsa (ycN (s := o'.part.t) (ybP (G.nt (by rw [hcc]; simp))).1 (by have := (ybP (G.nt (by rw [hcc]; simp))).1; omega) hd)
  exact ⟨e1, by rw [e2]; rfl⟩
 have g116 : c ≠ 116 := by simp at g; omega
 refine yaB (fun g w3 A3 h3 => ?_) fun g => ?_
 ·have g : c = 112 := by simp at g; omega
  subst g
  refine (ygN (st := st) hs ⟨a0, bad, h3, ha0, hst⟩).mono ?_
  rintro e w4 ⟨v, rfl, x, rfl, M4, st4, ⟨a4, bad4, h4, ha4, hst4⟩, hq⟩
  refine ⟨_, rfl, kE M4, _, _, _, h4, fun w5 A5 h5 => ?_⟩
  refine (ycZ (st := st4) hs ⟨a4, bad4, h5, ha4, hst4⟩).mono ?_
  rintro e w6 ⟨v, rfl, y, rfl, hy, M6, st6, ⟨a6, bad6, h6, ha6, hst6⟩, hq6⟩
  refine ⟨_, rfl, kE M6, _, _, _, h6, fun w9 A9 h9 => ?_⟩
  have N : Mod [br] w w9 := ((((A3.mod.trans M4).trans A5.mod).trans M6).trans A9.mod).less fun i hi hl => by simp at hi ⊢; omega
  have hO9 := keepO N
  refine ⟨{ o with part := ⟨x, y⟩ }, rs, ya6, st6, rfl, ⟨hO9.recs, hO9.topics, hO9.lr, hO9.lt⟩, fun _ => ⟨ht, rfl⟩, rfl, ⟨a6, bad6, h9, ha6, hst6⟩, N, fun a o' r hsa G hcc hd => ?_⟩
  have hd : s.data.toList.drop a = ybM o'.part.t ++ (yaJ o'.part.n.toNat ++ r) := by rw [hd]; simp [yg6, ycU]
  obtain ⟨e1, e2⟩ := ycV hq hsa (ycN (s := o'.part.t) (ybP (G.nt (by rw [hcc]; simp))).1 (by have := (ybP (G.nt (by rw [hcc]; simp))).1; omega) hd)
  obtain ⟨e3, e4⟩ := ycV hq6 e1 (ydB G.nn.1 (yaU hd))
  refine ⟨by rw [e3]; simp [yg6, ycU]; omega, by rw [e2, e4]; rfl⟩
 have g112 : c ≠ 112 := by simp at g; omega
 refine yaB (fun g w3 A3 h3 => ?_) fun g => ?_
 ·have g : c = 110 := by simp at g; omega
  subst g
  refine (ycZ (st := st) hs ⟨a0, bad, h3, ha0, hst⟩).mono ?_
  rintro e w4 ⟨v, rfl, x, rfl, hx, M4, st4, ⟨a4, bad4, h4, ha4, hst4⟩, hq⟩
  refine ⟨_, rfl, kE M4, _, _, _, h4, fun w9 A9 h9 => ?_⟩
  have N := fin (x1 := 0) (t1 := true) (A3.mod.trans M4) A9
  have hO9 := keepO N
  refine ⟨{ o with n := x }, rs, ya6, st4, rfl, ⟨hO9.recs, hO9.topics, hO9.lr, hO9.lt⟩, fun _ => ⟨ht, rfl⟩, rfl, ⟨a4, bad4, h9, ha4, hst4⟩, N, fun a o' r hsa G hcc hd => ?_⟩
  obtain ⟨e1, e2⟩ := ycV hq hsa (ydB G.nn.2.1 hd)
  exact ⟨e1, by rw [e2]; rfl⟩
 have g110 : c ≠ 110 := by simp at g; omega
 refine yaB (fun g w3 A3 h3 => ?_) fun g => ?_
 ·have g : c = 111 := by simp at g; omega
  subst g
  refine (ycZ (st := st) hs ⟨a0, bad, h3, ha0, hst⟩).mono ?_
  rintro e w4 ⟨v, rfl, x, rfl, hx, M4, st4, ⟨a4, bad4, h4, ha4, hst4⟩, hq⟩
  refine ⟨_, rfl, kE M4, _, _, _, h4, fun w9 A9 h9 => ?_⟩
  have N := fin (x1 := 0) (t1 := true) (A3.mod.trans M4) A9
  have hO9 := keepO N
  refine ⟨{ o with off := x }, rs, ya6, st4, rfl, ⟨hO9.recs, hO9.topics, hO9.lr, hO9.lt⟩, fun _ => ⟨ht, rfl⟩, rfl, ⟨a4, bad4, h9, ha4, hst4⟩, N, fun a o' r hsa G hcc hd => ?_⟩
  obtain ⟨e1, e2⟩ := ycV hq hsa (ydB G.nn.2.2.1 hd)
  exact ⟨e1, by rw [e2]; rfl⟩
 have g111 : c ≠ 111 := by simp at g; omega
 refine yaB (fun g => ?_) fun g => ?_
 ·have g : c = 98 := by simp at g; omega
  subst g
  have el : s.data.toList.length = s.size := by simp
  have tail : ∀ {w3 w4 w9 : World} {N1 N2 : List Nat} {v : Value} {b : PBatch} {rs1 : Sl} {x e : Int} {bd : Bool}, Adv [] N1 w w3 → yq3 w3 w4 (yjE s.data.toList a0) v → Mod [] w3 w4 → (∀ i ∈ N2, i < w3.heap.size ∧ (i = br ∨ w.heap.size ≤ i)) →
    v = .tuple #[b.v rs1, .int .i64 x, .int .i64 e] → Mod N2 w4 w9 → w9.heap[br]? = some (.cells #[.string s, .int .i64 x, .bool bd] InT) → (bd = (bad || (e != 0))) →
    (∃ (o1 : POp) (rs1' ts1 : Sl) (st1 : Option Nat), ({ o with b := b } : POp).v rs1 ya6 = o1.v rs1' ts1 ∧ OpOwn w9 base o1 rs1' ts1 ∧ (98 ≠ 108 → o1.topics = [] ∧ ts1 = ya6) ∧ o1.kind = o.kind ∧ RdI s br st1 w9 ∧ Mod [br] w w9 ∧ (∀ (a : Nat) (o' : POp) (r : List UInt8), st = some a → OpGood o' → ha o'.kind 98 = true → s.data.toList.drop a = yg6 o' 98 ++ r → st1 = some (a + (yg6 o' 98).length) ∧ o1 = yGX o 98 o')) := by
   intro w3 w4 w9 N1 N2 v b rs1 x e bd A3 hv M4 hN2 hve M9 h9 hbd
   have N : Mod [br] w w9 := ((A3.mod.trans M4).trans M9).less fun i hi hl => by
    simp at hi ⊢
    have := hN2 i hi; omega
   have hO9 := keepO N
   have s3 := A3.mod.size
   have s4 := M4.size
   cases hbat : yjE s.data.toList a0 with
   | none =>
    rw [hbat] at hv
    obtain ⟨e', he', hv⟩ := hv
    rw [hve] at hv
    obtain ⟨pr, ep, sq, rl⟩ := b
    obtain ⟨ra, rn, rc⟩ := rs1
    simp only [PBatch.v, Value.tuple.injEq, Array.mk.injEq, List.cons.injEq, Value.agg.injEq, Value.int.injEq, Value.slice.injEq, and_true, true_and] at hv
    obtain ⟨⟨rfl, rfl, rfl, rfl, rfl, rfl⟩, rfl, rfl⟩ := hv
    have hbt : bd = true := by rw [hbd]; simp [he']
    subst hbt
    refine ⟨{ o with b := ybK }, ya6, ya6, none, rfl, ⟨Row.nil .., hO9.topics, by simp [ybK], hO9.lt⟩, fun _ => ⟨ht, rfl⟩, rfl, ⟨0, true, h9, by omega, rfl⟩, N, fun a o' r hsa G hcc hd => ?_⟩
    rw [hst] at hsa
    cases bad with
    | true => cases hsa
    | false =>
     cases hsa
     rw [yn5 (G.b (yKM G.k.1 G.k.2 hcc)) hd] at hbat
     cases hbat
   | some p =>
    obtain ⟨b', a'⟩ := p
    rw [hbat] at hv
    obtain ⟨rs', hv, hRow, hl16⟩ := hv
    rw [hve] at hv
    obtain ⟨pr, ep, sq, rl⟩ := b
    obtain ⟨ra, rn, rc⟩ := rs1
    obtain ⟨pr', ep', sq', rl'⟩ := b'
    obtain ⟨ra', rn', rc'⟩ := rs'
    simp only [PBatch.v, Value.tuple.injEq, Array.mk.injEq, List.cons.injEq, Value.agg.injEq, Value.int.injEq, Value.slice.injEq, and_true, true_and] at hv
    obtain ⟨⟨rfl, rfl, rfl, rfl, rfl, rfl⟩, rfl, rfl⟩ := hv
    have hle := yBr (by omega) hbat
    have hR9 : Row w9 base 53 4 yg2 ra rn rc rl' := by
     refine (hRow.keep M9 fun ad ha hk => ?_).rebase (by omega)
     obtain ⟨hb1, cur, hcur⟩ := hRow.block ad ha
     have := (hN2 _ hk).1
     omega
    refine ⟨{ o with b := ⟨pr, ep, sq, rl'⟩ }, ⟨ra, rn, rc⟩, ya6, if bd then none else some a', rfl, ⟨hR9, hO9.topics, by show rl'.length ≤ _; simp at hl16; omega, hO9.lt⟩, fun _ => ⟨ht, rfl⟩, rfl, ⟨a', bd, h9, by omega, rfl⟩, N, fun a o' r hsa G hcc hd => ?_⟩
    rw [hst] at hsa
    cases bad with
    | true => cases hsa
    | false =>
     cases hsa
     rw [yn5 (G.b (yKM G.k.1 G.k.2 hcc)) hd] at hbat
     simp only [Option.some.injEq, Prod.mk.injEq] at hbat
     obtain ⟨hb', rfl⟩ := hbat
     have : bd = false := by rw [hbd]; rfl
     subst this
     exact ⟨rfl, by rw [← hb']; rfl⟩
  refine ⟨fun b37 f37 w3 A3 => ?_, fun w3 A3 => ?_⟩
  ·have l1 := A3.lt b1 (by simp)
   have l2 := A3.lt b2 (by simp)
   have l3 := A3.lt b37 (by simp)
   have s3 := A3.mod.size
   refine (ym6 s a0 hs ha0 w3).mono ?_
   rintro e w4 ⟨v, rfl, hv, M4⟩
   obtain ⟨b, rs1, x, e, rfl⟩ : ∃ (b : PBatch) (rs1 : Sl) (x e : Int), v = .tuple #[b.v rs1, .int .i64 x, .int .i64 e] := by
    cases hbat : yjE s.data.toList a0 with
    | none => rw [hbat] at hv; obtain ⟨e, _, rfl⟩ := hv; exact ⟨ybK, ya6, _, _, rfl⟩
    | some p => rw [hbat] at hv; obtain ⟨rs', hv, _⟩ := hv; exact ⟨_, _, _, _, hv⟩
   refine ⟨_, _, _, _, _, _, _, _, rfl, yaD.of0 M4, yaB (fun g w9 A9 h9 => tail A3 hv M4 (fun i hi => ?_) rfl A9.mod h9 (by rw [g]; rfl)) fun g w9 A9 h9 => tail A3 hv M4 (fun i hi => ?_) rfl A9.mod h9 (by rw [g]; rfl)⟩
   ·simp at hi; omega
   ·simp at hi; omega
  ·have l1 := A3.lt b1 (by simp)
   have l2 := A3.lt b2 (by simp)
   have s3 := A3.mod.size
   refine (ym6 s a0 hs ha0 w3).mono ?_
   rintro e w4 ⟨v, rfl, hv, M4⟩
   obtain ⟨b, rs1, x, e, rfl⟩ : ∃ (b : PBatch) (rs1 : Sl) (x e : Int), v = .tuple #[b.v rs1, .int .i64 x, .int .i64 e] := by
    cases hbat : yjE s.data.toList a0 with
    | none => rw [hbat] at hv; obtain ⟨e, _, rfl⟩ := hv; exact ⟨ybK, ya6, _, _, rfl⟩
    | some p => rw [hbat] at hv; obtain ⟨rs', hv, _⟩ := hv; exact ⟨_, _, _, _, hv⟩
   refine ⟨_, _, _, _, _, _, _, _, rfl, yaD.of0 M4, fun b60 f60 => yaB (fun g w9 A9 h9 => tail A3 hv M4 (fun i hi => ?_) rfl A9.mod h9 (by rw [g]; rfl)) fun g w9 A9 h9 => tail A3 hv M4 (fun i hi => ?_) rfl A9.mod h9 (by rw [g]; rfl)⟩
   ·simp at hi; omega
   ·simp at hi; omega
 have g98 : c ≠ 98 := by simp at g; omega
 refine yaB (fun g w3 A3 h3 => ?_) fun g => ?_
 ·have g : c = 103 := by simp at g; omega
  subst g
  refine (ygN (st := st) hs ⟨a0, bad, h3, ha0, hst⟩).mono ?_
  rintro e w4 ⟨v, rfl, x, rfl, M4, st4, ⟨a4, bad4, h4, ha4, hst4⟩, hq⟩
  refine ⟨_, rfl, kE M4, _, _, _, h4, fun w9 A9 h9 => ?_⟩
  have N := fin (x1 := 0) (t1 := true) (A3.mod.trans M4) A9
  have hO9 := keepO N
  refine ⟨{ o with g := x }, rs, ya6, st4, rfl, ⟨hO9.recs, hO9.topics, hO9.lr, hO9.lt⟩, fun _ => ⟨ht, rfl⟩, rfl, ⟨a4, bad4, h9, ha4, hst4⟩, N, fun a o' r hsa G hcc hd => ?_⟩
  have hn := (ybP (G.ng hcc)).1
  obtain ⟨e1, e2⟩ := ycV hq hsa (ycN (s := o'.g) hn (by omega) hd)
  exact ⟨e1, by rw [e2]; rfl⟩
 have g103 : c ≠ 103 := by simp at g; omega
 refine yaB (fun g w3 A3 h3 => ?_) fun g => ?_
 ·have g : c = 109 := by simp at g; omega
  subst g
  refine (ygN (st := st) hs ⟨a0, bad, h3, ha0, hst⟩).mono ?_
  rintro e w4 ⟨v, rfl, x, rfl, M4, st4, ⟨a4, bad4, h4, ha4, hst4⟩, hq⟩
  refine ⟨_, rfl, kE M4, _, _, _, h4, fun w9 A9 h9 => ?_⟩
  have N := fin (x1 := 0) (t1 := true) (A3.mod.trans M4) A9
  have hO9 := keepO N
  refine ⟨{ o with m := x }, rs, ya6, st4, rfl, ⟨hO9.recs, hO9.topics, hO9.lr, hO9.lt⟩, fun _ => ⟨ht, rfl⟩, rfl, ⟨a4, bad4, h9, ha4, hst4⟩, N, fun a o' r hsa G hcc hd => ?_⟩
  have hn := (ybP (G.nm hcc)).1
  obtain ⟨e1, e2⟩ := ycV hq hsa (ycN (s := o'.m) hn (by omega) hd)
  exact ⟨e1, by rw [e2]; rfl⟩
 have g109 : c ≠ 109 := by simp at g; omega
 refine yaB (fun g w3 A3 h3 => ?_) fun g => ?_
 ·have g : c = 101 := by simp at g; omega
  subst g
  refine (ycZ (st := st) hs ⟨a0, bad, h3, ha0, hst⟩).mono ?_
  rintro e w4 ⟨v, rfl, x, rfl, hx, M4, st4, ⟨a4, bad4, h4, ha4, hst4⟩, hq⟩
  refine ⟨_, rfl, kE M4, _, _, _, h4, fun w9 A9 h9 => ?_⟩
  have N := fin (x1 := 0) (t1 := true) (A3.mod.trans M4) A9
  have hO9 := keepO N
  refine ⟨{ o with gen := x }, rs, ya6, st4, rfl, ⟨hO9.recs, hO9.topics, hO9.lr, hO9.lt⟩, fun _ => ⟨ht, rfl⟩, rfl, ⟨a4, bad4, h9, ha4, hst4⟩, N, fun a o' r hsa G hcc hd => ?_⟩
  obtain ⟨e1, e2⟩ := ycV hq hsa (ydB G.nn.2.2.2 hd)
  exact ⟨e1, by rw [e2]; rfl⟩
 have g101 : c ≠ 101 := by simp at g; omega
 refine yaB (fun g w3 A3 h3 => ?_) fun g => ?_
 ·have g : c = 114 := by simp at g; omega
  subst g
  refine (ycZ (st := st) hs ⟨a0, bad, h3, ha0, hst⟩).mono ?_
  rintro e w4 ⟨v, rfl, x, rfl, hx, M4, st4, ⟨a4, bad4, h4, ha4, hst4⟩, hq⟩
  refine ⟨_, rfl, kE M4, _, _, _, h4, fun w9 A9 h9 => ?_⟩
  have N := fin (x1 := 0) (t1 := true) (A3.mod.trans M4) A9
  have hO9 := keepO N
  refine ⟨{ o with robin := x == 1 }, rs, ya6, st4, rfl, ⟨hO9.recs, hO9.topics, hO9.lr, hO9.lt⟩, fun _ => ⟨ht, rfl⟩, rfl, ⟨a4, bad4, h9, ha4, hst4⟩, N, fun a o' r hsa G hcc hd => ?_⟩
  have ef : ((yfR o'.robin : Nat) : Int).toNat = yfR o'.robin := by omega
  obtain ⟨e1, e2⟩ := ycV hq hsa (ydB (x := (yfR o'.robin : Nat)) (by cases o'.robin <;> decide) (by rw [ef]; exact hd))
  rw [ef] at e1
  refine ⟨e1, ?_⟩
  rw [e2]
  show ({ o with robin := _ } : POp) = { o with robin := o'.robin }
  congr 1
  cases o'.robin <;> rfl
 have g114 : c ≠ 114 := by simp at g; omega
 have hc8 : c = 108 := by simp at hc; omega
 subst hc8
 intro w3 A3 h3
 have l1 := A3.lt b1 (by simp)
 have l2 := A3.lt b2 (by simp)
 have s3 := A3.mod.size
 refine (ycZ (st := st) hs ⟨a0, bad, h3, ha0, hst⟩).mono ?_
 rintro e w4 ⟨v, rfl, k, rfl, hk, M4, st4, ⟨a4, bad4, h4, ha4, hst4⟩, hq⟩
 have s4 := M4.size
 refine ⟨_, rfl, kE M4, _, _, _, h4, ?_⟩
 have N4 : Mod [br] w w4 := A3.mod.trans M4
 refine yxO (fun mm i s0 x0 t0 ar nr cr w' => ∃ (j : Nat) (xs : List ByteArray) (a1 : Nat) (st1 : Option Nat), i = j ∧ xs.length = j ∧ j ≤ 9 ∧ s0 = s ∧ x0 = a1 ∧ a1 ≤ s.size ∧ (st1 = if t0 then none else some a1) ∧ Mod [br] w w' ∧ w4.heap.size ≤ w'.heap.size ∧
   Row w' w4.heap.size 9 1 yjD ar nr cr xs ∧ (∀ (a : Nat) (o' : POp) (r : List UInt8), st = some a → OpGood o' → ha o'.kind 108 = true → s.data.toList.drop a = ydT o'.topics ++ r →
    k = (o'.topics.length : Nat) ∧ j ≤ o'.topics.length ∧ st1 = some (a + (yaJ o'.topics.length).length + ((o'.topics.take j).flatMap ybM).length) ∧ xs = o'.topics.take j) ∧ mm = 9 - j) 9
  ⟨0, [], a4, st4, rfl, rfl, by omega, rfl, rfl, ha4, hst4, N4, Nat.le_refl _, Row.nil .., fun a o' r hsa G hcc hd => ?_, rfl⟩ ?_
 ·have hd : s.data.toList.drop a = yaJ ((o'.topics.length : Nat) : Int).toNat ++ (o'.topics.flatMap ybM ++ r) := by rw [hd, Int.toNat_natCast]; simp [ydT]
  have hl8 := (yfK (G.nl hcc)).1
  obtain ⟨e1, e2⟩ := ycV hq hsa (ydB (by simp [num]; omega) hd)
  refine ⟨e2, by omega, by rw [e1, Int.toNat_natCast]; simp, by simp⟩
 rintro mm i s0 x0 t0 ar nr cr w5 ⟨j, xs, a1, st1, rfl, hxl, hj9, rfl, rfl, ha1, hst1, N5, s5, hRow, himp, rfl⟩ h5
 have done : ∀ {w9 : World}, Adv [b2] [] w5 w9 → w9.heap[br]? = some (.cells #[.string s0, .int .i64 (a1 : Nat), .bool t0] InT) → ((∀ (a : Nat) (o' : POp) (r : List UInt8), st = some a → OpGood o' → ha o'.kind 108 = true → s0.data.toList.drop a = ydT o'.topics ++ r → j = o'.topics.length)) →
   ∃ (o1 : POp) (rs1 ts1 : Sl) (st1 : Option Nat), Value.agg #[.int .i64 o.kind, .string o.part.t, .int .i64 o.part.n, .int .i64 o.n, .int .i64 o.off, .int .i64 o.b.prod, .int .i64 o.b.epoch, .int .i64 o.b.seq, .slice rs.a rs.n rs.c, .string o.g, .string o.m, .int .i64 o.gen, .bool o.robin, .slice ar nr cr] = o1.v rs1 ts1 ∧ OpOwn w9 base o1 rs1 ts1 ∧ (108 ≠ 108 → o1.topics = [] ∧ ts1 = ya6) ∧
   o1.kind = o.kind ∧ RdI s0 br st1 w9 ∧ Mod [br] w w9 ∧ (∀ (a : Nat) (o' : POp) (r : List UInt8), st = some a → OpGood o' → ha o'.kind 108 = true → s0.data.toList.drop a = yg6 o' 108 ++ r → st1 = some (a + (yg6 o' 108).length) ∧ o1 = yGX o 108 o') := by
  intro w9 A9 h9 hfull
  have N : Mod [br] w w9 := (N5.trans A9.mod).less fun i hi hl => by simp at hi ⊢; omega
  have hO9 := keepO N
  have hR9 : Row w9 base 9 1 yjD ar nr cr xs := by
   refine (hRow.keep A9.mod fun ad ha hk => ?_).rebase (by omega)
   have := hRow.base ad ha; simp at hk; omega
  refine ⟨{ o with topics := xs }, rs, ⟨ar, nr, cr⟩, st1, rfl, ⟨hO9.recs, hR9, hO9.lr, by show xs.length ≤ _; omega⟩, fun h => absurd rfl h, rfl, ⟨a1, t0, h9, ha1, hst1⟩, N, fun a o' r hsa G hcc hd => ?_⟩
  obtain ⟨e1, e2, e3, e4⟩ := himp a o' r hsa G hcc hd
  have ej := hfull a o' r hsa G hcc hd
  rw [ej, List.take_length] at e3 e4
  refine ⟨by rw [e3]; show some (_ : Nat) = some (a + (ydT o'.topics).length); congr 1; simp [ydT]; omega, by rw [e4]; rfl⟩
 refine yaC (fun hlt => ?_) fun hge => fun w9 A9 h9 => done A9 h9 fun a o' r hsa G hcc hd => ?_
 ·refine yaB (fun gb => ?_) fun gb => fun w9 A9 h9 => done A9 h9 fun a o' r hsa G hcc hd => ?_
  ·have gb : t0 = false := by simpa using gb
   subst gb
   refine yaC (fun hl9 => ?_) fun hg9 => fun w9 A9 h9 => done A9 h9 fun a o' r hsa G hcc hd => ?_
   ·intro w6 A6 h6
    have s6 := A6.mod.size
    refine (ygN (st := st1) hs ⟨a1, false, h6, ha1, hst1⟩).mono ?_
    rintro e w7 ⟨v, rfl, x, rfl, M7, st7, ⟨a7, bad7, h7, ha7, hst7⟩, hq7⟩
    have s7 := M7.size
    refine ⟨_, rfl, kE M7, _, _, _, h7, rfl, ?_⟩
    refine ydO fun b8 w8 c8 M8 f8 => ?_
    have s8 := M8.size
    have K8 : Mod [br] w5 w8 := ((A6.mod.trans M7).trans M8).less fun i hi hl => by simp at hi ⊢; omega
    have hR8 : Row w8 w4.heap.size 9 1 yjD ar nr cr xs := hRow.keep K8 fun ad ha hk => by have := hRow.base ad ha; simp at hk; omega
    obtain ⟨i0, hi, hz0, hz1, hz2⟩ := info_parts yFG
    refine ycG (x := x) hR8 Tryz.underlying47 hi hz0 hz1 hz2 rfl (by decide) c8 rfl (yCw _) (by omega) (by unfold maxLen; omega) (by omega) fun a' c' w9 hR9 hM9 => ?_
    have M9 := hM9 _ (yeC ar)
    have s9 := M9.size
    have hrow := yaW hRow
    refine ⟨yaD.of M9 fun b hb _ hb' => ?_, ?_⟩
    ·have := hrow b hb'; simp at hb; omega
    intro w10 A10 h10
    have s10 := A10.mod.size
    refine yxN (9 - (j + 1)) (by omega) ⟨j + 1, xs ++ [x], a7, st7, by rw [yaG (by omega) (by omega)]; omega, by rw [List.length_append, hxl]; rfl, by omega, rfl, rfl, ha7, hst7, ?_, by omega, ?_, fun a o' r hsa G hcc hd => ?_, rfl⟩
    ·refine (((N5.trans K8).trans M9).trans A10.mod).less fun i hi hl => ?_
     simp only [List.mem_append, List.mem_singleton] at hi ⊢
     rcases hi with ((h | h) | h) | h
     ·exact h
     ·exact h
     ·have := hrow i h; omega
     ·omega
    ·refine hR9.keep A10.mod fun ad ha hk => ?_
     have := hR9.base ad ha; simp at hk; omega
    ·obtain ⟨e1, e2, e3, e4⟩ := himp a o' r hsa G hcc hd
     have hlt' : j < o'.topics.length := by omega
     obtain ⟨y, hy⟩ : ∃ y, o'.topics[j]? = some y := ⟨_, List.getElem?_eq_getElem hlt'⟩
     have hy16 := (yfK (G.nl hcc)).2 y (List.mem_of_getElem? hy)
     have hsplit : o'.topics.flatMap ybM = (o'.topics.take j).flatMap ybM ++ (ybM y ++ (o'.topics.drop (j + 1)).flatMap ybM) := by
      conv => lhs; rw [← List.take_append_drop j o'.topics]
      rw [List.flatMap_append]
      congr 1
      obtain ⟨hl, he⟩ := List.getElem?_eq_some_iff.1 hy
      rw [List.drop_eq_getElem_cons hl, he, List.flatMap_cons]
     have hd2 : s0.data.toList.drop a = yaJ o'.topics.length ++ ((o'.topics.take j).flatMap ybM ++ (ybM y ++ ((o'.topics.drop (j + 1)).flatMap ybM ++ r))) := by
      rw [hd, ydT, hsplit]; simp
     have hd3 := yaU (yaU hd2)
     obtain ⟨e5, e6⟩ := ycV hq7 e3 (ycN (s := y) hy16 (by omega) hd3)
     refine ⟨e1, by omega, ?_, ?_⟩
     ·rw [e5, ya9 hy, List.length_append]; congr 1; omega
     ·rw [e4, e6, List.take_add_one, hy]; rfl
   ·obtain ⟨e1, e2, e3, e4⟩ := himp a o' r hsa G hcc hd
    have := (yfK (G.nl hcc)).1
    omega
  ·have gb : t0 = true := by simpa using gb
   obtain ⟨e1, e2, e3, e4⟩ := himp a o' r hsa G hcc hd
   rw [hst1, gb] at e3; cases e3
 ·obtain ⟨e1, e2, e3, e4⟩ := himp a o' r hsa G hcc hd
  omega
theorem yKb {o : POp} (G : OpGood o) : (ygE o.kind).foldl (fun x c => yGX x c o) (ygG o.kind) = o := by
 obtain ⟨hk, ⟨n1, n2, n3, n4⟩, hT, hG, hMm, hL, hb, ho⟩ := G
 obtain ⟨kd, pt, n, off, b, g, m, gen, robin, topics⟩ := o
 simp only at hk hT hG hMm hL hb n1 n2 n3 n4
 have hk : kd = 0 ∨ kd = 1 ∨ kd = 2 ∨ kd = 3 ∨ kd = 4 ∨ kd = 5 ∨ kd = 6 ∨ kd = 7 ∨ kd = 8 ∨ kd = 9 ∨ kd = 10 ∨ kd = 11 ∨ kd = 12 := by omega
 obtain ⟨pt, pn⟩ := pt
 rcases hk with rfl | rfl | rfl | rfl | rfl | rfl | rfl | rfl | rfl | rfl | rfl | rfl | rfl
 all_goals
  simp [yeH, ha, ygE, ymS, and_assoc] at ho
  simp [ygE, yGX, ygG, ho]
theorem yCx {k : Int} (h0 : 0 ≤ k) (h1 : k ≤ 12) {i : Nat} (h : (ygE k)[i]? = some 108) : i + 1 = (ygE k).length := by
  have hi := (List.getElem?_eq_some_iff.1 h).1
  have hl : (ygE k).length ≤ 5 := by have := yhR h0 h1; rwa [ypA] at this
  rcases ycO h0 h1 with rfl | rfl | rfl | rfl | rfl | rfl | rfl | rfl | rfl | rfl | rfl | rfl | rfl <;>
    (have h5 : i = 0 ∨ i = 1 ∨ i = 2 ∨ i = 3 ∨ i = 4 := by omega
     rcases h5 with rfl | rfl | rfl | rfl | rfl <;> simp [ygE] at h ⊢)
theorem OpOwn.keepD {S : List Nat} {w w' : World} {base : Nat} {o : POp} {rs ts : Sl} (h : OpOwn w base o rs ts) (M : Mod S w w') (hS : ∀ k ∈ S, k < base) : OpOwn w' base o rs ts :=
 ⟨h.recs.keep M fun ad ha hk => by have := h.recs.base ad ha; have := hS _ hk; omega, h.topics.keep M fun ad ha hk => by have := h.topics.base ad ha; have := hS _ hk; omega, h.lr, h.lt⟩
theorem yDH (w : World) (base : Nat) (k : Int) : OpOwn w base (ygG k) ya6 ya6 := ⟨Row.nil .., Row.nil .., by simp [ygG, ybK], by simp [ygG]⟩
set_option maxHeartbeats 4000000 in
set_option maxRecDepth 20000 in
theorem yDI {s : ByteArray} (hs : s.size ≤ 900000) (w : World) :
  Calls pP 115 #[.string s] w fun e w' => ∃ v, e = .returned v ∧ yq6 w w' (ykT s) v ∧ Mod [] w w' := by
 refine yGv ?_
 intro b1 f1 b2 f2 w3 A3 h3
 have l1 := A3.lt b1 (by simp)
 have l2 := A3.lt b2 (by simp)
 have s3 := A3.mod.size
 refine (ycZ (st := some 0) (by omega) ⟨0, false, h3, by omega, rfl⟩).mono ?_
 rintro e w4 ⟨v, rfl, k, rfl, hk, M4, st4, ⟨a4, bad4, h4, ha4, hst4⟩, hq⟩
 have s4 := M4.size
 refine ⟨_, rfl, yaD.ofE M4 fun k hk hl he => he, _, _, _, h4, ?_⟩
 have N4 : Mod [] w w4 := (A3.mod.trans M4).new fun i hi => by simp at hi; omega
 have canon : ∀ {o : POp}, opE o = 0 → s = bs (opB o) → o.kind = k ∧ st4 = some (yaJ o.kind.toNat).length := fun {o} he hso => by
  have G := OpGood.of he
  have hk := G.k
  obtain ⟨e1, e2⟩ := ycV (a := 0) hq rfl (ydB (r := ybI o) (x := o.kind) (by simp [num]; omega) (by rw [hso, ycI]; rfl))
  exact ⟨e2.symm, by rw [e1]; simp⟩
 have bad : ∀ {w' : World}, Mod [] w w' → (¬ ∃ o, opE o = 0 ∧ s = bs (opB o)) → (yq6 w w' (ykT s) (op0.v ya6 ya6 |> fun x => .tuple #[x, .int .i64 40])) ∧ Mod [] w w' := fun M hn => ⟨by rw [yBv hn]; rfl, M⟩
 have hk := yd1 hk
 intro b9 f9
 refine yaB (fun g w5 A5 h5 => bad (N4.go0 A5.mod (by simp; omega)) ?_) fun g => ?_
 ·rintro ⟨o, he, hso⟩
  have := (canon he hso).2
  rw [hst4, g] at this; cases this
 have g : bad4 = false := g
 subst g
 refine yaC (fun g w5 A5 h5 => bad (N4.go0 A5.mod (by simp; omega)) ?_) fun g => ?_
 ·rintro ⟨o, he, hso⟩
  have := (canon he hso).1
  have := (OpGood.of he).k
  omega
 have k0 : 0 ≤ k := hk.1
 have k1 : k ≤ 12 := by omega
 intro w5 A5 h5
 have l9 := A5.lt b9 (by simp)
 have s5 := A5.mod.size
 refine (yvU k0 k1 w5).mono ?_
 rintro _ w6 ⟨rfl, M6⟩
 have s6 := M6.size
 have h6 := M6.keep0 h5
 refine ⟨_, rfl, yaD.of0 M6, _, _, _, h6, ?_⟩
 have N6 : Mod [] w w6 := (N4.go0 A5.mod (by simp)).go0 M6 (by simp)
 have hlen := ypA (k := k)
 have hsz5 := yhR k0 k1
 refine yxQ (fun mm x7 s0 x1 t2 y0 y1 y2 y3 y4 y5 y6 y7 ra rn rc y9 y10 y11 y12 ta tn tc w' => ∃ (i : Nat) (o : POp) (rs ts : Sl) (a1 : Nat) (st1 : Option Nat), x7 = i ∧ i ≤ (yfJ k).size ∧ s0 = s ∧ x1 = a1 ∧ a1 ≤ s.size ∧ (st1 = if t2 then none else some a1) ∧
   y0 = o.kind ∧ y1 = o.part.t ∧ y2 = o.part.n ∧ y3 = o.n ∧ y4 = o.off ∧ y5 = o.b.prod ∧ y6 = o.b.epoch ∧ y7 = o.b.seq ∧ ra = rs.a ∧ rn = rs.n ∧ rc = rs.c ∧ y9 = o.g ∧ y10 = o.m ∧ y11 = o.gen ∧ y12 = o.robin ∧ ta = ts.a ∧ tn = ts.n ∧ tc = ts.c ∧
   OpOwn w' w6.heap.size o rs ts ∧ (i < (yfJ k).size → o.topics = [] ∧ ts = ya6) ∧ o.kind = k ∧ Mod [] w w' ∧ w6.heap.size ≤ w'.heap.size ∧
   (∀ o', opE o' = 0 → s = bs (opB o') → st1 = some (yaJ o'.kind.toNat ++ ((ygE k).take i).flatMap (yg6 o')).length ∧ o = ((ygE k).take i).foldl (fun x c => yGX x c o') (ygG k)) ∧ mm = (yfJ k).size - i) (yfJ k).size
  ⟨0, ygG k, ya6, ya6, a4, st4, rfl, by omega, rfl, rfl, ha4, hst4, rfl, rfl, rfl, rfl, rfl, rfl, rfl, rfl, rfl, rfl, rfl, rfl, rfl, rfl, rfl, rfl, rfl, rfl, yDH _ _ _, fun _ => ⟨rfl, rfl⟩, rfl, N6, Nat.le_refl _, fun o' he hso => ⟨by rw [(canon he hso).2]; simp, rfl⟩, rfl⟩ ?_
 rintro mm x7 s0 x1 t2 y0 y1 y2 y3 y4 y5 y6 y7 ra rn rc y9 y10 y11 y12 ta tn tc w7 ⟨i, o, rs, ts, a1, st1, rfl, hi, rfl, rfl, ha1, hst1, rfl, rfl, rfl, rfl, rfl, rfl, rfl, rfl, rfl, rfl, rfl, rfl, rfl, rfl, rfl, rfl, rfl, rfl, hO, hts, hok, N7, s7, himp, rfl⟩ h7
 have fin : (t2 = true ∨ i = (yfJ k).size) → Calls pP 64 #[o.v rs ts] w7 fun e w43 => ∃ (s44 : ByteArray) (x45 : Int), e = .returned (.tuple #[.string s44, .int .i64 x45]) ∧ yaR [b2] [(b1, 49), (b9, 49)] [b1, b9] w7 w43 ∧ ∃ (s46 : ByteArray) (x47 : Int) (t48 : Bool), w43.heap[b2]? = some (.cells #[.string s46, .int .i64 x47, .bool t48] InT) ∧
   brB t48 (
    ∀ w49, Adv [b1] [] w43 w49 → w49.heap[b2]? = some (.cells #[.string s46, .int .i64 x47, .bool t48] InT) →
    yq6 w w49 (ykT s0) (.tuple #[op0.v ya6 ya6, .int .i64 40]) ∧ Mod [] w w49)
   (
    brB (x45 != 0) (
     ∀ w50, Adv [b1] [] w43 w50 → w50.heap[b2]? = some (.cells #[.string s46, .int .i64 x47, .bool t48] InT) →
     yq6 w w50 (ykT s0) (.tuple #[op0.v ya6 ya6, .int .i64 40]) ∧ Mod [] w w50)
    (
     brB (!(s44.toList == s0.toList)) (
      ∀ w51, Adv [b1] [] w43 w51 → w51.heap[b2]? = some (.cells #[.string s46, .int .i64 x47, .bool t48] InT) →
      yq6 w w51 (ykT s0) (.tuple #[op0.v ya6 ya6, .int .i64 40]) ∧ Mod [] w w51)
     (
      ∀ w52, Adv [b1] [] w43 w52 → w52.heap[b2]? = some (.cells #[.string s46, .int .i64 x47, .bool t48] InT) →
      yq6 w w52 (ykT s0) (.tuple #[o.v rs ts, .int .i64 0]) ∧ Mod [] w w52))) := by
  intro hcase
  refine (yvZ hO.at).mono ?_
  rintro _ w8 ⟨rfl, M8⟩
  have N8 := N7.go0 M8 (by simp)
  have s8 := M8.size
  have last : ∀ {w9 : World}, Adv [b1] [] w8 w9 → Mod [] w w9 := fun A9 => N8.go0 A9.mod (by simp; omega)
  have full : ∀ o', opE o' = 0 → s0 = bs (opB o') → t2 = false ∧ o = o' := fun o' he hso => by
   obtain ⟨e1, e2⟩ := himp o' he hso
   have ht2 : t2 = false := by
    cases t2 with
    | true => rw [hst1] at e1; cases e1
    | false => rfl
   refine ⟨ht2, ?_⟩
   have hi2 : i = (ygE k).length := by
    rcases hcase with h | h
    ·rw [ht2] at h; cases h
    ·rw [h, hlen]
   rw [hi2, List.take_length] at e2
   have ek := (canon he hso).1
   rw [e2, ← ek]
   exact yKb (OpGood.of he)
  refine ⟨_, _, rfl, yaD.of0 M8, _, _, _, M8.keep0 h7, ?_⟩
  refine yaB (fun g w9 A9 h9 => bad (last A9) ?_) fun g => ?_
  ·rintro ⟨o', he, hso⟩
   rw [(full o' he hso).1] at g; cases g
  refine yaB (fun g2 w9 A9 h9 => bad (last A9) ?_) fun g2 => ?_
  ·rintro ⟨o', he, hso⟩
   rw [(full o' he hso).2, he] at g2; simp at g2
  have g2 : opE o = 0 := by simpa using g2
  rw [if_pos g2]
  refine yaB (fun g3 w9 A9 h9 => bad (last A9) ?_) fun g3 w9 A9 h9 => ?_
  ·rintro ⟨o', he, hso⟩
   rw [(full o' he hso).2, ← hso] at g3; simp at g3
  ·have g3 : bs (opB o) = s0 := ycL.1 (by simpa using g3)
   refine ⟨?_, last A9⟩
   rw [yvH.2 ⟨g2, g3.symm⟩]
   refine ⟨rs, ts, rfl, ?_⟩
   exact ((hO.keep0 M8).keepD A9.mod (fun k hk => by simp at hk; omega)).rebase (by omega)
 refine yaC (fun hlt => ?_) fun hge => fin (.inr (by omega))
 refine yaB (fun gb => ?_) fun gb => fin (.inl (by simpa using gb))
 have gb : t2 = false := by simpa using gb
 subst gb
 obtain ⟨c, hc1, hc2, hc3⟩ := yCd k0 k1 (i := i) (by omega)
 refine ⟨by omega, by omega, ?_⟩
 rw [Int.toNat_natCast, hc2]
 intro w8 A8 h8
 have s8 := A8.mod.size
 obtain ⟨ht, rfl⟩ := hts (by omega)
 refine (yGJ (st := st1) (o := o) (rs := rs) (by omega) ⟨a1, false, h8, ha1, hst1⟩ (hO.keep0 A8.mod) ht (by omega) (yCc k0 k1 hc3)).mono ?_
 rintro _ w9 ⟨v, rfl, o1, rs1, ts1, st9, rfl, hO9, hts9, hk9, ⟨a9, bad9, h9, ha9, hst9⟩, M9, himp9⟩
 have s9 := M9.size
 refine ⟨_, _, _, _, _, _, _, _, _, _, _, _, _, _, _, _, _, _, rfl, yaD.ofE M9 fun k hk hl he => he, _, _, _, h9, ?_⟩
 intro w10 A10 h10
 have s10 := A10.mod.size
 have N10 : Mod [] w w10 := (((N7.trans A8.mod).trans M9).trans A10.mod).new fun i hi => by simp at hi; omega
 refine yxP ((yfJ k).size - (i + 1)) (by omega) ⟨i + 1, o1, rs1, ts1, a9, st9, by rw [yaG (by omega) (by omega)]; omega, by omega, rfl, rfl, ha9, hst9, rfl, rfl, rfl, rfl, rfl, rfl, rfl, rfl, rfl, rfl, rfl, rfl, rfl, rfl, rfl, rfl, rfl, rfl, ?_, fun hi1 => hts9 fun h108 => ?_, by rw [hk9, hok], N10, by omega, fun o' he hso => ?_, rfl⟩
 ·exact hO9.keepD A10.mod (fun k hk => by simp at hk; omega)
 ·subst h108
  have := yCx k0 k1 hc1
  omega
 ·obtain ⟨e1, e2⟩ := himp o' he hso
  have ek := (canon he hso).1
  have G := OpGood.of he
  have hsplit : (ygE k).flatMap (yg6 o') = ((ygE k).take i).flatMap (yg6 o') ++ (yg6 o' c ++ ((ygE k).drop (i + 1)).flatMap (yg6 o')) := by
   conv => lhs; rw [← List.take_append_drop i (ygE k)]
   rw [List.flatMap_append]
   congr 1
   obtain ⟨hl, he⟩ := List.getElem?_eq_some_iff.1 hc1
   rw [List.drop_eq_getElem_cons hl, he, List.flatMap_cons]
  have hd : s0.data.toList.drop (yaJ o'.kind.toNat ++ ((ygE k).take i).flatMap (yg6 o')).length = yg6 o' c ++ ((ygE k).drop (i + 1)).flatMap (yg6 o') := by
   rw [hso, ycI, opB, yeT G.k.1 G.k.2, ek, hsplit, ← List.append_assoc, List.drop_left']
   rfl
  obtain ⟨e3, e4⟩ := himp9 _ o' _ e1 G (by rw [ek]; exact hc3) hd
  refine ⟨by rw [e3, ya9 hc1]; simp only [List.length_append]; congr 1; omega, ?_⟩
  rw [e4, e2, List.take_add_one, hc1, List.foldl_append]
  rfl
set_option maxHeartbeats 2000000 in
set_option maxRecDepth 20000 in
theorem yCy {s : ByteArray} (hs : s.size ≤ 900000) (w : World) :
  Calls pP 82 #[.string s] w fun e w' => ∃ v, e = .returned v ∧ ∃ (x : PCall) (rs ts : Sl) (b : Bool), v = .tuple #[(⟨x, rs, ts⟩ : CV).v, .bool b] ∧ OpOwn w' w.heap.size x.op rs ts ∧ Mod [] w w' ∧
   (∀ x', yfU x' = false → opE x'.op = 0 → s = bs (yc8 x') → b = true ∧ x = x') := by
 refine yGw ?_
 intro b1 f1 w2 A2
 have l1 := A2.lt b1 (by simp)
 have s2 := A2.mod.size
 have el : s.data.toList.length = s.size := by simp
 have bad : ∀ {w' : World}, Mod [] w w' → (∀ x', yfU x' = false → opE x'.op = 0 → s = bs (yc8 x') → False) → ∃ (x : PCall) (rs ts : Sl) (b : Bool), Value.tuple #[(⟨yw4, ya6, ya6⟩ : CV).v, .bool false] = .tuple #[(⟨x, rs, ts⟩ : CV).v, .bool b] ∧ OpOwn w' w.heap.size x.op rs ts ∧ Mod [] w w' ∧
   (∀ x', yfU x' = false → opE x'.op = 0 → s = bs (yc8 x') → b = true ∧ x = x') := fun {w'} M hn => ⟨yw4, ya6, ya6, false, rfl, ykJ w' _, M, fun x' h1 h2 h3 => (hn x' h1 h2 h3).elim⟩
 have can0 : ∀ x', yfU x' = false → opE x'.op = 0 → s = bs (yc8 x') → s.data.toList.drop 0 = yaJ x'.c.toNat ++ (yaJ x'.n.toNat ++ (ybM (bs (opB x'.op)) ++ [])) := fun x' h1 h2 h3 => by
  rw [h3, ycI]; simp [yc8]
 refine (yfO s 0 (by omega) (by omega) w2).mono ?_
 rintro e w3 ⟨v, rfl, hv, rfl⟩
 obtain ⟨n, b, e, rfl, hor⟩ := hv.out
 refine ⟨_, _, _, rfl, yaD.of0 (Mod.refl _), ?_⟩
 have c1 : ∀ x', yfU x' = false → opE x'.op = 0 → s = bs (yc8 x') → ycY s.data.toList 0 = some (x'.c.toNat, 0 + (yaJ x'.c.toNat).length) := fun x' h1 h2 h3 => ydM (by have := yd4 h1; omega) (can0 x' h1 h2 h3)
 rcases hor with ⟨rfl, m, rfl, hg⟩ | ⟨he, hg⟩
 rotate_left
 ·rw [show (e != 0) = true by simpa using he]
  intro w7 A7
  refine bad (A2.mod.go0 A7.mod (by simp; omega)) fun x' h1 h2 h3 => ?_
  have := c1 x' h1 h2 h3
  unfold ycY at this; rw [hg] at this; cases this
 rw [show ((0 : Int) != 0) = false from rfl, ybB]
 have en : ycY s.data.toList 0 = some (n, 0 + m) := by unfold ycY; rw [hg]; rfl
 have hm := ydZ en
 refine yaC (fun g w7 A7 => bad (A2.mod.go0 A7.mod (by simp; omega)) fun x' h1 h2 h3 => ?_) fun g => ?_
 ·have := c1 x' h1 h2 h3
  rw [en] at this
  have := yd4 h1
  simp at *; omega
 refine (yfO s (0 + m) (by omega) (by omega) w3).mono ?_
 rintro e w4 ⟨v, rfl, hv, rfl⟩
 obtain ⟨n2, b, e, rfl, hor⟩ := hv.out
 refine ⟨_, _, _, rfl, yaD.of0 (Mod.refl _), ?_⟩
 have c2 : ∀ x', yfU x' = false → opE x'.op = 0 → s = bs (yc8 x') → x'.c.toNat = n ∧ ycY s.data.toList (0 + m) = some (x'.n.toNat, 0 + m + (yaJ x'.n.toNat).length) ∧ s.data.toList.drop (0 + m) = yaJ x'.n.toNat ++ (ybM (bs (opB x'.op)) ++ []) := fun x' h1 h2 h3 => by
  have h4 := c1 x' h1 h2 h3
  rw [en] at h4
  simp only [Option.some.injEq, Prod.mk.injEq] at h4
  have hd := yaU (can0 x' h1 h2 h3)
  rw [← h4.2] at hd
  exact ⟨h4.1.symm, ydM (by have := yd4 h1; omega) hd, hd⟩
 rcases hor with ⟨rfl, m2, rfl, hg2⟩ | ⟨he, hg2⟩
 rotate_left
 ·rw [show (e != 0) = true by simpa using he]
  intro w7 A7
  refine bad (A2.mod.go0 A7.mod (by simp; omega)) fun x' h1 h2 h3 => ?_
  have := (c2 x' h1 h2 h3).2.1
  unfold ycY at this; rw [hg2] at this; cases this
 rw [show ((0 : Int) != 0) = false from rfl, ybB]
 have en2 : ycY s.data.toList (0 + m) = some (n2, 0 + m + m2) := by unfold ycY; rw [hg2]; rfl
 have hm2 := ydZ en2
 refine yaC (fun g w7 A7 => bad (A2.mod.go0 A7.mod (by simp; omega)) fun x' h1 h2 h3 => ?_) fun g2 => ?_
 ·have := (c2 x' h1 h2 h3).2.1
  rw [en2] at this
  have := yd4 h1
  simp at *; omega
 refine (yb5 s (0 + m + m2) 65536 (by omega) (by omega) (by omega) w4).mono ?_
 rintro e w5 ⟨v, rfl, hv, rfl⟩
 obtain ⟨t, bt, et, rfl, hor⟩ := hv.out
 refine ⟨_, _, _, rfl, yaD.of0 (Mod.refl _), ?_⟩
 have ht : t.size ≤ 900000 := by
  rcases hor with ⟨_, m3, _, hg3⟩ | ⟨_, _, rfl, _⟩
  ·have := yfQ hg3; omega
  ·decide
 refine (yDI (s := t) ht w5).mono ?_
 rintro _ w6 ⟨v, rfl, hv, M6⟩
 have s6 := M6.size
 obtain ⟨o, rs, ts, eo, rfl, hO, heo⟩ : ∃ (o : POp) (rs ts : Sl) (eo : Int), v = .tuple #[o.v rs ts, .int .i64 eo] ∧ OpOwn w6 w5.heap.size o rs ts ∧ (∀ o', ykT t = some o' → eo = 0 ∧ o = o') := by
  cases hg : ykT t with
  | none => rw [hg] at hv; exact ⟨op0, ya6, ya6, 40, hv, ykJ _ _, fun _ h => by cases h⟩
  | some o => rw [hg] at hv; obtain ⟨rs, ts, hv, hO⟩ := hv; exact ⟨o, rs, ts, 0, hv, hO, fun _ h => by cases h; exact ⟨rfl, rfl⟩⟩
 refine ⟨_, _, _, _, _, _, _, _, _, _, _, _, _, _, _, _, _, _, _, rfl, yaD.of0 M6, ?_⟩
 intro b7 f7
 rw [yaG (x := ((n : Nat) : Int)) (by omega) (by omega), yaG (x := ((n2 : Nat) : Int)) (by omega) (by omega)]
 have N6 : Mod [] w w6 := A2.mod.go0 M6 (by simp)
 have c3 : ∀ x', yfU x' = false → opE x'.op = 0 → s = bs (yc8 x') → x'.n.toNat = n2 ∧ et = 0 ∧ eo = 0 ∧ o = x'.op ∧ bt = (s.size : Int) := fun x' h1 h2 h3 => by
  obtain ⟨q1, q2, q3⟩ := c2 x' h1 h2 h3
  rw [en2] at q2
  simp only [Option.some.injEq, Prod.mk.injEq] at q2
  have hd := yaU q3
  rw [← q2.2] at hd
  have lo := yiB (OpGood.of h2)
  have ht := yAt (lim := 65536) (bs (opB x'.op)) [] (by rw [yaE]; omega) (by rw [yaE]; omega)
  rw [← hd] at ht
  rcases hor with ⟨e0, m3, rfl, hg3⟩ | ⟨_, hg3, _, _⟩
  ·rw [hg3] at ht
   simp only [Option.some.injEq, Prod.mk.injEq] at ht
   obtain ⟨rfl, rfl⟩ := ht
   obtain ⟨r1, r2⟩ := heo _ (yoA h2)
   refine ⟨q2.1.symm, e0, r1, r2, ?_⟩
   have hl := congrArg List.length hd
   rw [List.length_drop, List.length_append] at hl
   simp at hl
   have := yaV (bs (opB x'.op)) (by rw [yaE]; omega)
   omega
  ·rw [hg3] at ht; cases ht
 have last : ∀ {w7 : World} (bb : Bool), Adv [b1] [b7] w6 w7 → (∀ x', yfU x' = false → opE x'.op = 0 → s = bs (yc8 x') → bb = true) → ∃ (x : PCall) (rs' ts' : Sl) (b : Bool), Value.tuple #[(⟨⟨(n : Nat), (n2 : Nat), o⟩, rs, ts⟩ : CV).v, .bool bb] = .tuple #[(⟨x, rs', ts'⟩ : CV).v, .bool b] ∧ OpOwn w7 w.heap.size x.op rs' ts' ∧ Mod [] w w7 ∧
   (∀ x', yfU x' = false → opE x'.op = 0 → s = bs (yc8 x') → b = true ∧ x = x') := fun {w7} bb A7 hbb => by
  refine ⟨_, rs, ts, bb, rfl, (hO.keepD A7.mod (fun k hk => by simp at hk; omega)).rebase (by omega), N6.go0 A7.mod (by simp; omega), fun x' h1 h2 h3 => ⟨hbb x' h1 h2 h3, ?_⟩⟩
  obtain ⟨r1, r2, r3, r4, r5⟩ := c3 x' h1 h2 h3
  obtain ⟨q1, _, _⟩ := c2 x' h1 h2 h3
  have := yd4 h1
  obtain ⟨c', n', o'⟩ := x'
  simp only at q1 r1 r4 this
  rw [r4]
  congr 1 <;> omega
 refine yaB (fun g3 => yaB (fun g4 w7 A7 => last _ A7 fun x' h1 h2 h3 => ?_) fun g4 w7 A7 => last _ A7 fun x' h1 h2 h3 => ?_) fun g3 w7 A7 => last _ A7 fun x' h1 h2 h3 => ?_
 ·obtain ⟨r1, r2, r3, r4, r5⟩ := c3 x' h1 h2 h3
  rw [r5]; simp
 ·obtain ⟨r1, r2, r3, r4, r5⟩ := c3 x' h1 h2 h3
  rw [r3] at g4; simp at g4
 ·obtain ⟨r1, r2, r3, r4, r5⟩ := c3 x' h1 h2 h3
  rw [r2] at g3; simp at g3
theorem ytL {s : ByteArray} (h : ¬ ∃ xs, ybY xs = 0 ∧ s = bs (ybG xs)) : ydA s = none := by
 cases hg : ydA s with
 | none => rfl
 | some o => exact absurd ⟨o, ygI.1 hg⟩ h
set_option maxHeartbeats 2000000 in
set_option maxRecDepth 20000 in
theorem ytM {s : ByteArray} (hs : s.size ≤ 900000) (w : World) :
  Calls pP 46 #[.string s] w fun e w' => ∃ v, e = .returned v ∧ yf4 w w' (ydA s) v ∧ Mod [] w w' := by
 have el : s.data.toList.length = s.size := by simp
 refine yGx ?_
 have bad : ∀ {w' : World}, Mod [] w w' → (∀ xs, ybY xs = 0 → s = bs (ybG xs) → False) → yf4 w w' (ydA s) (.tuple #[.slice none 0 0, .int .i64 162]) ∧ Mod [] w w' := fun M hn => ⟨by rw [ytL fun ⟨xs, h1, h2⟩ => hn xs h1 h2]; rfl, M⟩
 have can0 : ∀ xs, ybY xs = 0 → s = bs (ybG xs) → s.data.toList.drop 0 = yaJ xs.length ++ (xs.flatMap yc9 ++ []) := fun xs h1 h2 => by rw [h2, ycI]; simp [ybG]
 refine (yfO s 0 (by omega) (by omega) w).mono ?_
 rintro e w1 ⟨v, rfl, hv, rfl⟩
 obtain ⟨n, b, e, rfl, hor⟩ := hv.out
 refine ⟨_, _, _, rfl, ?_⟩
 have c1 : ∀ xs, ybY xs = 0 → s = bs (ybG xs) → ycY s.data.toList 0 = some (xs.length, 0 + (yaJ xs.length).length) := fun xs h1 h2 => ydM (by have := (yeG h1).1; omega) (can0 xs h1 h2)
 rcases hor with ⟨rfl, m, rfl, hg⟩ | ⟨he, hg⟩
 rotate_left
 ·rw [show (e != 0) = true by simpa using he]
  refine bad (Mod.refl _) fun xs h1 h2 => ?_
  have := c1 xs h1 h2
  unfold ycY at this; rw [hg] at this; cases this
 rw [show ((0 : Int) != 0) = false from rfl, ybB]
 have en : ycY s.data.toList 0 = some (n, 0 + m) := by unfold ycY; rw [hg]; rfl
 have hm := ydZ en
 refine yaC (fun g => bad (Mod.refl _) fun xs h1 h2 => ?_) fun g => ?_
 ·have := c1 xs h1 h2
  rw [en] at this
  have := (yeG h1).1
  simp at *; omega
 refine ydO fun b5 w6 c6 M6 f6 => ?_
 have s6 := M6.size
 refine yxT (fun mm x5 ar nr cr x8 w' => ∃ (j : Nat) (ll : List CV) (a1 : Nat), x8 = j ∧ ll.length = j ∧ j ≤ n ∧ x5 = a1 ∧ a1 ≤ s.size ∧ Mod [] w1 w' ∧ w1.heap.size ≤ w'.heap.size ∧ Row w' w1.heap.size 51 16 CV.cs ar nr cr ll ∧ (∀ q ∈ ll, OpOwn w' w1.heap.size q.x.op q.rs q.ts) ∧
   (∀ xs, ybY xs = 0 → s = bs (ybG xs) → n = xs.length ∧ a1 = (yaJ n ++ (xs.take j).flatMap yc9).length ∧ ll.map (·.x) = xs.take j) ∧ mm = n - j) n
  ⟨0, [], 0 + m, rfl, rfl, by omega, rfl, by omega, M6, s6, Row.fresh0 c6 f6, by simp, fun xs h1 h2 => ?_, rfl⟩ ?_
 ·have := c1 xs h1 h2
  rw [en] at this
  simp only [Option.some.injEq, Prod.mk.injEq] at this
  exact ⟨this.1, by rw [this.2, this.1]; simp, by simp⟩
 rintro mm x5 ar nr cr x8 w7 ⟨j, ll, a1, rfl, hll, hj, rfl, ha1, N7, s7, hRow, hOw, himp, rfl⟩
 rw [yaG (x := ((n : Nat) : Int)) (by omega) (by omega)]
 refine yaC (fun hlt => ?_) fun hge => ?_
 ·refine (yv4 s a1 65536 (by omega) ha1 (by omega) w7).mono ?_
  rintro e w8 ⟨v, rfl, hv, M8⟩
  have s8 := M8.size
  obtain ⟨t, bt, et, rfl, hor⟩ := hv.out
  refine ⟨_, _, _, rfl, ?_⟩
  have ht : t.size ≤ 900000 := by
   rcases hor with ⟨_, m3, _, hg3⟩ | ⟨_, _, rfl, _⟩
   ·have := yqO hg3; omega
   ·decide
  refine (yCy (s := t) ht w8).mono ?_
  rintro _ w9 ⟨v, rfl, x, rs, ts, bb, rfl, hO, M9, himp9⟩
  have s9 := M9.size
  refine ⟨_, _, _, _, _, _, _, _, _, _, _, _, _, _, _, _, _, _, _, _, _, rfl, ?_⟩
  intro b10 f10
  have N9 : Mod [] w1 w9 := (N7.go0 M8 (by simp)).go0 M9 (by simp)
  have can : ∀ xs, ybY xs = 0 → s = bs (ybG xs) → ∃ y, xs[j]? = some y ∧ et = 0 ∧ bb = true ∧ x = y ∧ bt = ((a1 + (yc9 y).length : Nat) : Int) := fun xs h1 h2 => by
   obtain ⟨q1, q2, q3⟩ := himp xs h1 h2
   obtain ⟨y, hy⟩ : ∃ y, xs[j]? = some y := ⟨_, List.getElem?_eq_getElem (by omega)⟩
   obtain ⟨g1, g2⟩ := (yeG h1).2 y (List.mem_of_getElem? hy)
   have hsplit : xs.flatMap yc9 = (xs.take j).flatMap yc9 ++ (yc9 y ++ (xs.drop (j + 1)).flatMap yc9) := by
    conv => lhs; rw [← List.take_append_drop j xs]
    rw [List.flatMap_append]
    congr 1
    obtain ⟨hl, he⟩ := List.getElem?_eq_some_iff.1 hy
    rw [List.drop_eq_getElem_cons hl, he, List.flatMap_cons]
   have hd : s.data.toList.drop a1 = ydP (bs (yc8 y)) ++ (xs.drop (j + 1)).flatMap yc9 := by
    have h0 := can0 xs h1 h2
    rw [hsplit, ← q1, List.drop_zero] at h0
    rw [h0, q2, List.append_nil, ← List.append_assoc, List.drop_left']
    ·rfl
    ·rfl
   have lr := yf1 g1 g2
   have hc := ykI (lim := 65536) (bs (yc8 y)) ((xs.drop (j + 1)).flatMap yc9) (by rw [yaE]; omega) (by rw [yaE]; omega)
   rw [← hd] at hc
   rcases hor with ⟨e0, m3, rfl, hg3⟩ | ⟨_, hg3, _, _⟩
   ·rw [hg3] at hc
    simp only [Option.some.injEq, Prod.mk.injEq] at hc
    obtain ⟨rfl, rfl⟩ := hc
    obtain ⟨r1, r2⟩ := himp9 y g1 g2 rfl
    exact ⟨y, hy, e0, r1, r2, rfl⟩
   ·rw [hg3] at hc; cases hc
  rcases hor with ⟨rfl, m3, rfl, hg3⟩ | ⟨he, hg3, _, _⟩
  rotate_left
  ·rw [show (et != 0) = true by simpa using he]
   intro w10 A10
   refine bad (N9.go0 A10.mod (by simp)) fun xs h1 h2 => ?_
   obtain ⟨y, _, e0, _⟩ := can xs h1 h2
   exact he e0
  rw [show ((0 : Int) != 0) = false from rfl, ybB]
  have hcl := yqO hg3
  rw [List.length_drop] at hcl
  refine yaB (fun gb w10 A10 => ?_) fun gb w10 A10 => ?_
  ·refine bad (N9.go0 A10.mod (by simp)) fun xs h1 h2 => ?_
   obtain ⟨y, _, _, r, _⟩ := can xs h1 h2
   rw [r] at gb; simp at gb
  have s10 := A10.mod.size
  have l10 := A10.lt b10 (by simp)
  refine ydO fun b11 w11 c11 M11 f11 => ?_
  have s11 := M11.size
  have K11 : Mod [] w7 w11 := ((M8.go0 M9 (by simp)).go0 A10.mod (by simp)).go0 M11 (by simp)
  have N11 : Mod [] w1 w11 := N7.go0 K11 (by simp)
  have hR11 := hRow.keep0 K11
  have hO11 := hO.keep0 (A10.mod.go0 M11 (by simp))
  obtain ⟨i0, hi, hz0, hz1, hz2⟩ := info_parts yn4
  refine ycG (x := (⟨x, rs, ts⟩ : CV)) hR11 Tryz.underlying22 hi hz0 hz1 hz2 rfl (by decide) c11 rfl (CV.cs_one _) (by omega) (by unfold maxLen; omega) (by omega) fun a' c' w12 hR12 hM12 => ?_
  have M12 := hM12 _ (yeC ar)
  have s12 := M12.size
  have hnew := hR11.newS
  have hrow := yaW hRow
  have hrow11 := yaW hR11
  refine ⟨yaD.of M12 fun b hb _ hb' => ?_, ?_⟩
  ·have := hrow b hb'; simp at hb; omega
  have keepO : ∀ {o : POp} {rs ts : Sl} {B : Nat}, OpOwn w11 B o rs ts → OpOwn w12 B o rs ts := fun h => h.keep M12 fun k hk cs T hT => by
   obtain ⟨_, _, cur, hc⟩ := hrow11 k hk
   rw [hc] at hT; cases hT; exact ⟨by decide, by decide⟩
  refine yxS (n - (j + 1)) (by omega) ⟨j + 1, ll ++ [⟨x, rs, ts⟩], a1 + m3, by rw [yaG (by omega) (by omega)]; omega, by rw [List.length_append, hll]; rfl, by omega, rfl, by omega, N11.go0 M12 (fun i hi => by have := hnew i hi; omega), by omega, hR12, fun q hq => ?_, fun xs h1 h2 => ?_, rfl⟩
  ·rcases List.mem_append.1 hq with h | h
   ·exact keepO ((hOw q h).keep0 K11)
   ·simp at h; subst h; exact (keepO hO11).rebase (by omega)
  ·obtain ⟨q1, q2, q3⟩ := himp xs h1 h2
   obtain ⟨y, hy, _, _, r1, r2⟩ := can xs h1 h2
   refine ⟨q1, ?_, ?_⟩
   ·have : a1 + m3 = a1 + (yc9 y).length := by omega
    rw [this, q2, ya9 hy]; simp only [List.length_append]; omega
   ·rw [List.map_append, q3, List.take_add_one, hy]; simp [r1]
 ·have hjn : j = n := by omega
  have hC : CsAt w7 ⟨ar, nr, cr⟩ ll := ⟨hRow.sl CV.cs_len, fun q hq => (hOw q hq).at⟩
  refine (yiQ (s := ⟨ar, nr, cr⟩) hC (by omega)).mono ?_
  rintro _ w8 ⟨rfl, M8⟩
  have N8 := N7.go0 M8 (by simp)
  have full : ∀ xs, ybY xs = 0 → s = bs (ybG xs) → ll.map (·.x) = xs := fun xs h1 h2 => by
   obtain ⟨q1, q2, q3⟩ := himp xs h1 h2
   rw [q3, hjn, q1, List.take_length]
  refine ⟨_, _, rfl, yaB (fun g1 => bad N8 fun xs h1 h2 => ?_) fun g1 => ?_⟩
  ·rw [full xs h1 h2, h1] at g1; simp at g1
  have g1 : ybY (ll.map (·.x)) = 0 := by simpa using g1
  rw [if_pos g1]
  refine yaB (fun g2 => bad N8 fun xs h1 h2 => ?_) fun g2 => ?_
  ·rw [full xs h1 h2, ← h2] at g2; simp at g2
  have g2 : bs (ybG (ll.map (·.x))) = s := ycL.1 (by simpa using g2)
  refine ⟨?_, N8⟩
  rw [ygI.2 ⟨g1, g2.symm⟩]
  exact ⟨⟨ar, nr, cr⟩, rfl, ll, hRow.keep0 M8, fun q hq => (hOw q hq).keep0 M8, rfl⟩
theorem yc2.nHd {s : ByteArray} {x : PRep} (h : yc2 s x) {k : Nat} {n : Int} (hn : (hdI x)[k]? = some n) : yyE s.data.toList (yhP x k).length = some (n, (yhP x (k + 1)).length) := by
 obtain ⟨h1, h2⟩ := yE5 (RepGood.of h.1) hn
 obtain ⟨t, ht⟩ := yE2 h2
 rw [h.2, ydB h1 ht, yrE h2]
theorem yc2.nF {s : ByteArray} {x : PRep} (h : yc2 s x) {k : Nat} {y : PFound} (hy : x.found[k]? = some y) : yyE s.data.toList (yc1 x k).length = some (y.off, (yc1 x k).length + (yaJ y.off.toNat).length) := by
 obtain ⟨h1, h2⟩ := (RepGood.of h.1).f y (List.mem_of_getElem? hy)
 obtain ⟨t, ht⟩ := yJ5 hy
 rw [h.2, ydB h1 ht]
theorem yc2.nNp {s : ByteArray} {x : PRep} (h : yc2 s x) : yyE s.data.toList (yc1 x x.found.length).length = some (((x.parts.length : Nat) : Int), (yeQ x 0).length) := by
 obtain ⟨t, ht⟩ := yE3 x
 have lp := (RepGood.of h.1).lp
 rw [h.2, ydB (x := (x.parts.length : Nat)) (ymW (by omega) (by omega)) (by simpa using ht), yE4, List.length_append]
 rfl
theorem yc2.nP {s : ByteArray} {x : PRep} (h : yc2 s x) {k : Nat} {y : PPart} (hy : x.parts[k]? = some y) : ye2 16 s.data.toList (yeQ x k).length = some (y.t, (yeQ x k).length + (ybM y.t).length) ∧ yyE s.data.toList ((yeQ x k).length + (ybM y.t).length) = some (y.n, (yeQ x (k + 1)).length) := by
 obtain ⟨h1, h2⟩ := (RepGood.of h.1).p y (List.mem_of_getElem? hy)
 have h3 : y.t.size ≤ 16 := by unfold ybS at h2; simp at h2; omega
 obtain ⟨t, ht⟩ := yJ6 hy
 unfold ycU at ht
 rw [List.append_assoc] at ht
 rw [h.2, ycN h3 (by omega) ht, ydB h1 (yaU ht)]
 refine ⟨rfl, ?_⟩
 rw [yrF hy, ycU, List.length_append]
 congr 2; omega
theorem ytK.out2 {l : List UInt8} {n a : Nat} (hl : l.length = n) (ha : a ≤ n) {v : Value} (h : ytK (yeI l a) v) : ∃ (x : PRec) (b : Nat) (e : Int), v = .tuple #[x.v, .int .i64 (b : Nat), .int .i64 e] ∧ b ≤ n ∧ ((e = 0 ∧ yeI l a = some (x, b)) ∨ (e ≠ 0 ∧ yeI l a = none)) := by
 cases ho : yeI l a with
 | none =>
  rw [ho] at h
  obtain ⟨e, he, rfl⟩ := h
  exact ⟨yLn, 0, e, rfl, by omega, .inr ⟨he, rfl⟩⟩
 | some p =>
  obtain ⟨x, b⟩ := p
  rw [ho] at h
  have h : v = .tuple #[x.v, .int .i64 (b : Nat), .int .i64 0] := h
  exact ⟨x, b, 0, h, by have := (yv5 ho).2; omega, .inl ⟨rfl, rfl⟩⟩
theorem Row.keepN {α : Type} {w0 w w' : World} {B T sz : Nat} {enc : α → List Value} {a : Option Addr} {n c : Nat} {l : List α} {S : List Nat} (h0 : Row w0 B T sz enc a n c l) (h : Row w B T sz enc a n c l) (M : Mod S w w') (hS : ∀ k ∈ S, k < B ∨ w0.heap.size ≤ k) : Row w' B T sz enc a n c l :=
 h.keep M fun ad ha hk => by
  obtain ⟨h1, cur, h2⟩ := h0.block ad ha
  have := ya0 h2
  rcases hS _ hk with h | h <;> omega
theorem ifB {bd : Bool} {a b : Nat} {st : Option Nat} (h : st = if bd then none else some a) (h2 : st = some b) : bd = false ∧ a = b := by
 subst h2; cases bd <;> simp at h; exact ⟨rfl, h.symm⟩
set_option maxHeartbeats 8000000 in
theorem yyF {s : ByteArray} (hs : s.size ≤ 900000) (w : World) :
  Calls pP 47 #[.string s] w fun e w' => ∃ v, e = .returned v ∧ yv3 w w' s v ∧ Mod [] w w' := by
 have hs' : s.size ≤ 1000000000000 := by omega
 have hss : s.data.toList.length = s.size := by simp
 refine yGF ?_
 intro b1 f1 b2 f2 b3 f3 w4 A4 h4
 have s4 := A4.mod.size
 have lt : b1 < w4.heap.size ∧ b2 < w4.heap.size ∧ b3 < w4.heap.size := ⟨A4.lt b1 (by simp), A4.lt b2 (by simp), A4.lt b3 (by simp)⟩
 have nd : b1 ≠ b2 ∧ b3 ≠ b2 := by have := A4.nd; simp at this; omega
 have kb : ∀ {S : List Nat} {x x' : World}, Mod S x x' → (∀ k ∈ S, w.heap.size ≤ k) → Mod [] w x → Mod [] w x' := fun M h N => N.go0 M h
 have N4 : Mod [] w w4 := A4.mod
 refine (ycZ hs' (st := some 0) ⟨0, false, h4, by omega, rfl⟩).mono ?_
 rintro _ w5 ⟨_, rfl, x6, rfl, nx6, M5, st5, ⟨a5, bd5, h5, ha5, e5⟩, q5⟩
 refine ⟨_, rfl, yaD.ofE M5 (fun k hk hl he => by simp at hk he ⊢; omega), _, _, _, h5, ?_⟩
 have s5 := M5.size
 have N5 : Mod [] w w5 := N4.go0 M5 (fun k hk => by simp at hk; omega)
 intro w10 A10 h10
 have N10 : Mod [] w w10 := N5.go0 A10.mod (fun k hk => by simp at hk; omega)
 refine (ycZ hs' (st := st5) ⟨a5, bd5, h10, ha5, e5⟩).mono ?_
 rintro _ w11 ⟨_, rfl, x12, rfl, nx12, M11, st11, ⟨a11, bd11, h11, ha11, e11⟩, q11⟩
 refine ⟨_, rfl, yaD.ofE M11 (fun k hk hl he => by simp at hk he ⊢; omega), _, _, _, h11, ?_⟩
 have s11 := M11.size
 have N11 : Mod [] w w11 := N10.go0 M11 (fun k hk => by simp at hk; omega)
 have s10 := A10.mod.size
 intro w16 A16 h16
 have N16 : Mod [] w w16 := N11.go0 A16.mod (fun k hk => by simp at hk; omega)
 refine (ycZ hs' (st := st11) ⟨a11, bd11, h16, ha11, e11⟩).mono ?_
 rintro _ w17 ⟨_, rfl, x18, rfl, nx18, M17, st17, ⟨a17, bd17, h17, ha17, e17⟩, q17⟩
 refine ⟨_, rfl, yaD.ofE M17 (fun k hk hl he => by simp at hk he ⊢; omega), _, _, _, h17, ?_⟩
 have s17 := M17.size
 have N17 : Mod [] w w17 := N16.go0 M17 (fun k hk => by simp at hk; omega)
 have s16 := A16.mod.size
 intro w22 A22 h22
 have N22 : Mod [] w w22 := N17.go0 A22.mod (fun k hk => by simp at hk; omega)
 refine (ycZ hs' (st := st17) ⟨a17, bd17, h22, ha17, e17⟩).mono ?_
 rintro _ w23 ⟨_, rfl, x24, rfl, nx24, M23, st23, ⟨a23, bd23, h23, ha23, e23⟩, q23⟩
 refine ⟨_, rfl, yaD.ofE M23 (fun k hk hl he => by simp at hk he ⊢; omega), _, _, _, h23, ?_⟩
 have s23 := M23.size
 have N23 : Mod [] w w23 := N22.go0 M23 (fun k hk => by simp at hk; omega)
 have s22 := A22.mod.size
 intro w28 A28 h28
 have N28 : Mod [] w w28 := N23.go0 A28.mod (fun k hk => by simp at hk; omega)
 refine (ycZ hs' (st := st23) ⟨a23, bd23, h28, ha23, e23⟩).mono ?_
 rintro _ w29 ⟨_, rfl, x30, rfl, nx30, M29, st29, ⟨a29, bd29, h29, ha29, e29⟩, q29⟩
 refine ⟨_, rfl, yaD.ofE M29 (fun k hk hl he => by simp at hk he ⊢; omega), _, _, _, h29, ?_⟩
 have s29 := M29.size
 have N29 : Mod [] w w29 := N28.go0 M29 (fun k hk => by simp at hk; omega)
 have s28 := A28.mod.size
 have hsp0 : ∀ y, yc2 s y → st29 = some (yc1 y 0).length ∧ x6 = y.e ∧ x12 = y.off ∧ x18 = y.n ∧ x24 = y.gen ∧ x30 = y.found.length := fun y hy => by
  obtain ⟨r1, e1⟩ := ycV q5 (a := (yhP y 0).length) (by simp [yhP]) (hy.nHd (k := 0) rfl)
  obtain ⟨r2, e2⟩ := ycV q11 r1 (hy.nHd (k := 1) rfl)
  obtain ⟨r3, e3⟩ := ycV q17 r2 (hy.nHd (k := 2) rfl)
  obtain ⟨r4, e4⟩ := ycV q23 r3 (hy.nHd (k := 3) rfl)
  obtain ⟨r5, e5⟩ := ycV q29 r4 (hy.nHd (k := 4) rfl)
  rw [yv2] at r5
  exact ⟨r5, e1, e2, e3, e4, e5⟩
 have z : ∀ {w'}, Mod [] w w' → (∀ y, ¬ yc2 s y) → yv3 w w' s (.tuple #[ydS.v ya6 ya6, .int .i64 40]) ∧ Mod [] w w' := fun N hn => ⟨.inr ⟨hn, rfl⟩, N⟩
 have fin : ∀ {w9 : World} {x : PRep} {f p : Sl} {a : Int} {bd : Bool}, RepOwn w9 w4.heap.size x f p → (∀ y, yc2 s y → bd = false ∧ x = y) → w9.heap[b2]? = some (.cells #[.string s, .int .i64 a, .bool bd] InT) → Mod [] w w9 →
   Calls pP 33 #[x.v f p] w9 fun e w121 => ∃ (s122 : ByteArray) (x123 : Int), e = .returned (.tuple #[.string s122, .int .i64 x123]) ∧ yaR [b2] [(b1, 27), (b3, 27)] [b1, b3] w9 w121 ∧ ∃ (s124 : ByteArray) (x125 : Int) (t126 : Bool), w121.heap[b2]? = some (.cells #[.string s124, .int .i64 x125, .bool t126] InT) ∧
    brB t126 (∀ w127, Adv [b1] [] w121 w127 → w127.heap[b2]? = some (.cells #[.string s124, .int .i64 x125, .bool t126] InT) → yv3 w w127 s (.tuple #[ydS.v ya6 ya6, .int .i64 40]) ∧ Mod [] w w127)
     (brB (x123 != 0) (∀ w128, Adv [b1] [] w121 w128 → w128.heap[b2]? = some (.cells #[.string s124, .int .i64 x125, .bool t126] InT) → yv3 w w128 s (.tuple #[ydS.v ya6 ya6, .int .i64 40]) ∧ Mod [] w w128)
      (brB (!(s122.toList == s.toList)) (∀ w129, Adv [b1] [] w121 w129 → w129.heap[b2]? = some (.cells #[.string s124, .int .i64 x125, .bool t126] InT) → yv3 w w129 s (.tuple #[ydS.v ya6 ya6, .int .i64 40]) ∧ Mod [] w w129)
       (∀ w130, Adv [b1] [] w121 w130 → w130.heap[b2]? = some (.cells #[.string s124, .int .i64 x125, .bool t126] InT) → yv3 w w130 s (.tuple #[x.v f p, .int .i64 0]) ∧ Mod [] w w130))) := fun {w9 x f p a bd} hO hsp hb N => by
  refine (ye3 hO.at).mono ?_
  rintro _ w10 ⟨rfl, M10⟩
  have N10 := N.go0 M10 (by simp)
  have k1 : ∀ k ∈ [b1], w.heap.size ≤ k := fun k hk => by simp at hk; omega
  refine ⟨_, _, rfl, yaD.of0 M10, _, _, _, M10.keep0 hb, ?_⟩
  refine yaB (fun g => fun w' A' _ => z (N10.go0 A'.mod k1) fun y hy => by have := (hsp y hy).1; rw [g] at this; cases this) fun g => ?_
  refine yaB (fun g2 => fun w' A' _ => z (N10.go0 A'.mod k1) fun y hy => ?_) fun g2 => ?_
  ·have := (hsp y hy).2; subst this; have := hy.1; simp [this] at g2
  have g2 : yfX x = 0 := by simpa using g2
  rw [if_pos g2, yfW]
  refine yaB (fun g3 => fun w' A' _ => z (N10.go0 A'.mod k1) fun y hy => ?_) fun g3 => ?_
  ·have := (hsp y hy).2; subst this; have := hy.eq; simp at g3; exact g3 this.symm
  have g3 : bs (ydW x) = s := by simpa using g3
  intro w' A' _
  exact ⟨.inl ⟨x, f, p, yc2.of g2 g3.symm, rfl, ((hO.keep0 M10).keepB A'.mod (fun k hk => by simp at hk; omega)).rebase s4⟩, N10.go0 A'.mod k1⟩
 have mid : ∀ {w9 : World} {fl : Sl} {l : List PFound} {a : Nat} {bd : Bool}, Row w9 w4.heap.size 55 5 yhV fl.a fl.n fl.c l → l.length ≤ 65 → (∀ y, yc2 s y → bd = false ∧ a = (yc1 y y.found.length).length ∧ l = y.found) → w9.heap[b2]? = some (.cells #[.string s, .int .i64 (a : Nat), .bool bd] InT) → a ≤ s.size → Mod [] w w9 → w4.heap.size ≤ w9.heap.size →
   Calls pP 83 #[(.pointer (some ⟨b2, 0, none⟩))] w9 fun e w96 => ∃ x97 : Int, e = .returned (.int .i64 x97) ∧ yaR [b2] [(b1, 27), (b3, 27)] [b1, b3] w9 w96 ∧ ∃ (s98 : ByteArray) (x99 : Int) (t100 : Bool), w96.heap[b2]? = some (.cells #[.string s98, .int .i64 x99, .bool t100] InT) ∧
    yaK ygL (yk2 389 [0, 0, 1, 0, 1, 1, 1, 1, 1, 1, 1, 1, 1]) (yJ8 [1, 1, 1, 1, 1, 1, 1, 1, 1, 0, 1, 0] [] (ya4 pP Tryz.f47 [] (fun v w' => yv3 w w' s v ∧ Mod [] w w'))) (yfN s x97 b1 b2 b3 x6 x12 x18 x24 fl.a fl.n fl.c (0, s98, x99, t100, none, 0, 0)) w96 := fun {w9 fl l a bd} hF hl hsp hb ha N hw => by
  refine (ycZ hs' (st := if bd then none else some a) ⟨a, bd, hb, ha, rfl⟩).mono ?_
  rintro _ w10 ⟨_, rfl, xm, rfl, nxm, M10, st10, ⟨a10, bd10, h10, ha10, e10⟩, q10⟩
  have k2 : ∀ k ∈ [b2], w.heap.size ≤ k := fun k hk => by simp at hk; omega
  have kB : ∀ {W : World}, ∀ k ∈ [b2], k < w4.heap.size ∨ W.heap.size ≤ k := fun {W} k hk => by simp at hk; omega
  refine ⟨_, rfl, yaD.ofE M10 (fun k hk hl he => by simp at hk he ⊢; omega), _, _, _, h10, ?_⟩
  have hsp10 : ∀ y, yc2 s y → bd10 = false ∧ a10 = (yeQ y 0).length ∧ xm = y.parts.length ∧ l = y.found := fun y hy => by
   obtain ⟨r1, r2, r3⟩ := hsp y hy
   obtain ⟨r4, r5⟩ := ycV q10 (by rw [r1, r2]; rfl) hy.nNp
   obtain ⟨r6, r7⟩ := ifB e10 r4
   exact ⟨r6, r7, r5, r3⟩
  refine yyB (fun mm x13 s1 a bd pa pn pc w' => ∃ (i : Nat) (lp : List PPart) (an : Nat), x13 = i ∧ lp.length = i ∧ i ≤ 65 ∧ s1 = s ∧ a = an ∧ an ≤ s.size ∧ Row w' w4.heap.size 43 2 ylO pa pn pc lp ∧ Row w' w4.heap.size 55 5 yhV fl.a fl.n fl.c l ∧ Mod [] w w' ∧ w4.heap.size ≤ w'.heap.size ∧ (∀ y, yc2 s y → bd = false ∧ an = (yeQ y i).length ∧ lp = y.parts.take i) ∧ mm = 65 - i) 65
   ⟨0, [], a10, rfl, rfl, by omega, by obtain ⟨c1, _⟩ := (show Row w10 w4.heap.size 43 2 ylO none 0 0 [] from Row.nil ..); rfl, rfl, ha10, Row.nil .., Row.keepN hF hF M10 kB, N.go0 M10 k2, by have := M10.size; omega, fun y hy => ⟨(hsp10 y hy).1, (hsp10 y hy).2.1, by simp⟩, rfl⟩ ?_
  rintro mm x13 s1 a bd pa pn pc w11 ⟨i, lp, an, rfl, hli, hi, rfl, rfl, han, hP, hF11, N11, hw11, hsp11, rfl⟩ h11
  have ex : (∀ y, yc2 s1 y → i = y.parts.length) → ∀ y, yc2 s1 y → bd = false ∧ (⟨x6, x12, x18, x24, l, lp⟩ : PRep) = y := fun hi y hy => by
   obtain ⟨r1, r2, r3⟩ := hsp11 y hy
   obtain ⟨_, t1, t2, t3, t4, _⟩ := hsp0 y hy
   refine ⟨r1, ?_⟩
   rw [hi y hy, List.take_length] at r3
   obtain ⟨y1, y2, y3, y4, y5, y6⟩ := y
   simp only [PRep.mk.injEq]
   exact ⟨t1, t2, t3, t4, (hsp10 _ hy).2.2.2, r3⟩
  have lpn : ∀ y, yc2 s1 y → y.parts.length ≤ 64 ∧ xm = y.parts.length ∧ i ≤ y.parts.length := fun y hy => by
   obtain ⟨_, _, r3⟩ := hsp11 y hy
   have := congrArg List.length r3
   rw [List.length_take] at this
   exact ⟨(RepGood.of hy.1).lp, (hsp10 y hy).2.2.1, by omega⟩
  have hO : RepOwn w11 w4.heap.size (⟨x6, x12, x18, x24, l, lp⟩ : PRep) fl ⟨pa, pn, pc⟩ := ⟨hF11, hP, by show l.length ≤ _; omega, by show lp.length ≤ _; omega⟩
  refine yaC (fun hlt => ?_) fun hge => fin hO (ex fun y hy => by have := lpn y hy; omega) h11 N11
  refine yaB (fun g => ?_) fun g => fin hO (ex fun y hy => by have := (hsp11 y hy).1; rw [this] at g; cases g) h11 N11
  refine yaC (fun hlt5 => ?_) fun hge5 => fin hO (ex fun y hy => by have := lpn y hy; omega) h11 N11
  refine (ygN hs' (st := if bd then none else some an) ⟨an, bd, h11, han, rfl⟩).mono ?_
  rintro _ w12 ⟨_, rfl, t12, rfl, M12, st12, ⟨a12, bd12, h12, ha12, e12⟩, q12⟩
  refine ⟨_, rfl, yaD.ofE M12 (fun k hk hl he => by simp at hk he ⊢; omega), _, _, _, h12, ?_⟩
  intro b13 f13 w14 A14 h14
  have s12 := M12.size
  have s14 := A14.mod.size
  have l13 := A14.lt b13 (by simp)
  have hP12 := Row.keepN hP hP M12 kB
  have hF12 := Row.keepN hF11 hF11 M12 kB
  refine (ycZ hs' (st := st12) ⟨a12, bd12, h14, ha12, e12⟩).mono ?_
  rintro _ w15 ⟨_, rfl, n15, rfl, nn15, M15, st15, ⟨a15, bd15, h15, ha15, e15⟩, q15⟩
  refine ⟨_, rfl, yaD.ofE M15 (fun k hk hl he => by simp at hk he ⊢; omega), _, _, _, h15, ?_⟩
  intro w16 A16 h16
  have s15 := M15.size
  have s16 := A16.mod.size
  have kA : ∀ k ∈ [b13], k < w4.heap.size ∨ w12.heap.size ≤ k := fun k hk => by simp at hk; omega
  have hP16 := Row.keepN hP12 (Row.keepN hP12 (hP12.keep0 A14.mod) M15 kB) A16.mod kA
  have hF16 := Row.keepN hF12 (Row.keepN hF12 (hF12.keep0 A14.mod) M15 kB) A16.mod kA
  have N16 : Mod [] w w16 := (((N11.go0 M12 k2).go0 A14.mod (by simp)).go0 M15 k2).go0 A16.mod (fun k hk => by simp at hk; omega)
  refine yCt (f := ⟨pa, pn, pc⟩) (y := ⟨t12, n15⟩) hP16 (by omega) (by omega) (fun k hk hk' => by obtain ⟨q1, q2, _⟩ := yaW hP12 k hk'; simp at hk; omega) fun a' c' w17 hR17 M17 => ?_
  intro w18 A18 h18
  have q17 : ∀ k ∈ yjJ pa, w4.heap.size ≤ k ∧ ∃ cur, w16.heap[k]? = some (.cells cur 43) := fun k hk => by obtain ⟨q1, _, q3⟩ := yaW hP16 k hk; exact ⟨q1, q3⟩
  have kC : ∀ {W : World}, ∀ k ∈ [b3], k < w4.heap.size ∨ W.heap.size ≤ k := fun {W} k hk => by simp at hk; omega
  have hF17 : Row w17 w4.heap.size 55 5 yhV fl.a fl.n fl.c l := hF16.keep M17 fun ad ha hk => by
   obtain ⟨_, cur, hc⟩ := q17 _ hk
   obtain ⟨_, cur', hc'⟩ := hF16.block ad ha
   rw [hc] at hc'; cases hc'
  have s17 := M17.size
  have s18 := A18.mod.size
  refine yyA (65 - (i + 1)) (by omega) ⟨i + 1, lp ++ [⟨t12, n15⟩], a15, by rw [yaG (by omega) (by omega)]; omega, by simp; omega, by omega, ?_, rfl, ha15, Row.keepN hR17 hR17 A18.mod kC, Row.keepN hF17 hF17 A18.mod kC, (N16.go0 M17 fun k hk => by have := (q17 k hk).1; omega).go0 A18.mod (fun k hk => by simp at hk; omega), by omega, fun y hy => ?_, rfl⟩
  ·rfl
  ·obtain ⟨r1, r2, r3⟩ := hsp11 y hy
   obtain ⟨u1, u2, u3⟩ := lpn y hy
   obtain ⟨q, hq⟩ : ∃ q, y.parts[i]? = some q := ⟨_, List.getElem?_eq_getElem (by omega)⟩
   obtain ⟨v1, v2⟩ := hy.nP hq
   obtain ⟨x1, x2⟩ := ycV q12 (by rw [r1, r2]; rfl) v1
   obtain ⟨x3, x4⟩ := ycV q15 x1 v2
   obtain ⟨x5, x7⟩ := ifB e15 x3
   refine ⟨x5, x7, ?_⟩
   rw [List.take_add_one, hq, ← r3, x2, x4]; rfl
 refine yx9 (fun mm x7 s1 a bd fa fn fc w' => ∃ (i : Nat) (l : List PFound) (an : Nat), x7 = i ∧ l.length = i ∧ i ≤ 65 ∧ s1 = s ∧ a = an ∧ an ≤ s.size ∧ Row w' w4.heap.size 55 5 yhV fa fn fc l ∧ Mod [] w w' ∧ w4.heap.size ≤ w'.heap.size ∧ (∀ y, yc2 s y → bd = false ∧ an = (yc1 y i).length ∧ l = y.found.take i ∧ x30 = y.found.length) ∧ mm = 65 - i) 65
  ⟨0, [], a29, rfl, rfl, by omega, rfl, rfl, ha29, Row.nil .., N29, by omega, fun y hy => by
   obtain ⟨r1, _, _, _, _, r6⟩ := hsp0 y hy
   obtain ⟨r7, r8⟩ := ifB e29 r1
   exact ⟨r7, r8, by simp, r6⟩, rfl⟩ ?_
 rintro mm x7 s1 a bd fa fn fc w32 ⟨i, l, an, rfl, hli, hi, rfl, rfl, han, hF, N32, hw32, hsp32, rfl⟩ h32
 have lfn : ∀ y, yc2 s1 y → y.found.length ≤ 64 ∧ x30 = y.found.length ∧ i ≤ y.found.length := fun y hy => by
  obtain ⟨_, _, r3, r4⟩ := hsp32 y hy
  have := congrArg List.length r3
  rw [List.length_take] at this
  exact ⟨(RepGood.of hy.1).lf, r4, by omega⟩
 have ex : (∀ y, yc2 s1 y → i = y.found.length) → ∀ y, yc2 s1 y → bd = false ∧ an = (yc1 y y.found.length).length ∧ l = y.found := fun hi y hy => by
  obtain ⟨r1, r2, r3, _⟩ := hsp32 y hy
  rw [hi y hy] at r2 r3
  rw [List.take_length] at r3
  exact ⟨r1, r2, r3⟩
 refine yaC (fun hlt => ?_) fun hge => mid (fl := ⟨fa, fn, fc⟩) hF (by omega) (ex fun y hy => by have := lfn y hy; omega) h32 han N32 hw32
 refine yaB (fun g => ?_) fun g => mid (fl := ⟨fa, fn, fc⟩) hF (by omega) (ex fun y hy => by have := (hsp32 y hy).1; rw [this] at g; cases g) h32 han N32 hw32
 refine yaC (fun hlt5 => ?_) fun hge5 => mid (fl := ⟨fa, fn, fc⟩) hF (by omega) (ex fun y hy => by have := lfn y hy; omega) h32 han N32 hw32
 refine (ycZ hs' (st := if bd then none else some an) ⟨an, bd, h32, han, rfl⟩).mono ?_
 rintro _ w38 ⟨_, rfl, x35, rfl, nx35, M38, st38, ⟨a38, bd38, h38, ha38, e38⟩, q38⟩
 refine ⟨_, rfl, yaD.ofE M38 (fun k hk hl he => by simp at hk he ⊢; omega), _, _, _, h38, ?_⟩
 have s38 := M38.size
 have hF38 := Row.keepN hF hF M38 (fun k hk => by simp at hk; omega)
 have N38 : Mod [] w w38 := N32.go0 M38 (fun k hk => by simp at hk; omega)
 have hsp38 : ∀ y, yc2 s1 y → bd38 = false ∧ (∀ q, y.found[i]? = some q → a38 = (yc1 y i).length + (yaJ q.off.toNat).length ∧ x35 = q.off) ∧ l = y.found.take i ∧ x30 = y.found.length := fun y hy => by
  obtain ⟨r1, r2, r3, r4⟩ := hsp32 y hy
  obtain ⟨u1, u2, u3⟩ := lfn y hy
  obtain ⟨q, hq⟩ : ∃ q, y.found[i]? = some q := ⟨_, List.getElem?_eq_getElem (by omega)⟩
  obtain ⟨x1, x2⟩ := ycV q38 (by rw [r1, r2]; rfl) (hy.nF hq)
  obtain ⟨x3, x4⟩ := ifB e38 x1
  refine ⟨x3, fun q' hq' => ?_, r3, r4⟩
  rw [hq] at hq'; cases hq'
  exact ⟨x4, x2⟩
 intro b39 f39
 refine ⟨?_, ?_⟩
 ·intro b40 f40
  intro w41 A41 h41
  refine (ypX s1 a38 (by omega) ha38 _).mono ?_
  rintro _ w42 ⟨_, rfl, hv, M42⟩
  obtain ⟨xr, to, er, rfl, hto, hg⟩ := ytK.out2 hss ha38 hv
  have N42 : Mod [] w w42 := (N38.go0 A41.mod (by simp)).go0 M42 (by simp)
  have s41 := A41.mod.size
  have s42 := M42.size
  have hF42 : Row w42 w4.heap.size 55 5 yhV fa fn fc l := (hF38.keep0 A41.mod).keep0 M42
  have hspn : ∀ y, yc2 s1 y → (er != 0) = false ∧ to = (yc1 y (i + 1)).length ∧ l ++ [⟨x35, xr⟩] = y.found.take (i + 1) ∧ x30 = y.found.length := fun y hy => by
   obtain ⟨z1, z2, z3, z4⟩ := hsp38 y hy
   obtain ⟨q, hq⟩ : ∃ q, y.found[i]? = some q := ⟨_, List.getElem?_eq_getElem (by omega)⟩
   obtain ⟨k1, k2⟩ := z2 q hq
   have k3 := (hy.f hq).2
   rw [← k1] at k3
   rcases hg with ⟨g1, g2⟩ | ⟨g1, g2⟩
   ·rw [k3] at g2
    simp only [Option.some.injEq, Prod.mk.injEq] at g2
    refine ⟨by rw [g1]; rfl, g2.2.symm, ?_, z4⟩
    rw [List.take_add_one, hq, ← z3, k2, ← g2.1]; rfl
   ·rw [k3] at g2; cases g2
  refine ⟨_, _, _, _, _, _, rfl, yaD.of0 M42, _, _, _, M42.keep0 h41, ?_⟩
  refine yaB (fun g => ?_) fun g => ?_
  ·intro w52 A52 h52
   have A52' := A52.mod
   have hF52 : Row w52 w4.heap.size 55 5 yhV fa fn fc l := Row.keepN hF38 (hF42) A52' (fun k hk => by simp at hk; omega)
   refine yf8 (f := ⟨fa, fn, fc⟩) (y := ⟨x35, xr⟩) hF52 (by omega) (by have := A52'.size; omega) (fun k hk hk' => by obtain ⟨q1, q2, cur, q3⟩ := yaW hF38 k hk'; simp at hk; omega) fun a' c' w55 hR55 M55 => ?_
   intro w59 A59 h59
   have q55 : ∀ k ∈ yjJ fa, w.heap.size ≤ k ∧ w4.heap.size ≤ k := fun k hk => by obtain ⟨q1, _⟩ := yaW hF38 k hk; omega
   exact ygM (65 - (i + 1)) (by omega) ⟨i + 1, l ++ [⟨x35, xr⟩], to, by rw [yaG (by omega) (by omega)]; omega, by simp; omega, by omega, rfl, rfl, hto, Row.keepN hR55 hR55 A59.mod (fun k hk => by simp at hk; omega), ((N42.go0 A52' (fun k hk => by simp at hk; omega)).go0 M55 fun k hk => (q55 k hk).1).go0 A59.mod (fun k hk => by simp at hk; omega), by have := A52'.size; have := M55.size; have := A59.mod.size; omega, (fun y hy => by have := (hsp38 y hy).1; rw [g] at this; cases this), rfl⟩
  ·intro w52 A52 h52
   have A52' := A52.mod
   have hF52 : Row w52 w4.heap.size 55 5 yhV fa fn fc l := Row.keepN hF38 (hF42) A52' (fun k hk => by simp at hk; omega)
   refine yf8 (f := ⟨fa, fn, fc⟩) (y := ⟨x35, xr⟩) hF52 (by omega) (by have := A52'.size; omega) (fun k hk hk' => by obtain ⟨q1, q2, cur, q3⟩ := yaW hF38 k hk'; simp at hk; omega) fun a' c' w55 hR55 M55 => ?_
   intro w59 A59 h59
   have q55 : ∀ k ∈ yjJ fa, w.heap.size ≤ k ∧ w4.heap.size ≤ k := fun k hk => by obtain ⟨q1, _⟩ := yaW hF38 k hk; omega
   exact ygM (65 - (i + 1)) (by omega) ⟨i + 1, l ++ [⟨x35, xr⟩], to, by rw [yaG (by omega) (by omega)]; omega, by simp; omega, by omega, rfl, rfl, hto, Row.keepN hR55 hR55 A59.mod (fun k hk => by simp at hk; omega), ((N42.go0 A52' (fun k hk => by simp at hk; omega)).go0 M55 fun k hk => (q55 k hk).1).go0 A59.mod (fun k hk => by simp at hk; omega), by have := A52'.size; have := M55.size; have := A59.mod.size; omega, hspn, rfl⟩
 ·intro w41 A41 h41
  refine (ypX s1 a38 (by omega) ha38 _).mono ?_
  rintro _ w42 ⟨_, rfl, hv, M42⟩
  obtain ⟨xr, to, er, rfl, hto, hg⟩ := ytK.out2 hss ha38 hv
  have N42 : Mod [] w w42 := (N38.go0 A41.mod (by simp)).go0 M42 (by simp)
  have s41 := A41.mod.size
  have s42 := M42.size
  have hF42 : Row w42 w4.heap.size 55 5 yhV fa fn fc l := (hF38.keep0 A41.mod).keep0 M42
  have hspn : ∀ y, yc2 s1 y → (er != 0) = false ∧ to = (yc1 y (i + 1)).length ∧ l ++ [⟨x35, xr⟩] = y.found.take (i + 1) ∧ x30 = y.found.length := fun y hy => by
   obtain ⟨z1, z2, z3, z4⟩ := hsp38 y hy
   obtain ⟨q, hq⟩ : ∃ q, y.found[i]? = some q := ⟨_, List.getElem?_eq_getElem (by omega)⟩
   obtain ⟨k1, k2⟩ := z2 q hq
   have k3 := (hy.f hq).2
   rw [← k1] at k3
   rcases hg with ⟨g1, g2⟩ | ⟨g1, g2⟩
   ·rw [k3] at g2
    simp only [Option.some.injEq, Prod.mk.injEq] at g2
    refine ⟨by rw [g1]; rfl, g2.2.symm, ?_, z4⟩
    rw [List.take_add_one, hq, ← z3, k2, ← g2.1]; rfl
   ·rw [k3] at g2; cases g2
  refine ⟨_, _, _, _, _, _, rfl, yaD.of0 M42, _, _, _, M42.keep0 h41, ?_⟩
  intro b40 f40
  refine yaB (fun g => ?_) fun g => ?_
  ·intro w52 A52 h52
   have A52' := A52.mod
   have hF52 : Row w52 w4.heap.size 55 5 yhV fa fn fc l := Row.keepN hF38 (hF42) A52' (fun k hk => by simp at hk; omega)
   refine yf8 (f := ⟨fa, fn, fc⟩) (y := ⟨x35, xr⟩) hF52 (by omega) (by have := A52'.size; omega) (fun k hk hk' => by obtain ⟨q1, q2, cur, q3⟩ := yaW hF38 k hk'; simp at hk; omega) fun a' c' w55 hR55 M55 => ?_
   intro w59 A59 h59
   have q55 : ∀ k ∈ yjJ fa, w.heap.size ≤ k ∧ w4.heap.size ≤ k := fun k hk => by obtain ⟨q1, _⟩ := yaW hF38 k hk; omega
   exact ygM (65 - (i + 1)) (by omega) ⟨i + 1, l ++ [⟨x35, xr⟩], to, by rw [yaG (by omega) (by omega)]; omega, by simp; omega, by omega, rfl, rfl, hto, Row.keepN hR55 hR55 A59.mod (fun k hk => by simp at hk; omega), ((N42.go0 A52' (fun k hk => by simp at hk; omega)).go0 M55 fun k hk => (q55 k hk).1).go0 A59.mod (fun k hk => by simp at hk; omega), by have := A52'.size; have := M55.size; have := A59.mod.size; omega, (fun y hy => by have := (hsp38 y hy).1; rw [g] at this; cases this), rfl⟩
  ·intro w52 A52 h52
   have A52' := A52.mod
   have hF52 : Row w52 w4.heap.size 55 5 yhV fa fn fc l := Row.keepN hF38 (hF42) A52' (fun k hk => by simp at hk; omega)
   refine yf8 (f := ⟨fa, fn, fc⟩) (y := ⟨x35, xr⟩) hF52 (by omega) (by have := A52'.size; omega) (fun k hk hk' => by obtain ⟨q1, q2, cur, q3⟩ := yaW hF38 k hk'; simp at hk; omega) fun a' c' w55 hR55 M55 => ?_
   intro w59 A59 h59
   have q55 : ∀ k ∈ yjJ fa, w.heap.size ≤ k ∧ w4.heap.size ≤ k := fun k hk => by obtain ⟨q1, _⟩ := yaW hF38 k hk; omega
   exact ygM (65 - (i + 1)) (by omega) ⟨i + 1, l ++ [⟨x35, xr⟩], to, by rw [yaG (by omega) (by omega)]; omega, by simp; omega, by omega, rfl, rfl, hto, Row.keepN hR55 hR55 A59.mod (fun k hk => by simp at hk; omega), ((N42.go0 A52' (fun k hk => by simp at hk; omega)).go0 M55 fun k hk => (q55 k hk).1).go0 A59.mod (fun k hk => by simp at hk; omega), by have := A52'.size; have := M55.size; have := A59.mod.size; omega, hspn, rfl⟩
theorem yGK {n : Int} (h : num n = true) : IntKind.wrap .u64 n = ((n.toNat : Nat) : Int) := by
 have := yd1 h
 obtain ⟨k, rfl⟩ := Int.eq_ofNat_of_zero_le this.1
 rw [ydJ (by omega), Int.toNat_natCast]
theorem yk4 {l : List Int} {k : Nat} {n : Int} (h : l[k]? = some n) : (l.take (k + 1)).flatMap yk7 = (l.take k).flatMap yk7 ++ yaJ n.toNat := ya9 h
set_option maxHeartbeats 4000000 in
theorem ytN {w : World} {m : PMail} {s f p : Sl} (h : MailAt w m s f p) (hlc : m.calls.length ≤ 100000) :
  Calls pP 10 #[m.v s f p] w fun e w' => e = .returned (.tuple #[.string (if ybO m = 0 then ydU m else bs []), .int .i64 (ybO m)]) ∧ Mod [] w w' := by
 refine yaP (yGz ?_)
 intro b1 f1 w2 A2
 have l1 := A2.lt b1 (by simp)
 refine (ykY ((h.keep0 A2.mod).w hlc)).mono ?_
 rintro _ w3 ⟨rfl, M3⟩
 have s3 := M3.size
 have N3 := A2.mod.go0 M3 (by simp)
 refine ⟨_, rfl, yaD.of0 M3, yaB (fun g => ?_) fun g => ?_⟩
 ·have g : ycC m ≠ 0 := by simpa using g
  have e : ybO m = ycC m := by rw [ybO, if_pos g]
  rw [e, if_neg g]; exact ⟨rfl, N3⟩
 have g : ycC m = 0 := by simpa using g
 obtain ⟨_, hn, ht, hr⟩ := yb7 g
 have hE : ybO m = if (ybQ m).length > 1048576 then 2 else 0 := by rw [ybO, if_neg (by simpa using g)]
 intro b5 f5 w6 A6 h6
 have l5 := A6.lt b5 (by simp)
 refine (yq0 b1 w6).mono ?_
 rintro _ w7 ⟨rfl, M7⟩
 refine ⟨_, _, _, _, _, _, _, _, _, _, rfl, yaD.of0 M7, _, _, _, _, _, _, _, _, _, _, _, _, _, _, _, _, _, _, _, _, _, _, _, M7.keep0 h6, ?_⟩
 intro w8 A8 h8 hb8
 have s6 := A6.mod.size
 have s7 := M7.size
 have s8 := A8.mod.size
 have N8 : Mod [] w w8 := ((N3.go0 A6.mod (by simp)).go0 M7 (by simp)).go0 A8.mod (by simp)
 have hB0 : Sb w3.heap.size b5 [] w8 := Sb.fresh f5 hb8
 have hsb : ycQ w8 1 (fun x : Int => [.int .i64 x]) (some ⟨b1, 0, none⟩) 10 (yaQ m) := ⟨rfl, fun i x hx => ⟨_, rfl, fun j v hv => by
  have hj : j = 0 := by have := (List.getElem?_eq_some_iff.1 hv).1; simp at this; omega
  subst hj
  simp at hv; subst hv
  have := ye1 (s := s) (f := f) (p := p) h8 hx
  simpa [ya5, add_zero] using this⟩⟩
 refine yx0 (fun mm x19 k0 k1 k2 k3 k4 k5 k6 k7 k8 k9 sa sn sc r0 r1 r2 r3 fa fn fc pa pn pc p1 a1 n1 c1 w' => ∃ k : Nat, x19 = k ∧ k ≤ 10 ∧ k0 = m.kind ∧ k1 = m.fr ∧ k2 = m.to ∧ k3 = m.view ∧ k4 = m.normal ∧ k5 = m.last ∧ k6 = m.commit ∧ k7 = m.nonce ∧ k8 = m.base ∧ k9 = m.n ∧ sa = s.a ∧ sn = s.n ∧ sc = s.c ∧ r0 = m.r.e ∧ r1 = m.r.off ∧ r2 = m.r.n ∧ r3 = m.r.gen ∧ fa = f.a ∧ fn = f.n ∧ fc = f.c ∧ pa = p.a ∧ pn = p.n ∧ pc = p.c ∧ Sb w3.heap.size b5 (((yaQ m).take k).flatMap yk7) w' ∧ Wr w3.heap.size b5 w8 w' ∧ mm = 10 - k) 10
  ⟨0, rfl, by omega, rfl, rfl, rfl, rfl, rfl, rfl, rfl, rfl, rfl, rfl, rfl, rfl, rfl, rfl, rfl, rfl, rfl, rfl, rfl, rfl, rfl, rfl, rfl, by simpa using hB0, Wr.of0 (Mod.refl _) (by omega), rfl⟩ ?_
 rintro mm x19 k0 k1 k2 k3 k4 k5 k6 k7 k8 k9 sa sn sc r0 r1 r2 r3 fa fn fc pa pn pc p1 a1 n1 c1 w9 ⟨k, rfl, hk, rfl, rfl, rfl, rfl, rfl, rfl, rfl, rfl, rfl, rfl, rfl, rfl, rfl, rfl, rfl, rfl, rfl, rfl, rfl, rfl, rfl, rfl, rfl, hB9, W9, rfl⟩ h9 hb9
 have lk := ye5 hn k
 have lk1 := ye5 hn (k + 1)
 have s9 := W9.bel.size
 have N9 : Mod [] w w9 := W9.mod N8 (by have := N3.size; omega)
 have sz3 : w3.heap.size ≤ w9.heap.size := by omega
 have ne : b1 ≠ b5 := by omega
 have M0 : ∀ {w'}, Wr w3.heap.size b5 w8 w' → Mod [] w w' := fun W => W.mod N8 (by have := N3.size; omega)
 refine yaC (fun hlt => ?_) fun hge => ?_
 ·have hk' : k < 10 := by omega
  obtain ⟨x, hx⟩ : ∃ x, (yaQ m)[k]? = some x := ⟨_, List.getElem?_eq_getElem (by simpa [yaQ] using hk')⟩
  have hc := ye1 (s := s) (f := f) (p := p) h9 hx
  have hx1 := ygJ hn hx
  refine ⟨_, yFU b1 hk', yjN (yaF hc ?_)⟩
  rw [yGK hx1]
  refine (ykC x.toNat (ye4 hx1).1 w9).mono ?_
  rintro _ w10 ⟨rfl, M10⟩
  obtain ⟨q1, q2, q3, q4, hq⟩ := (hB9.keep0 M10).cells
  refine ⟨_, rfl, _, _, _, _, _, _, _, _, _, _, _, _, _, _, _, _, _, _, _, _, _, _, _, M10.keep0 h9, _, _, _, _, hq, ?_⟩
  have ls := ye4 hx1
  have lv := (yaL x.toNat ls.1).2
  have s10 := M10.size
  refine (yBd (hB9.keep0 M10) (l2 := yaJ x.toNat) (by omega) (by omega)).mono ?_
  rintro _ w11 ⟨rfl, hB11, W11⟩
  obtain ⟨t1, t2, t3, t4, ht1⟩ := hB11.cells
  have W9' : Wr w3.heap.size b5 w8 w11 := (W9.trans (Wr.of0 M10 (by omega))).trans W11
  refine ⟨_, _, rfl, _, _, _, _, _, _, _, _, _, _, _, _, _, _, _, _, _, _, _, _, _, _, _, W11.keep (M10.keep0 h9) ne (by decide), _, _, _, _, ht1, ?_⟩
  refine yxZ (10 - (k + 1)) (by omega) ⟨k + 1, by rw [yaG (by omega) (by omega)]; omega, by omega, rfl, rfl, rfl, rfl, rfl, rfl, rfl, rfl, rfl, rfl, rfl, rfl, rfl, rfl, rfl, rfl, rfl, rfl, rfl, rfl, rfl, rfl, rfl, ?_, W9', rfl⟩
  rw [yk4 hx]; exact hB11
 ·have hk' : k = 10 := by omega
  subst hk'
  have e10 : (yaQ m).take 10 = yaQ m := List.take_of_length_le (by simp [yaQ])
  rw [e10] at hB9 lk
  obtain ⟨ll, hll, hop, hcs⟩ := h.calls
  have hl : ll.length ≤ 1000000 := by have := congrArg List.length hcs; simp at *; omega
  refine (ytC (s := s) (ll := ll) ⟨hll.keep0 N9, fun q hq => (hop q hq).keep0 N9⟩ hl).mono ?_
  rw [hcs, ht, if_pos rfl]
  rintro _ w10 ⟨rfl, M10⟩
  obtain ⟨q1, q2, q3, q4, hq⟩ := (hB9.keep0 M10).cells
  refine ⟨_, _, rfl, _, _, _, _, _, _, _, _, _, _, _, _, _, _, _, _, _, _, _, _, _, _, _, M10.keep0 h9, _, _, _, _, hq, ?_⟩
  have N10 := N9.go0 M10 (by simp)
  refine (yu6 (h.rep.keep0 N10)).mono ?_
  rw [hr, if_pos rfl]
  rintro _ w11 ⟨rfl, M11⟩
  obtain ⟨t1, t2, t3, t4, ht1⟩ := ((hB9.keep0 M10).keep0 M11).cells
  refine ⟨_, _, rfl, _, _, _, _, _, _, _, _, _, _, _, _, _, _, _, _, _, _, _, _, _, _, _, M11.keep0 (M10.keep0 h9), _, _, _, _, ht1, ?_⟩
  have hne : (yaQ m).flatMap yk7 ≠ [] := fun e => by
   have := (yaL m.kind.toNat (by have := yd1 (ygJ hn (k := 0) (n := m.kind) rfl); omega)).1
   have e2 := congrArg List.length e
   simp only [yaQ, List.flatMap_cons, List.length_append, List.length_nil] at e2
   unfold yk7 at e2
   omega
  have s10 := M10.size
  have s11 := M11.size
  refine (yFJ ((hB9.keep0 M10).keep0 M11) hne).mono ?_
  rintro _ w12 ⟨rfl, hB12, W12⟩
  have s12 := W12.bel.size
  obtain ⟨u1, u2, u3, u4, hu1⟩ := hB12.cells
  have h12 := W12.keep (M11.keep0 (M10.keep0 h9)) ne (by decide)
  refine ⟨_, rfl, _, _, _, _, _, _, _, _, _, _, _, _, _, _, _, _, _, _, _, _, _, _, _, h12, _, _, _, _, hu1, ?_⟩
  have lt := yhS ht
  have lr : (ydW m.r).length ≤ 60000 := (RepGood.of hr).len3 m.r.parts.length
  have W8 : Wr w3.heap.size b5 w8 w12 := ((W9.trans (Wr.of0 M10 (by omega))).trans (Wr.of0 M11 (by omega))).trans W12
  refine (yc0 (bs (ybG m.calls)) (by rw [yaE]; omega) w12).mono ?_
  rintro _ w13 ⟨rfl, M13⟩
  obtain ⟨v1, v2, v3, v4, hv1⟩ := (hB12.keep0 M13).cells
  have p1 := (yaV (bs (ybG m.calls)) (by rw [yaE]; omega)).2
  have p2 := (yaV (bs (ydW m.r)) (by rw [yaE]; omega)).2
  rw [yaE] at p1 p2
  refine ⟨_, rfl, _, _, _, _, _, _, _, _, _, _, _, _, _, _, _, _, _, _, _, _, _, _, _, M13.keep0 h12, _, _, _, _, hv1, by rw [yaE, yaE]; omega, ?_⟩
  rw [ybD]
  refine (yc0 (bs (ydW m.r)) (by rw [yaE]; omega) w13).mono ?_
  rintro _ w14 ⟨rfl, M14⟩
  obtain ⟨y1, y2, y3, y4, hy1⟩ := ((hB12.keep0 M13).keep0 M14).cells
  refine ⟨_, rfl, _, _, _, _, _, _, _, _, _, _, _, _, _, _, _, _, _, _, _, _, _, _, _, M14.keep0 (M13.keep0 h12), _, _, _, _, hy1, by rw [yaE, yaE, List.length_append]; omega, ?_⟩
  rw [ybD]
  have eB : (yaQ m).flatMap yk7 ++ ybM (bs (ybG m.calls)) ++ ybM (bs (ydW m.r)) = ybQ m := rfl
  rw [eB]
  have lB := ykZ g
  have N14 : Mod [] w w14 := ((M0 W8).go0 M13 (by simp)).go0 M14 (by simp)
  refine yaC (fun hbig => ?_) fun hbig => ?_
  ·rw [yaE] at hbig
   have e : ybO m = 2 := by rw [hE, if_pos (by omega)]
   rw [e]; exact ⟨rfl, N14⟩
  ·rw [yaE] at hbig
   have e : ybO m = 0 := by rw [hE, if_neg (by omega)]
   refine (yuB (bs (ybQ m)) (by rw [yaE]; omega) w14).mono ?_
   rintro _ w15 ⟨rfl, M15⟩
   obtain ⟨z1, z2, z3, z4, hz1⟩ := (((hB12.keep0 M13).keep0 M14).keep0 M15).cells
   refine ⟨_, rfl, _, _, _, _, _, _, _, _, _, _, _, _, _, _, _, _, _, _, _, _, _, _, _, M15.keep0 (M14.keep0 (M13.keep0 h12)), _, _, _, _, hz1, ?_⟩
   rw [e, if_pos rfl]; exact ⟨rfl, N14.go0 M15 (by simp)⟩
set_option maxHeartbeats 4000000 in
theorem yCz {w : World} {m : PMail} {s f p : Sl} (h : MailAt w m s f p) (hlc : m.calls.length ≤ 100000) :
  Calls pP 11 #[m.v s f p] w fun e w' => e = .returned (.tuple #[.string (if ybO m = 0 then ydU m else bs []), .int .i64 (ybO m)]) ∧ Mod [] w w' := by
 refine yaP (yCj ?_)
 intro b1 f1 w2 A2
 refine (ytI (h.keep0 A2.mod) hlc).mono ?_
 rintro _ w3 ⟨rfl, M3⟩
 have N3 := A2.mod.go0 M3 (by simp)
 refine ⟨_, rfl, yaD.of0 M3, yaB (fun g => ?_) fun g => ?_⟩
 ·have g : ycC m ≠ 0 := by simpa using g
  have e : ybO m = ycC m := by rw [ybO, if_pos g]
  rw [e, if_neg g]; exact ⟨rfl, N3⟩
 have g : ycC m = 0 := by simpa using g
 obtain ⟨_, hn, ht, hr⟩ := yb7 g
 have hE : ybO m = if (ybQ m).length > 1048576 then 2 else 0 := by rw [ybO, if_neg (by simpa using g)]
 refine (yiJ m s f p).mono ?_
 rintro _ w4 ⟨_, rfl, c4, rfl, h4, M4⟩
 refine ⟨_, _, _, rfl, yaD.of0 M4, ?_⟩
 have N4 := N3.go0 M4 (by simp)
 refine ym3 (fun mm s5 x7 w' => ∃ k : Nat, x7 = k ∧ k ≤ 10 ∧ s5 = bs (((yaQ m).take k).flatMap yk7) ∧ Mod [] w4 w' ∧ mm = 10 - k) 10 ⟨0, rfl, by omega, by simp [yD7], Mod.refl _, rfl⟩ ?_
 rintro mm s5 x7 w5 ⟨k, rfl, hk, rfl, M5, rfl⟩
 have lk := ye5 hn k
 have N5 := N4.go0 M5 (by simp)
 refine yaC (fun hlt => ?_) fun hge => ?_
 ·have hk' : k < 10 := by omega
  obtain ⟨x, hx⟩ : ∃ x, (yaQ m)[k]? = some x := ⟨_, List.getElem?_eq_getElem (by simpa [yaQ] using hk')⟩
  have hx1 := ygJ hn hx
  have ls := ye4 hx1
  have lv := (yaL x.toNat ls.1).2
  refine (h4.keep0 M5).ix hx fun q hq => yaF (x := x) (by simpa [add_zero] using hq 0 _ rfl) ?_
  rw [yGK hx1]
  refine (yb8 ls.1 w5).mono ?_
  rintro _ w6 ⟨rfl, M6⟩
  refine ⟨_, rfl, yaD.of0 M6, by rw [yaE, yaE]; omega, ?_⟩
  rw [ybD]
  exact ym2 (10 - (k + 1)) (by omega) ⟨k + 1, by rw [yaG (by omega) (by omega)]; omega, by omega, by rw [yk4 hx], M5.go0 M6 (by simp), rfl⟩
 ·have hk' : k = 10 := by omega
  subst hk'
  have e10 : (yaQ m).take 10 = yaQ m := List.take_of_length_le (by simp [yaQ])
  rw [e10] at lk ⊢
  obtain ⟨ll, hll, hop, hcs⟩ := h.calls
  have hl : ll.length ≤ 1000000 := by have := congrArg List.length hcs; simp at *; omega
  refine (yiQ (s := s) (ll := ll) ⟨hll.keep0 N5, fun q hq => (hop q hq).keep0 N5⟩ hl).mono ?_
  rw [hcs, ht, if_pos rfl]
  rintro _ w6 ⟨rfl, M6⟩
  have N6 := N5.go0 M6 (by simp)
  refine ⟨_, _, rfl, yaD.of0 M6, ?_⟩
  refine (ye3 (h.rep.keep0 N6)).mono ?_
  rw [hr, if_pos rfl]
  rintro _ w7 ⟨rfl, M7⟩
  refine ⟨_, _, rfl, yaD.of0 M7, ?_⟩
  have lt := yhS ht
  have lr : (ydW m.r).length ≤ 60000 := (RepGood.of hr).len3 m.r.parts.length
  refine (ybL (bs (ybG m.calls)) (by rw [yaE]; omega) w7).mono ?_
  rintro _ w8 ⟨rfl, M8⟩
  refine ⟨_, rfl, yaD.of0 M8, ?_⟩
  refine (ybL (bs (ydW m.r)) (by rw [yaE]; omega) w8).mono ?_
  rintro _ w9 ⟨rfl, M9⟩
  have p1 := (yaV (bs (ybG m.calls)) (by rw [yaE]; omega)).2
  have p2 := (yaV (bs (ydW m.r)) (by rw [yaE]; omega)).2
  rw [yaE] at p1 p2
  refine ⟨_, rfl, yaD.of0 M9, by rw [yaE, yaE]; omega, ?_⟩
  rw [ybD]
  refine ⟨by rw [yaE, yaE, List.length_append]; omega, ?_⟩
  rw [ybD]
  have eB : (yaQ m).flatMap yk7 ++ (ybM (bs (ybG m.calls)) ++ ybM (bs (ydW m.r))) = ybQ m := by rw [← List.append_assoc]; rfl
  rw [eB]
  have lB := ykZ g
  have N9 : Mod [] w w9 := ((N6.go0 M7 (by simp)).go0 M8 (by simp)).go0 M9 (by simp)
  refine yaC (fun hbig => ?_) fun hbig => ?_
  ·rw [yaE] at hbig
   have e : ybO m = 2 := by rw [hE, if_pos (by omega)]
   rw [e]; exact ⟨rfl, N9⟩
  ·rw [yaE] at hbig
   have e : ybO m = 0 := by rw [hE, if_neg (by omega)]
   refine (ykX (bs (ybQ m)) (by rw [yaE]; omega) w9).mono ?_
   rintro _ w10 ⟨rfl, M10⟩
   refine ⟨_, rfl, yaD.of0 M10, ?_⟩
   rw [e, if_pos rfl]; exact ⟨rfl, N9.go0 M10 (by simp)⟩
def ydV (s : ByteArray) (x : PMail) : Prop := ybO x = 0 ∧ s.data.toList = ybQ x
theorem ydV.num {s : ByteArray} {x : PMail} (h : ydV s x) {k : Nat} {n : Int} (hn : (yaQ x)[k]? = some n) : vg 0 (s.data.toList.drop (yhW x k)) = some (n.toNat, yhW x (k + 1) - yhW x k) ∧ yhW x k ≤ yhW x (k + 1) ∧ num n = true := by
 obtain ⟨h1, _⟩ := yb0 h.1
 obtain ⟨_, h2, _, _⟩ := yb7 h1
 have h3 := yDD h2 hn
 rw [← h.2] at h3
 unfold ycY at h3
 obtain ⟨p, hp, h4⟩ := Option.map_eq_some_iff.1 h3
 simp only [Prod.mk.injEq] at h4
 refine ⟨?_, by omega, ygJ h2 hn⟩
 rw [hp]
 congr 1
 exact Prod.ext h4.1 (by omega)
theorem ydV.txt {s : ByteArray} {x : PMail} (h : ydV s x) : ∃ m1 m2, tg 1048576 (s.data.toList.drop (yhW x 10)) = some (bs (ybG x.calls), m1) ∧ tg 1048576 (s.data.toList.drop (yhW x 10 + m1)) = some (bs (ydW x.r), m2) := by
 obtain ⟨h1, h2⟩ := yDE h.1
 rw [← h.2] at h1 h2
 unfold ye2 at h1 h2
 obtain ⟨p, hp, h3⟩ := Option.map_eq_some_iff.1 h1
 obtain ⟨q, hq, h4⟩ := Option.map_eq_some_iff.1 h2
 simp only [Prod.mk.injEq] at h3 h4
 refine ⟨p.2, q.2, ?_, ?_⟩
 ·rw [hp]; congr 1; exact Prod.ext h3.1 rfl
 ·rw [h3.2, hq]; congr 1; exact Prod.ext h4.1 rfl
theorem ym7 {s : ByteArray} {x y : PMail} (hx : ydV s x) (hy : ydV s y) : x = y := by
 have hd : ∀ k, k ≤ 10 → yhW x k = yhW y k ∧ (yaQ x).take k = (yaQ y).take k := by
  intro k
  induction k with
  | zero => intro _; exact ⟨rfl, rfl⟩
  | succ k ih =>
   intro hk
   obtain ⟨i1, i2⟩ := ih (by omega)
   obtain ⟨a, ha⟩ : ∃ a, (yaQ x)[k]? = some a := ⟨_, List.getElem?_eq_getElem (by simp [yaQ]; omega)⟩
   obtain ⟨b, hb⟩ : ∃ b, (yaQ y)[k]? = some b := ⟨_, List.getElem?_eq_getElem (by simp [yaQ]; omega)⟩
   obtain ⟨h1, h2, h3⟩ := hx.num ha
   obtain ⟨h4, h5, h6⟩ := hy.num hb
   rw [i1, h4] at h1
   simp only [Option.some.injEq, Prod.mk.injEq] at h1
   have h3 := yd1 h3
   have h6 := yd1 h6
   have e : a = b := by omega
   exact ⟨by omega, by rw [List.take_add_one, List.take_add_one, ha, hb, i2, e]⟩
 obtain ⟨h1, h2⟩ := hd 10 (Nat.le_refl _)
 rw [List.take_of_length_le (by simp [yaQ]), List.take_of_length_le (by simp [yaQ])] at h2
 obtain ⟨m1, m2, h3, h4⟩ := hx.txt
 obtain ⟨n1, n2, h5, h6⟩ := hy.txt
 rw [h1, h5] at h3
 simp only [Option.some.injEq, Prod.mk.injEq] at h3
 rw [h1, ← h3.2, h6] at h4
 simp only [Option.some.injEq, Prod.mk.injEq] at h4
 obtain ⟨_, _, tx, rx⟩ := yb7 (yb0 hx.1).1
 obtain ⟨_, _, ty, ry⟩ := yb7 (yb0 hy.1).1
 have e1 : y.calls = x.calls := by
  have p1 := ydL ty
  rw [h3.1, ydL tx] at p1
  exact (Option.some.inj p1).symm
 have e2 := ypN ry rx (yhM h4.1)
 obtain ⟨a1, a2, a3, a4, a5, a6, a7, a8, a9, a10, a11, a12⟩ := x
 obtain ⟨b1, b2, b3, b4, b5, b6, b7, b8, b9, b10, b11, b12⟩ := y
 simp [yaQ] at h2
 simp only [PMail.mk.injEq]
 refine ⟨?_, ?_, ?_, ?_, ?_, ?_, ?_, ?_, ?_, ?_, e1.symm, e2.symm⟩ <;> omega
set_option maxHeartbeats 8000000 in
theorem yDJ {s : ByteArray} (hs : s.size ≤ 900000) (w : World) :
  Calls pP 42 #[.string s] w fun e w' => ∃ v, e = .returned v ∧ ∃ (m : PMail) (s1 f1 p1 : Sl), v = m.v s1 f1 p1 ∧ MailOwn w' w.heap.size m s1 f1 p1 ∧ m.calls.length ≤ 100000 ∧ (∀ x, ydV s x → m = x) ∧ Mod [] w w' := by
 have hss : s.data.toList.length = s.size := by simp
 refine yGD ?_
 intro b1 f1 b2 f2 w3 A3 h3
 have l1 := A3.lt b1 (by simp)
 have l2 := A3.lt b2 (by simp)
 have nd : b1 ≠ b2 := by have := A3.nd; simp at this; exact fun h => this h.symm
 have s3 := A3.mod.size
 refine (yq0 b2 w3).mono ?_
 rintro _ w4 ⟨rfl, M4⟩
 have s4 := M4.size
 have h4 := M4.keep0 h3
 refine ⟨_, _, _, _, _, _, _, _, _, _, rfl, yaD.of0 M4, _, _, _, _, _, _, _, _, _, _, _, _, _, _, _, _, _, _, _, _, _, _, _, h4, ?_⟩
 have N4 : Mod [] w w4 := A3.mod.go0 M4 (by simp)
 have z0 : ∀ {w' : World}, Mod [] w w' → (∀ x, ¬ ydV s x) → ∃ (m : PMail) (s1 f1 p1 : Sl), Value.agg #[.int .i64 0, .int .i64 0, .int .i64 0, .int .i64 0, .int .i64 0, .int .i64 0, .int .i64 0, .int .i64 0, .int .i64 0, .int .i64 0, .slice none 0 0, .int .i64 0, .int .i64 0, .int .i64 0, .int .i64 0, .slice none 0 0, .slice none 0 0] = m.v s1 f1 p1 ∧ MailOwn w' w.heap.size m s1 f1 p1 ∧ m.calls.length ≤ 100000 ∧ (∀ x, ydV s x → m = x) ∧ Mod [] w w' := fun {w'} N hn =>
  ⟨yhO, ya6, ya6, ya6, rfl, ⟨⟨[], Row.nil .., by simp, rfl⟩, ⟨Row.nil .., Row.nil .., by simp [yhO, ydS], by simp [yhO, ydS]⟩⟩, by simp [yhO], fun x hx => absurd hx (hn x), N⟩
 refine yx8 (fun mm x4 x16 k0 k1 k2 k3 k4 k5 k6 k7 k8 k9 sa sn sc r0 r1 r2 r3 fa fn fc pa pn pc w' => ∃ a k : Nat, x4 = a ∧ x16 = k ∧ k ≤ 10 ∧ a ≤ s.size ∧ sa = none ∧ sn = 0 ∧ sc = 0 ∧ r0 = 0 ∧ r1 = 0 ∧ r2 = 0 ∧ r3 = 0 ∧ fa = none ∧ fn = 0 ∧ fc = 0 ∧ pa = none ∧ pn = 0 ∧ pc = 0 ∧ Mod [b2] w4 w' ∧ (∀ x, ydV s x → a = yhW x k ∧ ([k0, k1, k2, k3, k4, k5, k6, k7, k8, k9] : List Int).take k = (yaQ x).take k) ∧ mm = 10 - k) 10
  ⟨0, 0, rfl, rfl, by omega, by omega, rfl, rfl, rfl, rfl, rfl, rfl, rfl, rfl, rfl, rfl, rfl, rfl, rfl, (Mod.refl _).less (by simp), fun x _ => ⟨by simp [yhW], rfl⟩, rfl⟩ ?_
 rintro mm x4 x16 k0 k1 k2 k3 k4 k5 k6 k7 k8 k9 sa sn sc r0 r1 r2 r3 fa fn fc pa pn pc w5 ⟨a, k, rfl, rfl, hk, ha, rfl, rfl, rfl, rfl, rfl, rfl, rfl, rfl, rfl, rfl, rfl, rfl, rfl, M5, hsp, rfl⟩ h5
 have s5 := M5.size
 have N5 : Mod [] w w5 := N4.go0 M5 (by simpa using f2)
 refine yaC (fun hlt => ?_) fun hge => ?_
 ·have hk' : k < 10 := by omega
  refine ⟨_, yFU b2 hk', ?_⟩
  refine (yg1 s a (by omega) ha w5).mono ?_
  rintro _ w6 ⟨v, rfl, hv, rfl⟩
  obtain ⟨n, b, e, rfl, hg⟩ := hv.out
  refine ⟨_, _, _, rfl, yaD.of0 (Mod.refl _), _, _, _, _, _, _, _, _, _, _, _, _, _, _, _, _, _, _, _, _, _, _, _, h5, ?_⟩
  have hnum : ∀ x, ydV s x → ∃ y : Int, (yaQ x)[k]? = some y ∧ n = y.toNat ∧ e = 0 ∧ b = ((yhW x (k + 1) : Nat) : Int) ∧ num y = true := fun x hx => by
   obtain ⟨h1, h2⟩ := hsp x hx
   obtain ⟨y, hy⟩ : ∃ y, (yaQ x)[k]? = some y := ⟨_, List.getElem?_eq_getElem (by simpa [yaQ] using hk')⟩
   obtain ⟨h6, h7, h8⟩ := hx.num hy
   rw [← h1] at h6
   rcases hg with ⟨g1, m, g2, g3⟩ | ⟨_, g3⟩
   ·rw [h6] at g3
    simp only [Option.some.injEq, Prod.mk.injEq] at g3
    exact ⟨y, hy, g3.1.symm, g1, by omega, h8⟩
   ·rw [h6] at g3; cases g3
  refine yaB (fun g => fun w7 A7 _ => z0 (N5.go0 A7.mod (by simpa using f1)) fun x hx => ?_) fun g => ?_
  ·obtain ⟨y, _, _, he, _⟩ := hnum x hx
   simp [he] at g
  have g : e = 0 := by simpa using g
  refine yaC (fun gb => fun w7 A7 _ => z0 (N5.go0 A7.mod (by simpa using f1)) fun x hx => ?_) fun gb => ?_
  ·obtain ⟨y, _, h6, _, _, h7⟩ := hnum x hx
   have := yd1 h7
   omega
  rcases hg with ⟨_, m, hb, hvg⟩ | ⟨g3, _⟩
  rotate_left
  ·exact absurd g g3
  have hml := ykH _ hvg
  rw [List.length_drop, hss] at hml
  obtain ⟨v, hv⟩ : ∃ v, v = IntKind.wrap .i64 (n : Int) := ⟨_, rfl⟩
  have hvn : v = n := by rw [hv, yaG (by omega) (by omega)]
  rw [← hv]
  refine yjN (yd8 h5 rfl (by simp; omega) fun w7 h7 M7 => ?_)
  have h7' : w7.heap[b2]? = some (.cells #[.int .i64 (if k = 0 then v else k0), .int .i64 (if k = 1 then v else k1), .int .i64 (if k = 2 then v else k2), .int .i64 (if k = 3 then v else k3), .int .i64 (if k = 4 then v else k4), .int .i64 (if k = 5 then v else k5), .int .i64 (if k = 6 then v else k6), .int .i64 (if k = 7 then v else k7), .int .i64 (if k = 8 then v else k8), .int .i64 (if k = 9 then v else k9), .slice none 0 0, .int .i64 0, .int .i64 0, .int .i64 0, .int .i64 0, .slice none 0 0, .slice none 0 0] 29) := by
   rw [h7]
   rcases (by omega : k = 0 ∨ k = 1 ∨ k = 2 ∨ k = 3 ∨ k = 4 ∨ k = 5 ∨ k = 6 ∨ k = 7 ∨ k = 8 ∨ k = 9) with rfl | rfl | rfl | rfl | rfl | rfl | rfl | rfl | rfl | rfl <;> rfl
  refine ⟨yaD.ofE M7 fun k hk hl he => by simp at hk he ⊢; omega, _, _, _, _, _, _, _, _, _, _, _, _, _, _, _, _, _, _, _, _, _, _, _, h7', ?_⟩
  rw [hb]
  refine yx7 (10 - (k + 1)) (by omega) ⟨a + m, k + 1, rfl, by rw [yaG (by omega) (by omega)]; omega, by omega, by omega, rfl, rfl, rfl, rfl, rfl, rfl, rfl, rfl, rfl, rfl, rfl, rfl, rfl, M5.via M7 (by simp), fun x hx => ?_, rfl⟩
  obtain ⟨y, hy, h6, _, h8, h9⟩ := hnum x hx
  have := yd1 h9
  refine ⟨by omega, ?_⟩
  rw [List.take_add_one (l := yaQ x), hy, ← (hsp x hx).2, show y = v by omega]
  rcases (by omega : k = 0 ∨ k = 1 ∨ k = 2 ∨ k = 3 ∨ k = 4 ∨ k = 5 ∨ k = 6 ∨ k = 7 ∨ k = 8 ∨ k = 9) with rfl | rfl | rfl | rfl | rfl | rfl | rfl | rfl | rfl | rfl <;> rfl
 ·have hk' : k = 10 := by omega
  subst hk'
  refine (yd5 s a 1048576 (by omega) ha (by omega) w5).mono ?_
  rintro _ w6 ⟨v, rfl, hv, rfl⟩
  obtain ⟨t, b, e, rfl, hg⟩ := hv.out
  refine ⟨_, _, _, rfl, yaD.of0 (Mod.refl _), _, _, _, _, _, _, _, _, _, _, _, _, _, _, _, _, _, _, _, _, _, _, _, h5, ?_⟩
  have ht1 : ∀ x, ydV s x → e = 0 ∧ t = bs (ybG x.calls) ∧ ∃ m2, tg 1048576 (s.data.toList.drop b.toNat) = some (bs (ydW x.r), m2) := fun x hx => by
   obtain ⟨m1, m2, h1, h2⟩ := hx.txt
   rw [← (hsp x hx).1] at h1 h2
   rcases hg with ⟨g1, m, g2, g3⟩ | ⟨_, g3, _⟩
   ·rw [h1] at g3
    simp only [Option.some.injEq, Prod.mk.injEq] at g3
    refine ⟨g1, g3.1.symm, m2, ?_⟩
    rw [g2, ← g3.2, Int.toNat_natCast]; exact h2
   ·rw [h1] at g3; cases g3
  refine yaB (fun g => fun w7 A7 _ => z0 (N5.go0 A7.mod (by simpa using f1)) fun x hx => by simp [(ht1 x hx).1] at g) fun g => ?_
  have g : e = 0 := by simpa using g
  rcases hg with ⟨_, m, hb, htg⟩ | ⟨g3, _⟩
  rotate_left
  ·exact absurd g g3
  have hml := yfQ htg
  rw [List.length_drop, hss] at hml
  subst hb
  refine (yd5 s (a + m) 1048576 (by omega) (by omega) (by omega) w6).mono ?_
  rintro _ w7 ⟨v, rfl, hv, rfl⟩
  obtain ⟨t2, b', e2, rfl, hg2⟩ := hv.out
  refine ⟨_, _, _, rfl, yaD.of0 (Mod.refl _), _, _, _, _, _, _, _, _, _, _, _, _, _, _, _, _, _, _, _, _, _, _, _, h5, ?_⟩
  have ht2 : ∀ x, ydV s x → e2 = 0 ∧ t2 = bs (ydW x.r) := fun x hx => by
   obtain ⟨_, _, m2, h2⟩ := ht1 x hx
   rw [Int.toNat_natCast] at h2
   rcases hg2 with ⟨g1, m', g2, g3⟩ | ⟨_, g3, _⟩
   ·rw [h2] at g3
    simp only [Option.some.injEq, Prod.mk.injEq] at g3
    exact ⟨g1, g3.1.symm⟩
   ·rw [h2] at g3; cases g3
  refine yaB (fun g => fun w8 A8 _ => z0 (N5.go0 A8.mod (by simpa using f1)) fun x hx => by simp [(ht2 x hx).1] at g) fun g2 => ?_
  have g2 : e2 = 0 := by simpa using g2
  rcases hg2 with ⟨_, m', _, htg2⟩ | ⟨g3, _⟩
  rotate_left
  ·exact absurd g2 g3
  have hml2 := yfQ htg2
  rw [List.length_drop, hss] at hml2
  refine (yBB (s := t) (by omega) w7).mono ?_
  rintro _ w8 ⟨v, rfl, hv, M8⟩
  have s8 := M8.size
  have hpc : ∃ (xs : List PCall) (sl : Sl) (e8 : Int), v = .tuple #[.slice sl.a sl.n sl.c, .int .i64 e8] ∧ ybW w8 w7.heap.size sl xs ∧ xs.length ≤ 100000 ∧ ∀ x, ydV s x → xs = x.calls := by
   cases hp : ydA t with
   | none =>
    rw [hp] at hv
    refine ⟨[], ya6, 162, hv, ⟨[], Row.nil .., by simp, rfl⟩, by simp, fun x hx => ?_⟩
    obtain ⟨h1, _⟩ := yb0 hx.1
    obtain ⟨_, _, h2, _⟩ := yb7 h1
    rw [(ht1 x hx).2.1, ydL h2] at hp; cases hp
   | some xs =>
    rw [hp] at hv
    obtain ⟨sl, rfl, hc⟩ := hv
    have h6 := (ygI.1 hp).1
    refine ⟨xs, sl, 0, rfl, hc, by have := (yeG h6).1; omega, fun x hx => ?_⟩
    obtain ⟨h1, _⟩ := yb0 hx.1
    obtain ⟨_, _, h2, _⟩ := yb7 h1
    rw [(ht1 x hx).2.1, ydL h2] at hp
    exact (Option.some.inj hp).symm
  obtain ⟨xs, sl, e8, rfl, hC, hxl, hxs⟩ := hpc
  have h8 := M8.keep0 h5
  refine ⟨_, _, _, _, rfl, yaD.of0 M8, _, _, _, _, _, _, _, _, _, _, _, _, _, _, _, _, _, _, _, _, _, _, _, h8, ?_⟩
  intro w9 A9 h9
  have s9 := A9.mod.size
  refine (ytJ (s := t2) (by omega) w9).mono ?_
  rintro _ w10 ⟨v, rfl, hv, M10⟩
  have s10 := M10.size
  have hpr : ∃ (r : PRep) (fl pl : Sl) (e10 : Int), v = .tuple #[r.v fl pl, .int .i64 e10] ∧ RepOwn w10 w9.heap.size r fl pl ∧ ∀ x, ydV s x → r = x.r := by
   rcases hv with ⟨r, fl, pl, h1, rfl, h2⟩ | ⟨h1, rfl⟩
   ·refine ⟨r, fl, pl, 0, rfl, h2, fun x hx => ?_⟩
    obtain ⟨h3, _⟩ := yb0 hx.1
    obtain ⟨_, _, _, h4⟩ := yb7 h3
    have h5 := h1.eq
    rw [(ht2 x hx).2] at h5
    exact (ypN h4 h1.1 (yhM h5)).symm
   ·refine ⟨ydS, ya6, ya6, 40, rfl, ⟨Row.nil .., Row.nil .., by simp [ydS], by simp [ydS]⟩, fun x hx => ?_⟩
    obtain ⟨h3, _⟩ := yb0 hx.1
    obtain ⟨_, _, _, h4⟩ := yb7 h3
    exact absurd (yc2.of h4 (ht2 x hx).2) (h1 _)
  obtain ⟨r, fl, pl, e10, rfl, hR, hrx⟩ := hpr
  have h10 := M10.keep0 h9
  refine ⟨_, _, _, _, _, _, _, _, _, _, _, rfl, yaD.of0 M10, _, _, _, _, _, _, _, _, _, _, _, _, _, _, _, _, _, _, _, _, _, _, _, h10, ?_⟩
  intro w11 A11 h11
  have lb : b1 < w7.heap.size ∧ b2 < w7.heap.size := by omega
  refine ⟨⟨k0, k1, k2, k3, k4, k5, k6, k7, k8, k9, xs, r⟩, sl, fl, pl, rfl, ⟨?_, ?_⟩, hxl, fun x hx => ?_, ?_⟩
  ·exact (((hC.keepB A9.mod (by simp; omega)).keep0 M10).keepB A11.mod (by simp; omega)).rebase (by omega)
  ·exact (hR.keepB A11.mod (by simp; omega)).rebase (by omega)
  ·have h6 := (hsp x hx).2
   have h7 := hxs x hx
   have h8 := hrx x hx
   obtain ⟨x1, x2, x3, x4, x5, x6, x7, x8, x9, x10, xc, xr⟩ := x
   simp [yaQ] at h6
   simp only [PMail.mk.injEq]
   refine ⟨?_, ?_, ?_, ?_, ?_, ?_, ?_, ?_, ?_, ?_, h7, h8⟩ <;> omega
  ·exact (((N5.go0 M8 (by simp)).go0 A9.mod (by simpa using f2)).go0 M10 (by simp)).go0 A11.mod (by simp; omega)
def yCA (w0 w : World) (base : Nat) (s : ByteArray) (v : Value) : Prop :=
 (∃ (m : PMail) (s1 f1 p1 : Sl), ybO m = 0 ∧ s = ydU m ∧ v = .tuple #[m.v s1 f1 p1, .int .i64 0] ∧ MailOwn w base m s1 f1 p1 ∧ m.calls.length ≤ 100000) ∨ ((∀ m, ybO m = 0 → s ≠ ydU m) ∧ v = .tuple #[yhO.v ya6 ya6 ya6, .int .i64 180])
theorem ytO {s : ByteArray} (hs : s.size ≤ 900000) (w : World) :
  Calls pP 17 #[.string s] w fun e w' => ∃ v, e = .returned v ∧ yCA w w' w.heap.size s v ∧ Mod [] w w' := by
 have hss : s.data.toList.length = s.size := by simp
 refine yGE ?_
 intro b1 f1 w2 A2
 have s2 := A2.mod.size
 refine (yqP s 0 1048576 (by omega) (by omega) (by omega) w2).mono ?_
 rintro _ w3 ⟨v, rfl, hv, M3⟩
 have s3 := M3.size
 rw [List.drop_zero] at hv
 obtain ⟨t, b, e, rfl, hg⟩ := hv.out
 refine ⟨_, _, _, rfl, yaD.of0 M3, ?_⟩
 have htl : t.size ≤ 900000 := by
  rcases hg with ⟨_, m, _, g3⟩ | ⟨_, _, g4, _⟩
  ·have := yqO g3; omega
  ·rw [g4]; show 0 ≤ _; omega
 have hx : ∀ x, ybO x = 0 → s = ydU x → e = 0 ∧ ydV t x := fun x h1 h2 => by
  have h3 := yCm h1
  rw [← h2] at h3
  rcases hg with ⟨g1, m, _, g3⟩ | ⟨_, g3, _⟩
  ·rw [h3] at g3
   simp only [Option.some.injEq, Prod.mk.injEq] at g3
   exact ⟨g1, h1, by rw [← g3.1, ycI]⟩
  ·rw [h3] at g3; cases g3
 refine (yDJ htl w3).mono ?_
 rintro _ w4 ⟨_, rfl, m, s1, f1', p1, rfl, hO, hlc, hm, M4⟩
 have s4 := M4.size
 refine ⟨_, _, _, _, _, _, _, _, _, _, _, _, _, _, _, _, _, _, _, _, _, _, _, rfl, yaD.of0 M4, ?_⟩
 intro b5 f5 w6 A6
 have s6 := A6.mod.size
 refine (ytN ((hO.keep0 A6.mod).at) hlc).mono ?_
 rintro _ w7 ⟨rfl, M7⟩
 have s7 := M7.size
 refine ⟨_, _, rfl, yaD.of0 M7, ?_⟩
 have N7 : Mod [] w w7 := (((A2.mod.go0 M3 (by simp)).go0 M4 (by simp)).go0 A6.mod (by simp)).go0 M7 (by simp)
 have no : ∀ {w'}, Adv [b1] [] w7 w' → (∀ x, ybO x = 0 → s ≠ ydU x) → yCA w w' w.heap.size s (.tuple #[yhO.v ya6 ya6 ya6, .int .i64 180]) ∧ Mod [] w w' := fun {w'} A h => ⟨.inr ⟨h, rfl⟩, N7.go0 A.mod (by simpa using f1)⟩
 refine yaB (fun g => fun w8 A8 => no A8 fun x h1 h2 => ?_) fun g => ?_
 ·have := (hx x h1 h2).1; simp [this] at g
 refine yaB (fun g2 => fun w8 A8 => no A8 fun x h1 h2 => ?_) fun g2 => ?_
 ·have := hm x (hx x h1 h2).2; subst this; simp [h1] at g2
 have g2 : ybO m = 0 := by simpa using g2
 rw [if_pos g2, yfW]
 refine yaB (fun g3 => fun w8 A8 => no A8 fun x h1 h2 => ?_) fun g3 => fun w8 A8 => ?_
 ·have := hm x (hx x h1 h2).2; subst this; simp [h2] at g3
 ·have g3 : ydU m = s := by simpa using g3
  have l1 : b1 < w2.heap.size := A2.lt b1 (by simp)
  exact ⟨.inl ⟨m, s1, f1', p1, g2, g3.symm, rfl, ((((hO.keep0 A6.mod).keep0 M7).keepB A8.mod (by simp; omega)).rebase (by omega)), hlc⟩, N7.go0 A8.mod (by simpa using f1)⟩
def yKj (n : Nat) (s : ByteArray) : ByteArray := s.extract 0 (min s.size n)
theorem yCB (n : Nat) (s : ByteArray) : (yKj n s).size = min s.size n := by unfold yKj; rw [ByteArray.size_extract]; omega
theorem yGL {s : ByteArray} {m : Int} {n : Nat} {F : ByteArray → Prop} (hm : m = (n : Nat)) (hF : F (yKj n s)) : slS s 0 (if m < (s.size : Int) then m else (s.size : Int)) F := by
 subst hm
 refine ⟨by omega, by split <;> omega, by split <;> omega, ?_⟩
 have e : (if (n : Int) < (s.size : Int) then (n : Int) else (s.size : Int)).toNat = min s.size n := by split <;> omega
 rw [e]; exact hF
theorem yCC {w : World} {s : Sl} {xs : List PCall} (h : yfI w s xs) (hc : xs = []) : s.n = 0 := by
 obtain ⟨ll, h1, _, h3⟩ := h
 rw [hc] at h3
 have : ll = [] := by simpa using h3
 rw [h1.1, this]; rfl
theorem yk5 {s : Sl} (hn : s.n = 0) (w : World) :
  Calls pP 32 #[.slice s.a s.n s.c] w fun e w' => e = .returned (.tuple #[.string (bs (yaJ 0)), .int .i64 0]) ∧ Mod [] w w' := by
 obtain ⟨a, n, c⟩ := s
 have hn : n = 0 := hn
 subst hn
 refine yaP (yCa ?_)
 refine yaC (fun g => absurd g (by show ¬ ((0 : Nat) : Int) > 4096; omega)) fun _ => ?_
 have chk : Calls pP 63 #[.slice a 0 c] w fun e w' => e = .returned (.int .i64 0) ∧ w' = w := by
  refine yaP (yB4 ?_)
  refine ymX (fun mm x w' => x = 0 ∧ w' = w) 0 ⟨rfl, rfl⟩ ?_
  rintro mm x w' ⟨rfl, rfl⟩
  refine yaC (fun g => absurd g (by decide)) fun _ => ?_
  refine ymY (fun mm x w2 => x = 0 ∧ w2 = w') 0 ⟨rfl, rfl⟩ ?_
  rintro mm x w2 ⟨rfl, rfl⟩
  exact yaC (fun g => absurd g (by decide)) fun _ => ⟨rfl, rfl⟩
 refine chk.mono ?_
 rintro _ w1 ⟨rfl, rfl⟩
 refine ⟨_, rfl, yaB (fun g => absurd g (by decide)) fun _ => ?_⟩
 refine (yb8 (n := 0) (by omega) w1).mono ?_
 rintro _ w2 ⟨rfl, M2⟩
 refine ⟨_, rfl, ?_⟩
 refine ymZ (fun mm t x w' => x = 0 ∧ t = bs (yaJ 0) ∧ w' = w2) 0 ⟨rfl, rfl, rfl⟩ ?_
 rintro mm t x w3 ⟨rfl, rfl, rfl⟩
 exact yaC (fun g => absurd g (by show ¬ ((0 : Int) < ((0 : Nat) : Int)); omega)) fun _ => ⟨rfl, M2⟩
theorem yrG {w : World} {m : PMail} {s f p : Sl} (h : MailAt w m s f p) (hc : m.calls = []) :
  Calls pP 13 #[m.v s f p] w fun e w' => e = .returned (.int .i64 (ycC m)) ∧ Mod [] w w' := by
 refine yaP (yCh ?_)
 intro b1 f1
 refine yaC (fun g1 => fun w2 A2 => ⟨by rw [ycC, if_pos (.inl g1)], A2.mod⟩) fun g1 => ?_
 refine yaC (fun g2 => fun w2 A2 => ⟨by rw [ycC, if_pos (.inr (by omega))], A2.mod⟩) fun g2 => ?_
 have hE : ycC m = if ((yaQ m).all num) = false then 1 else if ybY m.calls ≠ 0 then ybY m.calls else yfX m.r := by rw [ycC, if_neg (by omega)]
 intro w4 A4
 refine (yiJ m s f p).mono ?_
 rintro e w5 ⟨_, rfl, c5, rfl, h5, M5⟩
 have N5 := A4.mod.go0 M5 (by simp)
 refine ⟨_, _, _, rfl, yaD.of0 M5, ?_⟩
 refine ym1 (fun mm x w' => ∃ k : Nat, x = k ∧ k ≤ 10 ∧ ((yaQ m).take k).all num = true ∧ mm = 10 - k ∧ Mod [] w5 w') 10 ⟨0, rfl, by omega, by simp, rfl, Mod.refl _⟩ ?_
 rintro mm x w6 ⟨k, rfl, hk, hal, rfl, M6⟩
 have N6 := N5.go0 M6 (by simp)
 refine yaC (fun hlt => ?_) fun hge => ?_
 ·have hk' : k < 10 := by omega
  obtain ⟨x, hx⟩ : ∃ x, (yaQ m)[k]? = some x := ⟨_, List.getElem?_eq_getElem (by simpa [yaQ] using hk')⟩
  refine (h5.keep0 M6).ix hx fun q hq => yaF (x := x) (by simpa [add_zero] using hq 0 _ rfl) ?_
  refine (ycW x w6).mono ?_
  rintro _ w7 ⟨rfl, rfl⟩
  refine ⟨_, rfl, yaD.of0 (Mod.refl _), yaB (fun g3 => ⟨?_, N6⟩) fun g3 => ?_⟩
  ·rw [hE, if_pos]
   apply Bool.eq_false_iff.2
   intro hh
   have := List.all_eq_true.1 hh x (List.mem_of_getElem? hx)
   rw [this] at g3; cases g3
  ·exact ym0 (10 - (k + 1)) (by omega) ⟨k + 1, by rw [yaG (by omega) (by omega)]; omega, by omega, by rw [ycD hx, hal, yh5 g3]; rfl, rfl, M6⟩
 ·have hk' : k = 10 := by omega
  subst hk'
  rw [List.take_of_length_le (by simp [yaQ])] at hal
  rw [hal, if_neg (by decide)] at hE
  have ht : ybY m.calls = 0 := by rw [hc]; decide
  refine (yk5 (s := s) (yCC h.calls hc) w6).mono ?_
  rintro e w7 ⟨rfl, M7⟩
  have N7 := N6.go0 M7 (by simp)
  refine ⟨_, _, rfl, yaD.of0 M7, yaB (fun g => ?_) fun g => ?_⟩
  ·simp at g
  rw [if_neg (by simpa using ht)] at hE
  refine (ye3 (h.rep.keep0 N7)).mono ?_
  rintro e w8 ⟨rfl, M8⟩
  exact ⟨_, _, rfl, yaD.of0 M8, by rw [hE], N7.go0 M8 (by simp)⟩
set_option maxHeartbeats 4000000 in
theorem yyG {w : World} {m : PMail} {s f p : Sl} (h : MailAt w m s f p) (hc : m.calls = []) :
  Calls pP 11 #[m.v s f p] w fun e w' => e = .returned (.tuple #[.string (if ybO m = 0 then ydU m else bs []), .int .i64 (ybO m)]) ∧ Mod [] w w' := by
 refine yaP (yCj ?_)
 intro b1 f1 w2 A2
 refine (yrG (h.keep0 A2.mod) hc).mono ?_
 rintro _ w3 ⟨rfl, M3⟩
 have N3 := A2.mod.go0 M3 (by simp)
 refine ⟨_, rfl, yaD.of0 M3, yaB (fun g => ?_) fun g => ?_⟩
 ·have g : ycC m ≠ 0 := by simpa using g
  have e : ybO m = ycC m := by rw [ybO, if_pos g]
  rw [e, if_neg g]; exact ⟨rfl, N3⟩
 have g : ycC m = 0 := by simpa using g
 obtain ⟨_, hn, ht, hr⟩ := yb7 g
 have hE : ybO m = if (ybQ m).length > 1048576 then 2 else 0 := by rw [ybO, if_neg (by simpa using g)]
 refine (yiJ m s f p).mono ?_
 rintro _ w4 ⟨_, rfl, c4, rfl, h4, M4⟩
 refine ⟨_, _, _, rfl, yaD.of0 M4, ?_⟩
 have N4 := N3.go0 M4 (by simp)
 refine ym3 (fun mm s5 x7 w' => ∃ k : Nat, x7 = k ∧ k ≤ 10 ∧ s5 = bs (((yaQ m).take k).flatMap yk7) ∧ Mod [] w4 w' ∧ mm = 10 - k) 10 ⟨0, rfl, by omega, by simp [yD7], Mod.refl _, rfl⟩ ?_
 rintro mm s5 x7 w5 ⟨k, rfl, hk, rfl, M5, rfl⟩
 have lk := ye5 hn k
 have N5 := N4.go0 M5 (by simp)
 refine yaC (fun hlt => ?_) fun hge => ?_
 ·have hk' : k < 10 := by omega
  obtain ⟨x, hx⟩ : ∃ x, (yaQ m)[k]? = some x := ⟨_, List.getElem?_eq_getElem (by simpa [yaQ] using hk')⟩
  have hx1 := ygJ hn hx
  have ls := ye4 hx1
  have lv := (yaL x.toNat ls.1).2
  refine (h4.keep0 M5).ix hx fun q hq => yaF (x := x) (by simpa [add_zero] using hq 0 _ rfl) ?_
  rw [yGK hx1]
  refine (yb8 ls.1 w5).mono ?_
  rintro _ w6 ⟨rfl, M6⟩
  refine ⟨_, rfl, yaD.of0 M6, by rw [yaE, yaE]; omega, ?_⟩
  rw [ybD]
  exact ym2 (10 - (k + 1)) (by omega) ⟨k + 1, by rw [yaG (by omega) (by omega)]; omega, by omega, by rw [yk4 hx], M5.go0 M6 (by simp), rfl⟩
 ·have hk' : k = 10 := by omega
  subst hk'
  have e10 : (yaQ m).take 10 = yaQ m := List.take_of_length_le (by simp [yaQ])
  rw [e10] at lk ⊢
  refine (yk5 (s := s) (yCC h.calls hc) w5).mono ?_
  rw [show bs (yaJ 0) = bs (ybG m.calls) by rw [hc]; simp [ybG]]
  rintro _ w6 ⟨rfl, M6⟩
  have N6 := N5.go0 M6 (by simp)
  refine ⟨_, _, rfl, yaD.of0 M6, ?_⟩
  refine (ye3 (h.rep.keep0 N6)).mono ?_
  rw [hr, if_pos rfl]
  rintro _ w7 ⟨rfl, M7⟩
  refine ⟨_, _, rfl, yaD.of0 M7, ?_⟩
  have lt := yhS ht
  have lr : (ydW m.r).length ≤ 60000 := (RepGood.of hr).len3 m.r.parts.length
  refine (ybL (bs (ybG m.calls)) (by rw [yaE]; omega) w7).mono ?_
  rintro _ w8 ⟨rfl, M8⟩
  refine ⟨_, rfl, yaD.of0 M8, ?_⟩
  refine (ybL (bs (ydW m.r)) (by rw [yaE]; omega) w8).mono ?_
  rintro _ w9 ⟨rfl, M9⟩
  have p1 := (yaV (bs (ybG m.calls)) (by rw [yaE]; omega)).2
  have p2 := (yaV (bs (ydW m.r)) (by rw [yaE]; omega)).2
  rw [yaE] at p1 p2
  refine ⟨_, rfl, yaD.of0 M9, by rw [yaE, yaE]; omega, ?_⟩
  rw [ybD]
  refine ⟨by rw [yaE, yaE, List.length_append]; omega, ?_⟩
  rw [ybD]
  have eB : (yaQ m).flatMap yk7 ++ (ybM (bs (ybG m.calls)) ++ ybM (bs (ydW m.r))) = ybQ m := by rw [← List.append_assoc]; rfl
  rw [eB]
  have lB := ykZ g
  have N9 : Mod [] w w9 := ((N6.go0 M7 (by simp)).go0 M8 (by simp)).go0 M9 (by simp)
  refine yaC (fun hbig => ?_) fun hbig => ?_
  ·rw [yaE] at hbig
   have e : ybO m = 2 := by rw [hE, if_pos (by omega)]
   rw [e]; exact ⟨rfl, N9⟩
  ·rw [yaE] at hbig
   have e : ybO m = 0 := by rw [hE, if_neg (by omega)]
   refine (ykX (bs (ybQ m)) (by rw [yaE]; omega) w9).mono ?_
   rintro _ w10 ⟨rfl, M10⟩
   refine ⟨_, rfl, yaD.of0 M10, ?_⟩
   rw [e, if_pos rfl]; exact ⟨rfl, N9.go0 M10 (by simp)⟩
theorem yLp {w : World} {b bm k : Nat} (h : w.heap[bm]? = some (.cells #[.pointer (some ⟨b, 0, none⟩), .pointer (some ⟨b, 1, none⟩), .pointer (some ⟨b, 2, none⟩), .pointer (some ⟨b, 3, none⟩), .pointer (some ⟨b, 4, none⟩), .pointer (some ⟨b, 5, none⟩), .pointer (some ⟨b, 6, none⟩), .pointer (some ⟨b, 7, none⟩), .pointer (some ⟨b, 8, none⟩), .pointer (some ⟨b, 9, none⟩)] 63)) (hk : k < 10) : w.cell? (Addr.add ⟨bm, 0, none⟩ (Int.toNat (k : Nat) * 1)) = some (.pointer (some ⟨b, k, none⟩)) := by
 rw [ya5, ya1 h]
 rcases (by omega : k = 0 ∨ k = 1 ∨ k = 2 ∨ k = 3 ∨ k = 4 ∨ k = 5 ∨ k = 6 ∨ k = 7 ∨ k = 8 ∨ k = 9) with rfl | rfl | rfl | rfl | rfl | rfl | rfl | rfl | rfl | rfl <;> rfl
theorem yGM {m m' : PMail} : m = m' ↔ yaQ m = yaQ m' ∧ m.calls = m'.calls ∧ m.r = m'.r := by
 obtain ⟨a1, a2, a3, a4, a5, a6, a7, a8, a9, a10, a11, a12⟩ := m
 obtain ⟨b1, b2, b3, b4, b5, b6, b7, b8, b9, b10, b11, b12⟩ := m'
 simp [yaQ, and_assoc]
set_option maxHeartbeats 4000000 in
theorem yv6 {w : World} {m m' : PMail} {s f p s' f' p' : Sl} (h : MailAt w m s f p) (h' : MailAt w m' s' f' p') (hl : m.calls.length ≤ 1000000) :
  Calls pP 14 #[m.v s f p, m'.v s' f' p'] w fun e w' => e = .returned (.bool (decide (m = m'))) ∧ Mod [] w w' := by
 refine yaP (yGA ?_)
 intro b1 f1 b2 f2 w3 A3 h31
 have nd : b1 ≠ b2 := by have := A3.nd; simp at this; exact fun h => this h.symm
 have s3 := A3.mod.size
 have l1 := A3.lt b1 (by simp)
 have l2 := A3.lt b2 (by simp)
 refine (yq0 b1 w3).mono ?_
 rintro _ w4 ⟨rfl, M4⟩
 refine ⟨_, _, _, _, _, _, _, _, _, _, rfl, yaD.of0 M4, _, _, _, _, _, _, _, _, _, _, _, _, _, _, _, _, _, _, _, _, _, _, _, M4.keep0 h31, ?_⟩
 intro w5 A5 h51 h52
 refine (yq0 b2 w5).mono ?_
 rintro _ w6 ⟨rfl, M6⟩
 refine ⟨_, _, _, _, _, _, _, _, _, _, rfl, _, _, _, _, _, _, _, _, _, _, _, _, _, _, _, _, _, _, _, _, _, _, _, M6.keep0 h51, _, _, _, _, _, _, _, _, _, _, _, _, _, _, _, _, _, _, _, _, _, _, _, M6.keep0 h52, ?_⟩
 intro b3 f3 b4 f4 w7 A7 h71 h72 h73 h74
 have N7 : Mod [] w w7 := (((A3.mod.go0 M4 (by simp)).go0 A5.mod (by simp)).go0 M6 (by simp)).go0 A7.mod (by simp)
 have no : ∀ {w'}, m ≠ m' → Mod [] w w' → (Value.bool false = Value.bool (decide (m = m')) ∧ Mod [] w w') := fun hn M => ⟨congrArg Value.bool (decide_eq_false hn).symm, M⟩
 refine yx2 (fun mm x w' => ∃ k : Nat, x = k ∧ k ≤ 10 ∧ (yaQ m).take k = (yaQ m').take k ∧ Mod [] w7 w' ∧ mm = 10 - k) 10 ⟨0, rfl, by omega, by simp, Mod.refl _, rfl⟩ ?_
 rintro mm x w8 ⟨k, rfl, hk, ht, M8, rfl⟩ h81 h82 h83 h84
 have N8 := N7.go0 M8 (by simp)
 refine yaC (fun hlt => ?_) fun hge => ?_
 ·have hk : k < 10 := by omega
  obtain ⟨x, hx⟩ : ∃ x, (yaQ m)[k]? = some x := ⟨_, List.getElem?_eq_getElem (by simpa [yaQ] using hk)⟩
  obtain ⟨y, hy⟩ : ∃ y, (yaQ m')[k]? = some y := ⟨_, List.getElem?_eq_getElem (by simpa [yaQ] using hk)⟩
  refine ⟨by omega, by omega, yfB (yLp h83 hk) (yjN (yaF (ye1 (s := s) (f := f) (p := p) h81 hx) ⟨by omega, by omega, yfB (yLp h84 hk) (yjN (yaF (ye1 (s := s') (f := f') (p := p') h82 hy) ?_))⟩))⟩
  refine yaB (fun g => fun w9 A9 _ _ _ _ => no (fun e => ?_) (N8.go0 A9.mod (by simp))) fun g => fun w9 A9 _ _ _ _ => ?_
  ·subst e
   rw [hx] at hy
   have := Option.some.inj hy
   simp [this] at g
  ·have g : x = y := by simpa using g
   subst g
   exact yx1 (10 - (k + 1)) (by omega) ⟨k + 1, by rw [yaG (by omega) (by omega)]; omega, by omega, ycH ht hx hy, M8.go0 A9.mod (by simp), rfl⟩
 ·have hk : k = 10 := by omega
  subst hk
  rw [List.take_of_length_le (by simp [yaQ]), List.take_of_length_le (by simp [yaQ])] at ht
  obtain ⟨la, hA, gA, eA⟩ := h.calls
  obtain ⟨lb, hB, gB, eB⟩ := h'.calls
  have hll : la.length ≤ 1000000 := by have := congrArg List.length eA; simp at this; omega
  refine (yDv (s := s) (t := s') (la := la) (lb := lb) ⟨hA.keep0 N8, fun q hq => (gA q hq).keep0 N8⟩ ⟨hB.keep0 N8, fun q hq => (gB q hq).keep0 N8⟩ hll).mono ?_
  rw [eA, eB]
  rintro _ w9 ⟨rfl, M9⟩
  have N9 := N8.go0 M9 (by simp)
  refine ⟨_, rfl, _, _, _, _, _, _, _, _, _, _, _, _, _, _, _, _, _, _, _, _, _, _, _, M9.keep0 h81, _, _, _, _, _, _, _, _, _, _, _, _, _, _, _, _, _, _, _, _, _, _, _, M9.keep0 h82, _, _, _, _, _, _, _, _, _, _, M9.keep0 h83, _, _, _, _, _, _, _, _, _, _, M9.keep0 h84, ?_⟩
  refine yaB (fun g => ?_) fun g => no (fun e => by simp [e] at g) N9
  have g : m.calls = m'.calls := by simpa using g
  refine (yC7 (h.rep.keep0 N9) (h'.rep.keep0 N9)).mono ?_
  rintro _ w10 ⟨rfl, M10⟩
  refine ⟨_, rfl, _, _, _, _, _, _, _, _, _, _, _, _, _, _, _, _, _, _, _, _, _, _, _, M10.keep0 (M9.keep0 h81), _, _, _, _, _, _, _, _, _, _, _, _, _, _, _, _, _, _, _, _, _, _, _, M10.keep0 (M9.keep0 h82), _, _, _, _, _, _, _, _, _, _, M10.keep0 (M9.keep0 h83), _, _, _, _, _, _, _, _, _, _, M10.keep0 (M9.keep0 h84), ?_, N9.go0 M10 (by simp)⟩
  congr 1
  apply Bool.eq_iff_iff.2
  simp [yGM, ht, g]
def yk6 : PMail := ⟨4, 0, 1, 2, 0, 0, 5, 0, 0, 0, [], ydS⟩
theorem yyH {x y : PMail} (hx : ybO x = 0) (hy : ybO y = 0) {r : List UInt8} (hr : r ≠ []) : bs (ydP (bs (ybQ x)) ++ r) ≠ ydU y := fun h => by
 have h := yhM h
 obtain ⟨_, l1⟩ := yb0 hx
 obtain ⟨_, l2⟩ := yb0 hy
 have c1 := ykI (lim := 1048576) (bs (ybQ x)) r (by rw [yaE]; omega) (by rw [yaE]; omega)
 have c2 := ykI (lim := 1048576) (bs (ybQ y)) [] (by rw [yaE]; omega) (by rw [yaE]; omega)
 rw [List.append_nil] at c2
 rw [h, c2] at c1
 simp only [Option.some.injEq, Prod.mk.injEq] at c1
 have e := yhM c1.1
 rw [e] at h
 have := congrArg List.length h
 rw [List.length_append] at this
 exact hr (List.eq_nil_of_length_eq_zero (by omega))
theorem yyI {m : PMail} (hn : (yaQ m).all num = true) (hk : 0 ≤ m.kind ∧ m.kind < 12) (hc : m.calls = []) (hr : m.r = ydS) : ybO m = 0 ∧ (ybQ m).length ≤ 100000 := by
 have ht : ybY m.calls = 0 := by rw [hc]; decide
 have hre : yfX m.r = 0 := by rw [hr]; decide
 have hE : ycC m = 0 := by
  rw [ycC, if_neg (by omega), if_neg (by rw [hn]; decide), if_neg (by simpa using ht), hre]
 have l1 := ye5 hn 10
 rw [List.take_of_length_le (by rw [yhT]; omega)] at l1
 have l2 : (ybG m.calls).length ≤ 10 := by
  rw [hc]
  have := (yaL 0 (by omega)).2
  simpa [ybG] using this
 have l3 : (ydW m.r).length ≤ 60000 := (RepGood.of hre).len3 m.r.parts.length
 have p2 := (yaV (bs (ybG m.calls)) (by rw [yaE]; omega)).2
 have p3 := (yaV (bs (ydW m.r)) (by rw [yaE]; omega)).2
 rw [yaE] at p2 p3
 have hl : (ybQ m).length ≤ 100000 := by unfold ybQ; rw [List.length_append, List.length_append]; omega
 exact ⟨by rw [ybO, if_neg (by simpa using hE), if_neg (by omega)], hl⟩
theorem yyJ {m : PMail} (hl : (ybQ m).length ≤ 1048576) : (ydU m).size ≤ (ybQ m).length + 14 := by
 unfold ydU
 rw [yaE, yh6]
 have := (yaV (bs (ybQ m)) (by rw [yaE]; omega)).2
 rw [yaE] at this; omega
theorem ym8 (w : World) (m : PMail) (hc : m.calls = []) (hr : m.r = ydS) : MailAt w m ya6 ya6 ya6 :=
 ⟨by rw [hc]; exact ⟨[], (Row.nil w 0 51 16 CV.cs).sl CV.cs_len, by simp, rfl⟩, by rw [hr]; exact ⟨(Row.nil w 0 55 5 yhV).sl ynR, (Row.nil w 0 43 2 ylO).sl ynS, by simp [ydS], by simp [ydS]⟩⟩
set_option maxHeartbeats 4000000 in
theorem yyK (w : World) : Calls pP 16 #[] w fun e w' => e = .returned (.bool true) ∧ Mod [] w w' := by
 refine yaP (yGB ?_)
 obtain ⟨hE, hL⟩ := yyI (m := yk6) (by decide) (by decide) rfl rfl
 have hsz := yyJ (m := yk6) (by omega)
 have cat : ∀ w', MailAt w' yk6 ya6 ya6 ya6 := fun w' => ym8 w' yk6 rfl rfl
 intro b1 f1 w2 A2
 refine (ytN (cat w2) (by simp [yk6])).mono ?_
 rintro _ w3 ⟨rfl, M3⟩
 refine ⟨_, _, rfl, yaD.of0 M3, ?_⟩
 rw [hE, if_pos rfl]
 have N3 := A2.mod.go0 M3 (by simp)
 refine (ytO (s := ydU yk6) (by omega) w3).mono ?_
 rintro _ w4 ⟨v, rfl, hv, M4⟩
 have hv : ∃ s1 f1 p1 : Sl, v = .tuple #[yk6.v s1 f1 p1, .int .i64 0] ∧ MailOwn w4 w3.heap.size yk6 s1 f1 p1 := by
  rcases hv with ⟨m, s1, f1, p1, h1, h2, rfl, h3, _⟩ | ⟨h, _⟩
  ·have he : yk6 = m := by
    have hm := yrD hE h1 h2
    have X : ydV (bs (ybQ yk6)) yk6 := ⟨hE, ycI _⟩
    have Y : ydV (bs (ybQ yk6)) m := ⟨h1, by rw [ycI, hm]⟩
    exact ym7 X Y
   subst he
   exact ⟨s1, f1, p1, rfl, h3⟩
  ·exact absurd rfl (h yk6 hE)
 obtain ⟨s4, f4, p4, rfl, O4⟩ := hv
 refine ⟨_, _, _, _, _, _, _, _, _, _, _, _, _, _, _, _, _, _, _, _, _, _, _, _, rfl, yaD.of0 M4, ?_⟩
 have N4 := N3.go0 M4 (by simp)
 intro b5 f5
 refine ⟨by show (ydU yk6).size + 1 ≤ _; omega, ?_⟩
 intro w6 A6
 have ex : ydU yk6 ++ (⟨#[120]⟩ : ByteArray) = bs (ydP (bs (ybQ yk6)) ++ [120]) := by
  rw [ydU, ← ybD]; rfl
 refine (ytO (s := ydU yk6 ++ (⟨#[120]⟩ : ByteArray)) (by rw [ByteArray.size_append]; show _ + 1 ≤ _; omega) w6).mono ?_
 rintro _ w7 ⟨v, rfl, hv, M7⟩
 have hv : v = .tuple #[yhO.v ya6 ya6 ya6, .int .i64 180] := by
  rcases hv with ⟨m, s1, f1, p1, h1, h2, _⟩ | ⟨_, h⟩
  ·rw [ex] at h2
   exact absurd h2 (yyH hE h1 (by simp))
  ·exact h
 subst hv
 refine ⟨_, _, _, _, _, _, _, _, _, _, _, _, _, _, _, _, _, _, _, _, _, _, _, _, rfl, yaD.of0 M7, ?_⟩
 have N7 := (N4.go0 A6.mod (by simp)).go0 M7 (by simp)
 intro b8 f8 w8 A8
 have hbad : ybO (⟨12, 0, 0, 0, 0, 0, 0, 0, 0, 0, [], ydS⟩ : PMail) = 180 := by
  have : ycC (⟨12, 0, 0, 0, 0, 0, 0, 0, 0, 0, [], ydS⟩ : PMail) = 180 := by rw [ycC, if_pos (.inr (by decide))]
  rw [ybO, if_pos (by rw [this]; decide), this]
 refine (ytN (ym8 w8 ⟨12, 0, 0, 0, 0, 0, 0, 0, 0, 0, [], ydS⟩ rfl rfl) (by simp)).mono ?_
 rintro _ w9 ⟨rfl, M9⟩
 refine ⟨_, _, rfl, yaD.of0 M9, ?_⟩
 rw [hbad]
 have N9 := (N7.go0 A8.mod (by simp)).go0 M9 (by simp)
 refine (yyG (cat w9) rfl).mono ?_
 rintro _ w10 ⟨rfl, M10⟩
 refine ⟨_, _, rfl, yaD.of0 M10, ?_⟩
 rw [hE, if_pos rfl]
 refine (yJr (cat w10) (by simp [yk6])).mono ?_
 rintro _ w11 ⟨_, rfl, s11, f11, p11, rfl, O11, M11⟩
 refine ⟨_, _, _, _, _, _, _, _, _, _, _, _, _, _, _, _, _, _, _, _, _, _, _, rfl, yaD.of0 M11, ?_⟩
 have N11 := (N9.go0 M10 (by simp)).go0 M11 (by simp)
 intro b12 f12
 refine brT rfl (brT (by rw [yfW]; simp) (brT rfl (brT rfl ?_)))
 intro w12 A12
 have K12 : Mod [] w4 w12 := (((((((A6.mod.trans M7).trans A8.mod).trans M9).trans M10).trans M11).trans A12.mod).less (by simp))
 have O12 := O4.keep0 K12
 refine (yjO (cat w12) O12.at (by simp [yk6])).mono ?_
 rintro _ w13 ⟨rfl, M13⟩
 refine ⟨_, rfl, yaD.of0 M13, brT (by simp) (brT rfl (brT rfl ?_))⟩
 refine (yv6 (cat w13) (O12.keep0 M13).at (by simp [yk6])).mono ?_
 rintro _ w14 ⟨rfl, M14⟩
 refine ⟨_, rfl, yaD.of0 M14, brT (by simp) ?_⟩
 refine (yv6 (cat w14) (ym8 w14 yhO rfl rfl) (by simp [yk6])).mono ?_
 rintro _ w15 ⟨rfl, M15⟩
 refine ⟨_, rfl, yaD.of0 M15, brT (by simp [yk6, yhO]) ?_⟩
 have O15 := (((O11.keep0 A12.mod).keep0 M13).keep0 M14).keep0 M15
 refine (yjO O15.at (cat w15) (by simp [yk6])).mono ?_
 rintro _ w16 ⟨rfl, M16⟩
 refine ⟨_, rfl, yaD.of0 M16, brT (by simp) ?_⟩
 have hneg : ycC (⟨0, 0, 0, -1, 0, 0, 0, 0, 0, 0, [], ydS⟩ : PMail) = 1 := by
  rw [ycC, if_neg (by decide), if_pos (by decide)]
 refine (ykY ((ym8 w16 ⟨0, 0, 0, -1, 0, 0, 0, 0, 0, 0, [], ydS⟩ rfl rfl).w (by simp))).mono ?_
 rintro _ w17 ⟨rfl, M17⟩
 refine ⟨_, rfl, yaD.of0 M17, ?_, ?_⟩
 ·rw [hneg]; rfl
 ·exact (((((N11.go0 A12.mod (by simp)).go0 M13 (by simp)).go0 M14 (by simp)).go0 M15 (by simp)).go0 M16 (by simp)).go0 M17 (by simp)
theorem yyL {x y : PMail} (hx : ybO x = 0) (hy : ybO y = 0) : ydU x = ydU y ↔ x = y := by
 refine ⟨fun h => ?_, fun h => by rw [h]⟩
 have hm := yrD hx hy h
 exact ym7 (s := bs (ybQ x)) ⟨hx, ycI _⟩ ⟨hy, by rw [ycI, hm]⟩
theorem yKc {w0 w : World} (N : Mod [] w0 w) {bs : List Nat} : Calls pP 16 #[] w fun e w' => ∃ t : Bool, e = .returned (.bool t) ∧ yaD bs w w' ∧ (Value.bool t = .bool true ∧ Mod [] w0 w') := by
 refine (yyK w).mono ?_
 rintro _ w1 ⟨rfl, M1⟩
 exact ⟨_, rfl, yaD.of0 M1, rfl, N.go0 M1 (by simp)⟩
def yFc (x : Int) : List Value := [.int .i64 x]
theorem yDK (x : Int) : ∀ u ∈ yFc x, u.oneCell' = true := by simp [yFc, Value.oneCell']
theorem yGN : (Tryz.prog.info? 3).map (fun i => (i.zero, i.size, i.bytes)) = some (some (.int .i64 0), 1, 8) := by kernel_rfl
theorem yGO {w : World} {B : Nat} {f : Sl} {l : List Int} {y : Int} {bs : List Nat} {F : Option Addr → Nat → Nat → World → Prop} (hR : Row w B 3 1 yFc f.a f.n f.c l) (hl : l.length ≤ 1000000) (hB : B ≤ w.heap.size) (hbs : ∀ b ∈ bs, b ∉ yjJ f.a)
  (hF : ∀ a' c' w', Row w' B 3 1 yFc a' (f.n + 1) c' (l ++ [y]) → Mod (yjJ f.a) w w' → F a' (f.n + 1) c' w') :
  al w (.cells (yFc y).toArray 3) fun b w1 => ycR pP (Builtin.append_ #[76, 76] 76 #[.slice f.a f.n f.c, .slice (some ⟨b, 0, none⟩) 1 1]) w1 fun a n c w2 => yaD bs w1 w2 ∧ F a n c w2 := by
 refine ydO fun b w1 c1 M1 f1 => ?_
 have s1 := M1.size
 obtain ⟨i0, hi0, hz0, hz1, hz2⟩ := info_parts yGN
 refine ycG (x := y) (hR.keep0 M1) Tryz.underlying76 hi0 hz0 hz1 hz2 rfl (by decide) c1 rfl (yDK _) (by omega) (by unfold maxLen; omega) (by omega) fun a' c' w8 hR8 hM8 => ?_
 have M8 := hM8 _ (yeC f.a)
 refine ⟨yaD.of M8 fun b hb _ => hbs b hb, hF a' c' w8 hR8 ?_⟩
 exact (M1.trans M8).less fun k hk _ => by simpa using hk
theorem yKd {l : List Int} (h : l.length = 10) : ∃ a b c d e f g i j k, l = [a, b, c, d, e, f, g, i, j, k] := by
 rcases l with _ | ⟨a, _ | ⟨b, _ | ⟨c, _ | ⟨d, _ | ⟨e, _ | ⟨f, _ | ⟨g, _ | ⟨i, _ | ⟨j, _ | ⟨k, _ | ⟨m, l⟩⟩⟩⟩⟩⟩⟩⟩⟩⟩⟩ <;> simp at h
 exact ⟨a, b, c, d, e, f, g, i, j, k, rfl⟩
set_option maxHeartbeats 8000000 in
theorem yrH {s : ByteArray} (hs : s.size ≤ 900000) (w : World) :
  Calls pP 18 #[.string s] w fun e w' => ∃ v, e = .returned v ∧ yCA w w' w.heap.size s v ∧ Mod [] w w' := by
 refine yGG ?_
 intro b1 f1 w2 A2
 have s2 := A2.mod.size
 have l1 : b1 < w2.heap.size := A2.lt b1 (by simp)
 have hss : s.data.toList.length = s.size := by simp
 refine (yv4 s 0 1048576 (by omega) (by omega) (by omega) w2).mono ?_
 rintro _ w3 ⟨v, rfl, hv, M3⟩
 have s3 := M3.size
 rw [List.drop_zero] at hv
 obtain ⟨t, b, e, rfl, hg⟩ := hv.out
 refine ⟨_, _, _, rfl, yaD.of0 M3, ?_⟩
 have htl : t.size ≤ 900000 := by
  rcases hg with ⟨_, m, _, g3⟩ | ⟨_, _, g4, _⟩
  ·have := yqO g3; omega
  ·rw [g4]; show 0 ≤ _; omega
 have htt : t.data.toList.length = t.size := by simp
 have hx : ∀ x, ybO x = 0 → s = ydU x → e = 0 ∧ ydV t x := fun x h1 h2 => by
  have h3 := yCm h1
  rw [← h2] at h3
  rcases hg with ⟨g1, m, _, g3⟩ | ⟨_, g3, _⟩
  ·rw [h3] at g3
   simp only [Option.some.injEq, Prod.mk.injEq] at g3
   exact ⟨g1, h1, by rw [← g3.1, ycI]⟩
  ·rw [h3] at g3; cases g3
 have N3 : Mod [] w w3 := A2.mod.go0 M3 (by simp)
 have z : ∀ {w0 w'}, Mod [] w w0 → Adv [b1] [] w0 w' → (∀ x, ybO x = 0 → s ≠ ydU x) → yCA w w' w.heap.size s (.tuple #[yhO.v ya6 ya6 ya6, .int .i64 180]) ∧ Mod [] w w' := fun {w0 w'} N A h => ⟨.inr ⟨h, rfl⟩, N.go0 A.mod (by simpa using f1)⟩
 refine ydO fun b7 w8 c8 M8 f8 => ?_
 have s8 := M8.size
 refine yyD (fun mm a7 n7 c7 x8 x9 w' => ∃ (k : Nat) (l : List Int) (an : Nat), x9 = k ∧ k ≤ 10 ∧ l.length = k ∧ x8 = an ∧ an ≤ t.size ∧ Row w' w3.heap.size 3 1 yFc a7 n7 c7 l ∧ Mod [] w w' ∧ w3.heap.size ≤ w'.heap.size ∧ (∀ y, ydV t y → an = yhW y k ∧ l = (yaQ y).take k) ∧ mm = 10 - k) 10
  ⟨0, [], 0, rfl, by omega, rfl, rfl, by omega, Row.fresh0 c8 (by omega), N3.go0 M8 (by simp), by omega, fun y _ => ⟨by simp [yhW], by simp⟩, rfl⟩ ?_
 rintro mm a7 n7 c7 x8 x9 w9 ⟨k, l, an, rfl, hk, hlk, rfl, han, hR, N9, hw9, hsp, rfl⟩
 refine yaC (fun hlt => ?_) fun hge => ?_
 ·have hk' : k < 10 := by omega
  refine (yfO t an (by omega) han w9).mono ?_
  rintro _ w10 ⟨v, rfl, hv, rfl⟩
  obtain ⟨n, b', e', rfl, hg'⟩ := hv.out
  refine ⟨_, _, _, rfl, yaD.of0 (Mod.refl _), ?_⟩
  have hnum : ∀ y, ydV t y → ∃ q : Int, (yaQ y)[k]? = some q ∧ n = q.toNat ∧ e' = 0 ∧ b' = ((yhW y (k + 1) : Nat) : Int) ∧ num q = true := fun x hx => by
   obtain ⟨h1, h2⟩ := hsp x hx
   obtain ⟨y, hy⟩ : ∃ y, (yaQ x)[k]? = some y := ⟨_, List.getElem?_eq_getElem (by simpa [yaQ] using hk')⟩
   obtain ⟨h6, h7, h8⟩ := hx.num hy
   rw [← h1] at h6
   rcases hg' with ⟨g1, m, g2, g3⟩ | ⟨_, g3⟩
   ·rw [h6] at g3
    simp only [Option.some.injEq, Prod.mk.injEq] at g3
    exact ⟨y, hy, g3.1.symm, g1, by omega, h8⟩
   ·rw [h6] at g3; cases g3
  refine yaB (fun g => fun w11 A11 => z N9 A11 fun x h1 h2 => by have := (hx x h1 h2).1; simp [this] at g) fun g0 => ?_
  refine yaB (fun g => fun w11 A11 => z N9 A11 fun x h1 h2 => by obtain ⟨_, _, _, q3, _⟩ := hnum x (hx x h1 h2).2; simp [q3] at g) fun g => ?_
  have g : e' = 0 := by simpa using g
  refine yaC (fun gb => fun w11 A11 => z N9 A11 fun x h1 h2 => by
   obtain ⟨q, _, q2, _, _, q5⟩ := hnum x (hx x h1 h2).2
   have := yd1 q5; omega) fun gb => ?_
  rcases hg' with ⟨_, m, hb, hvg⟩ | ⟨g3, _⟩
  rotate_left
  ·exact absurd g g3
  have hml := ykH _ hvg
  rw [List.length_drop, htt] at hml
  have en : IntKind.wrap .i64 (n : Int) = n := yaG (by omega) (by omega)
  rw [en]
  have hrow : ∀ k ∈ yjJ a7, w3.heap.size ≤ k ∧ k < w10.heap.size := fun k hk => by obtain ⟨q1, q2, _⟩ := yaW hR k hk; exact ⟨q1, q2⟩
  refine yGO (f := ⟨a7, n7, c7⟩) (y := (n : Int)) hR (by omega) hw9 (fun k hk hk' => by have := hrow k hk'; simp at hk; omega) fun a' c' w18 hR18 M18 => ?_
  have s18 := M18.size
  rw [hb]
  refine yyC (10 - (k + 1)) (by omega) ⟨k + 1, l ++ [(n : Int)], an + m, by rw [yaG (by omega) (by omega)]; omega, by omega, by simp; omega, by omega, by omega, hR18, N9.go0 M18 (fun k hk => by have := (hrow k hk).1; omega), by omega, fun y hy => ?_, rfl⟩
  obtain ⟨q, q1, q2, _, q4, q5⟩ := hnum y hy
  have := yd1 q5
  refine ⟨by omega, ?_⟩
  rw [List.take_add_one, q1, ← (hsp y hy).2, show q = (n : Int) by omega]; rfl
 ·have hk' : k = 10 := by omega
  subst hk'
  refine (yb5 t an 1048576 (by omega) han (by omega) w9).mono ?_
  rintro _ w10 ⟨v, rfl, hv, rfl⟩
  obtain ⟨t1, b2, e2, rfl, hg2⟩ := hv.out
  refine ⟨_, _, _, rfl, yaD.of0 (Mod.refl _), ?_⟩
  obtain ⟨at2, hb2, hat2⟩ : ∃ at2 : Nat, b2 = at2 ∧ at2 ≤ t.size := by
   rcases hg2 with ⟨_, m, h1, h2⟩ | ⟨_, _, _, h3⟩
   ·have := yfQ h2
    rw [List.length_drop, htt] at this
    exact ⟨an + m, h1, by omega⟩
   ·exact ⟨0, h3, by omega⟩
  subst hb2
  have ht1 : ∀ x, ydV t x → e2 = 0 ∧ t1 = bs (ybG x.calls) ∧ ∃ m2, tg 1048576 (t.data.toList.drop at2) = some (bs (ydW x.r), m2) := fun x hx => by
   obtain ⟨m1, m2, h1, h2⟩ := hx.txt
   rw [← (hsp x hx).1] at h1 h2
   rcases hg2 with ⟨g1, m, g2, g3⟩ | ⟨_, g3, _⟩
   ·rw [h1] at g3
    simp only [Option.some.injEq, Prod.mk.injEq] at g3
    refine ⟨g1, g3.1.symm, m2, ?_⟩
    rw [show at2 = an + m1 by omega]; exact h2
   ·rw [h1] at g3; cases g3
  have ht1s : t1.size ≤ 900000 := by
   rcases hg2 with ⟨_, m, _, h2⟩ | ⟨_, _, h3, _⟩
   ·have := yfQ h2; rw [List.length_drop, htt] at this; omega
   ·rw [h3]; show 0 ≤ _; omega
  refine (yb5 t at2 1048576 (by omega) hat2 (by omega) w10).mono ?_
  rintro _ w11 ⟨v, rfl, hv, rfl⟩
  obtain ⟨t2, b3, e3, rfl, hg3⟩ := hv.out
  refine ⟨_, _, _, rfl, yaD.of0 (Mod.refl _), ?_⟩
  have ht2 : ∀ x, ydV t x → e3 = 0 ∧ t2 = bs (ydW x.r) := fun x hx => by
   obtain ⟨_, _, m2, h2⟩ := ht1 x hx
   rcases hg3 with ⟨g1, m', g2, g3⟩ | ⟨_, g3, _⟩
   ·rw [h2] at g3
    simp only [Option.some.injEq, Prod.mk.injEq] at g3
    exact ⟨g1, g3.1.symm⟩
   ·rw [h2] at g3; cases g3
  have ht2s : t2.size ≤ 900000 := by
   rcases hg3 with ⟨_, m, _, h2⟩ | ⟨_, _, h3, _⟩
   ·have := yfQ h2; rw [List.length_drop, htt] at this; omega
   ·rw [h3]; show 0 ≤ _; omega
  refine (ytM ht1s w11).mono ?_
  rintro _ w12 ⟨v, rfl, hv, M12⟩
  have s12 := M12.size
  have hpc : ∃ (xs : List PCall) (sl : Sl) (e8 : Int), v = .tuple #[.slice sl.a sl.n sl.c, .int .i64 e8] ∧ ybW w12 w11.heap.size sl xs ∧ xs.length ≤ 100000 ∧ ∀ x, ydV t x → xs = x.calls ∧ e8 = 0 := by
   cases hp : ydA t1 with
   | none =>
    rw [hp] at hv
    refine ⟨[], ya6, 162, hv, ⟨[], Row.nil .., by simp, rfl⟩, by simp, fun x hx => ?_⟩
    obtain ⟨h1, _⟩ := yb0 hx.1
    obtain ⟨_, _, h2, _⟩ := yb7 h1
    rw [(ht1 x hx).2.1, ydL h2] at hp; cases hp
   | some xs =>
    rw [hp] at hv
    obtain ⟨sl, rfl, hc⟩ := hv
    have h6 := (ygI.1 hp).1
    refine ⟨xs, sl, 0, rfl, hc, by have := (yeG h6).1; omega, fun x hx => ?_⟩
    obtain ⟨h1, _⟩ := yb0 hx.1
    obtain ⟨_, _, h2, _⟩ := yb7 h1
    rw [(ht1 x hx).2.1, ydL h2] at hp
    exact ⟨(Option.some.inj hp).symm, rfl⟩
  obtain ⟨xs, sl, e8, rfl, hC, hxl, hxs⟩ := hpc
  refine ⟨_, _, _, _, rfl, yaD.of0 M12, ?_⟩
  refine (yyF ht2s w12).mono ?_
  rintro _ w13 ⟨v, rfl, hv, M13⟩
  have s13 := M13.size
  have hpr : ∃ (r : PRep) (fl pl : Sl) (e10 : Int), v = .tuple #[r.v fl pl, .int .i64 e10] ∧ RepOwn w13 w12.heap.size r fl pl ∧ ∀ x, ydV t x → r = x.r ∧ e10 = 0 := by
   rcases hv with ⟨r, fl, pl, h1, rfl, h2⟩ | ⟨h1, rfl⟩
   ·refine ⟨r, fl, pl, 0, rfl, h2, fun x hx => ?_⟩
    obtain ⟨h3, _⟩ := yb0 hx.1
    obtain ⟨_, _, _, h4⟩ := yb7 h3
    have h5 := h1.eq
    rw [(ht2 x hx).2] at h5
    exact ⟨(ypN h4 h1.1 (yhM h5)).symm, rfl⟩
   ·refine ⟨ydS, ya6, ya6, 40, rfl, ⟨Row.nil .., Row.nil .., by simp [ydS], by simp [ydS]⟩, fun x hx => ?_⟩
    obtain ⟨h3, _⟩ := yb0 hx.1
    obtain ⟨_, _, _, h4⟩ := yb7 h3
    exact absurd (yc2.of h4 (ht2 x hx).2) (h1 _)
  obtain ⟨r, fl, pl, e10, rfl, hRp, hrx⟩ := hpr
  refine ⟨_, _, _, _, _, _, _, _, _, _, _, rfl, yaD.of0 M13, ?_⟩
  intro b47 f47
  have N13 : Mod [] w w13 := (N9.go0 M12 (by simp)).go0 M13 (by simp)
  have z2 : ∀ {w'}, Adv [b1] [b47] w13 w' → (∀ x, ybO x = 0 → s ≠ ydU x) → yCA w w' w.heap.size s (.tuple #[yhO.v ya6 ya6 ya6, .int .i64 180]) ∧ Mod [] w w' := fun {w'} A h => ⟨.inr ⟨h, rfl⟩, N13.go0 A.mod (by simpa using f1)⟩
  refine yaB (fun g => fun w' A => z2 A fun x h1 h2 => by have := (ht1 x (hx x h1 h2).2).1; simp [this] at g) fun g1 => ?_
  refine yaB (fun g => fun w' A => z2 A fun x h1 h2 => by have := (ht2 x (hx x h1 h2).2).1; simp [this] at g) fun g2 => ?_
  refine yaB (fun g => fun w' A => z2 A fun x h1 h2 => by have := (hxs x (hx x h1 h2).2).2; simp [this] at g) fun g3 => ?_
  refine yaB (fun g => fun w' A => z2 A fun x h1 h2 => by have := (hrx x (hx x h1 h2).2).2; simp [this] at g) fun g4 => ?_
  have hR13 := (hR.keep0 M12).keep0 M13
  obtain ⟨y0, y1, y2, y3, y4, y5, y6, y7, y8, y9, rfl⟩ := yKd hlk
  have hS13 := hR13.sl (fun _ => rfl)
  refine hS13.ixW (i := 0) rfl fun q0 hq0 => ?_
  intro w14 A14
  have cq : ∀ {q : Addr} {x : Int}, (∀ w', Mod [] w13 w' → ∀ j v, (yFc x)[j]? = some v → w'.cell? (q.add j) = some v) → w14.cell? q = some (.int .i64 x) := fun h => by simpa [add_zero] using h w14 A14.mod 0 _ rfl
  have hS14 := hS13.keep0 A14.mod
  have cs : ∀ {q : Addr} {x : Int}, (∀ j v, (yFc x)[j]? = some v → w14.cell? (q.add j) = some v) → w14.cell? q = some (.int .i64 x) := fun h => by simpa [add_zero] using h 0 _ rfl
  refine yaF (x := y0) (cq hq0) ?_
  refine hS14.ix (i := 1) rfl fun q hq => yaF (x := y1) (cs hq) ?_
  refine hS14.ix (i := 2) rfl fun q hq => yaF (x := y2) (cs hq) ?_
  refine hS14.ix (i := 3) rfl fun q hq => yaF (x := y3) (cs hq) ?_
  refine hS14.ix (i := 4) rfl fun q hq => yaF (x := y4) (cs hq) ?_
  refine hS14.ix (i := 5) rfl fun q hq => yaF (x := y5) (cs hq) ?_
  refine hS14.ix (i := 6) rfl fun q hq => yaF (x := y6) (cs hq) ?_
  refine hS14.ix (i := 7) rfl fun q hq => yaF (x := y7) (cs hq) ?_
  refine hS14.ix (i := 8) rfl fun q hq => yaF (x := y8) (cs hq) ?_
  refine hS14.ix (i := 9) rfl fun q hq => yaF (x := y9) (cs hq) ?_
  intro b15 f15 w16 A16
  have s14 := A14.mod.size
  have s16 := A16.mod.size
  obtain ⟨m, hm⟩ : ∃ m : PMail, m = ⟨y0, y1, y2, y3, y4, y5, y6, y7, y8, y9, xs, r⟩ := ⟨_, rfl⟩
  have K : Mod [] w13 w16 := A14.mod.go0 A16.mod (by simp)
  have hO : MailOwn w16 w.heap.size m sl fl pl := by
   subst hm
   exact ⟨((hC.keep0 M13).keep0 K).rebase (by have := N9.size; omega), (hRp.keep0 K).rebase (by have := N9.size; omega)⟩
  have hmx : ∀ x, ydV t x → m = x := fun x hx => by
   have h6 := (hsp x hx).2
   have h7 := (hxs x hx).1
   have h8 := (hrx x hx).1
   obtain ⟨x1, x2, x3, x4, x5, x6, x7, x8, x9, x10, xc, xr⟩ := x
   simp [yaQ] at h6
   subst hm
   simp only [PMail.mk.injEq]
   refine ⟨?_, ?_, ?_, ?_, ?_, ?_, ?_, ?_, ?_, ?_, h7, h8⟩ <;> omega
  have hpt := yCz hO.at (by rw [hm]; exact hxl)
  rw [hm] at hpt
  refine hpt.mono ?_
  rw [← hm]
  rintro _ w17 ⟨rfl, M17⟩
  refine ⟨_, _, rfl, yaD.of0 M17, ?_⟩
  have N17 : Mod [] w w17 := (N13.go0 K (by simp)).go0 M17 (by simp)
  refine yaB (fun g => fun w' A => z N17 A fun x h1 h2 => ?_) fun g5 => ?_
  ·have := hmx x (hx x h1 h2).2; rw [this] at g; simp [h1] at g
  have g5 : ybO m = 0 := by simpa using g5
  rw [if_pos g5, yfW]
  refine yaB (fun g => fun w' A => z N17 A fun x h1 h2 => ?_) fun g6 => fun w' A => ?_
  ·have := hmx x (hx x h1 h2).2; rw [this] at g; simp [h2] at g
  have g6 : ydU m = s := by simpa using g6
  refine ⟨.inl ⟨m, sl, fl, pl, g5, g6.symm, by rw [hm]; rfl, ?_, by rw [hm]; exact hxl⟩, N17.go0 A.mod (by simpa using f1)⟩
  have hO' : MailOwn w17 w11.heap.size m sl fl pl := by
   subst hm
   exact ⟨((hC.keep0 M13).keep0 K).keep0 M17, ((hRp.keep0 K).keep0 M17).rebase s12⟩
  exact (hO'.keepB A.mod (by simp; omega)).rebase (by have := N9.size; omega)
set_option maxHeartbeats 4000000 in
theorem yCD {t : ByteArray} (w : World) :
  Calls pP 4 #[.string t] w fun e w' => e = .returned (.bool true) ∧ Mod [] w w' := by
 refine yaP (yGH ?_)
 refine yGL (n := 2000) rfl ?_
 have lt : (yKj 2000 t).size ≤ 900000 := by rw [yCB]; omega
 refine (ytO lt w).mono ?_
 rintro _ w2 ⟨_, rfl, hv, M2⟩
 rcases hv with ⟨m, s1, f1, p1, g, he, rfl, hO, hlc⟩ | ⟨hno, rfl⟩
 ·refine ⟨_, _, _, _, _, _, _, _, _, _, _, _, _, _, _, _, _, _, _, _, _, _, _, _, rfl, ?_⟩
  intro b3 f3 w4 A4
  refine (yrH lt w4).mono ?_
  rintro _ w5 ⟨_, rfl, hv', M5⟩
  rcases hv' with ⟨m', s2, f2, p2, g', he', rfl, hO', hlc'⟩ | ⟨hno, rfl⟩
  rotate_left
  ·exact absurd he (hno m g)
  have em := (yyL g g').1 (he.symm.trans he')
  subst em
  refine ⟨_, _, _, _, _, _, _, _, _, _, _, _, _, _, _, _, _, _, _, _, _, _, _, _, rfl, yaD.of0 M5, ?_⟩
  intro b6 f6 w7 A7
  have N7 : Mod [] w2 w7 := (A4.mod.go0 M5 (by simp)).go0 A7.mod (by simp)
  refine (yjO (hO.keep0 N7).at (hO'.keep0 A7.mod).at (by omega)).mono ?_
  rintro _ w8 ⟨rfl, M8⟩
  exact ⟨_, rfl, yaD.of0 M8, brT (by simp) (brT (by decide) (yKc ((M2.go0 N7 (by simp)).go0 M8 (by simp))))⟩
 ·refine ⟨_, _, _, _, _, _, _, _, _, _, _, _, _, _, _, _, _, _, _, _, _, _, _, _, rfl, ?_⟩
  intro b3 f3 w4 A4
  refine (yrH lt w4).mono ?_
  rintro _ w5 ⟨_, rfl, hv', M5⟩
  rcases hv' with ⟨m', s2, f2, p2, g', he', _⟩ | ⟨_, rfl⟩
  ·exact absurd he' (hno m' g')
  refine ⟨_, _, _, _, _, _, _, _, _, _, _, _, _, _, _, _, _, _, _, _, _, _, _, _, rfl, yaD.of0 M5, ?_⟩
  intro b6 f6 w7 A7
  have N7 : Mod [] w2 w7 := (A4.mod.go0 M5 (by simp)).go0 A7.mod (by simp)
  refine (yjO (ym8 w7 yhO rfl rfl) (ym8 w7 yhO rfl rfl) (by simp [yhO])).mono ?_
  rintro _ w8 ⟨rfl, M8⟩
  exact ⟨_, rfl, yaD.of0 M8, brT (by simp) (brT (by decide) (yKc ((M2.go0 N7 (by simp)).go0 M8 (by simp))))⟩
end Go.Proofs.YtkbcmppbjfpjmaaGreat
