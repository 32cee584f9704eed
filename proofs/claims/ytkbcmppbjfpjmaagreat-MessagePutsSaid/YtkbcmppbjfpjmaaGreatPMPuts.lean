/- MessagePuts, for every input. No conditions. -/
import Derived.Test.YtkbcmppbjfpjmaaGreatPMPutsK5
namespace Go.Proofs.YtkbcmppbjfpjmaaGreat
open Go Go.RowKit
set_option linter.all false
def yfC (s : ByteArray) (x : PMail) : Prop := ybT x = 0 ∧ s.data.toList = ybL x
theorem yfC.num {s : ByteArray} {x : PMail} (h : yfC s x) {k : Nat} {n : Int} (hn : (yaR x)[k]? = some n) : vg 0 (s.data.toList.drop (yiQ x k)) = some (n.toNat, yiQ x (k + 1) - yiQ x k) ∧ yiQ x k ≤ yiQ x (k + 1) ∧ num n = true := by
 obtain ⟨h1, _⟩ := ycI h.1
 obtain ⟨_, h2, _, _⟩ := ycV h1
 have h3 := yC5 h2 hn
 rw [← h.2] at h3
 unfold yfA at h3
 obtain ⟨p, hp, h4⟩ := Option.map_eq_some_iff.1 h3
 simp only [Prod.mk.injEq] at h4
 refine ⟨?_, by omega, yfY h2 hn⟩
 rw [hp]
 congr 1
 exact Prod.ext h4.1 (by omega)
theorem yfC.txt {s : ByteArray} {x : PMail} (h : yfC s x) : ∃ m1 m2, tg 1048576 (s.data.toList.drop (yiQ x 10)) = some (bs (ybK x.calls), m1) ∧ tg 1048576 (s.data.toList.drop (yiQ x 10 + m1)) = some (bs (ydK x.r), m2) := by
 obtain ⟨h1, h2⟩ := yC6 h.1
 rw [← h.2] at h1 h2
 unfold yl9 at h1 h2
 obtain ⟨p, hp, h3⟩ := Option.map_eq_some_iff.1 h1
 obtain ⟨q, hq, h4⟩ := Option.map_eq_some_iff.1 h2
 simp only [Prod.mk.injEq] at h3 h4
 refine ⟨p.2, q.2, ?_, ?_⟩
 ·rw [hp]; congr 1; exact Prod.ext h3.1 rfl
 ·rw [h3.2, hq]; congr 1; exact Prod.ext h4.1 rfl
theorem yw8 {s : ByteArray} {x y : PMail} (hx : yfC s x) (hy : yfC s y) : x = y := by
 have hd : ∀ k, k ≤ 10 → yiQ x k = yiQ y k ∧ (yaR x).take k = (yaR y).take k := by
  intro k
  induction k with
  | zero => intro _; exact ⟨rfl, rfl⟩
  | succ k ih =>
   intro hk
   obtain ⟨i1, i2⟩ := ih (by omega)
   obtain ⟨a, ha⟩ : ∃ a, (yaR x)[k]? = some a := ⟨_, List.getElem?_eq_getElem (by simp [yaR]; omega)⟩
   obtain ⟨b, hb⟩ : ∃ b, (yaR y)[k]? = some b := ⟨_, List.getElem?_eq_getElem (by simp [yaR]; omega)⟩
   obtain ⟨h1, h2, h3⟩ := hx.num ha
   obtain ⟨h4, h5, h6⟩ := hy.num hb
   rw [i1, h4] at h1
   simp only [Option.some.injEq, Prod.mk.injEq] at h1
   have h3 := ye8 h3
   have h6 := ye8 h6
   have e : a = b := by omega
   exact ⟨by omega, by rw [List.take_add_one, List.take_add_one, ha, hb, i2, e]⟩
 obtain ⟨h1, h2⟩ := hd 10 (Nat.le_refl _)
 rw [List.take_of_length_le (by simp [yaR]), List.take_of_length_le (by simp [yaR])] at h2
 obtain ⟨m1, m2, h3, h4⟩ := hx.txt
 obtain ⟨n1, n2, h5, h6⟩ := hy.txt
 rw [h1, h5] at h3
 simp only [Option.some.injEq, Prod.mk.injEq] at h3
 rw [h1, ← h3.2, h6] at h4
 simp only [Option.some.injEq, Prod.mk.injEq] at h4
 obtain ⟨_, _, tx, rx⟩ := ycV (ycI hx.1).1
 obtain ⟨_, _, ty, ry⟩ := ycV (ycI hy.1).1
 have e1 : y.calls = x.calls := by
  have p1 := yeK ty
  rw [h3.1, yeK tx] at p1
  exact (Option.some.inj p1).symm
 have e2 := yu9 ry rx (yj1 h4.1)
 obtain ⟨a1, a2, a3, a4, a5, a6, a7, a8, a9, a10, a11, a12⟩ := x
 obtain ⟨b1, b2, b3, b4, b5, b6, b7, b8, b9, b10, b11, b12⟩ := y
 simp [yaR] at h2
 simp only [PMail.mk.injEq]
 refine ⟨?_, ?_, ?_, ?_, ?_, ?_, ?_, ?_, ?_, ?_, e1.symm, e2.symm⟩ <;> omega
set_option maxHeartbeats 8000000 in
theorem yC9 {s : ByteArray} (hs : s.size ≤ 900000) (w : World) :
  Calls pP 42 #[.string s] w fun e w' => ∃ v, e = .returned v ∧ ∃ (m : PMail) (s1 f1 p1 : Sl), v = m.v s1 f1 p1 ∧ MailOwn w' w.heap.size m s1 f1 p1 ∧ m.calls.length ≤ 100000 ∧ (∀ x, yfC s x → m = x) ∧ Mod [] w w' := by
 have hss : s.data.toList.length = s.size := by simp
 refine yGe ?_
 intro b1 f1 b2 f2 w3 A3 h3
 have l1 := A3.lt b1 (by simp)
 have l2 := A3.lt b2 (by simp)
 have nd : b1 ≠ b2 := by have := A3.nd; simp at this; exact fun h => this h.symm
 have s3 := A3.mod.size
 refine (yqD b2 w3).mono ?_
 rintro _ w4 ⟨rfl, M4⟩
 have s4 := M4.size
 have h4 := M4.keep0 h3
 refine ⟨_, _, _, _, _, _, _, _, _, _, rfl, yaE.of0 M4, _, _, _, _, _, _, _, _, _, _, _, _, _, _, _, _, _, _, _, _, _, _, _, h4, ?_⟩
 have N4 : Mod [] w w4 := A3.mod.go0 M4 (by simp)
 have z0 : ∀ {w' : World}, Mod [] w w' → (∀ x, ¬ yfC s x) → ∃ (m : PMail) (s1 f1 p1 : Sl), Value.agg #[.int .i64 0, .int .i64 0, .int .i64 0, .int .i64 0, .int .i64 0, .int .i64 0, .int .i64 0, .int .i64 0, .int .i64 0, .int .i64 0, .slice none 0 0, .int .i64 0, .int .i64 0, .int .i64 0, .int .i64 0, .slice none 0 0, .slice none 0 0] = m.v s1 f1 p1 ∧ MailOwn w' w.heap.size m s1 f1 p1 ∧ m.calls.length ≤ 100000 ∧ (∀ x, yfC s x → m = x) ∧ Mod [] w w' := fun {w'} N hn =>
  ⟨ynN, ybY, ybY, ybY, rfl, ⟨⟨[], Row.nil .., by simp, rfl⟩, ⟨Row.nil .., Row.nil .., by simp [ynN, ye1], by simp [ynN, ye1]⟩⟩, by simp [ynN], fun x hx => absurd hx (hn x), N⟩
 refine yw7 (fun mm x4 x16 k0 k1 k2 k3 k4 k5 k6 k7 k8 k9 sa sn sc r0 r1 r2 r3 fa fn fc pa pn pc w' => ∃ a k : Nat, x4 = a ∧ x16 = k ∧ k ≤ 10 ∧ a ≤ s.size ∧ sa = none ∧ sn = 0 ∧ sc = 0 ∧ r0 = 0 ∧ r1 = 0 ∧ r2 = 0 ∧ r3 = 0 ∧ fa = none ∧ fn = 0 ∧ fc = 0 ∧ pa = none ∧ pn = 0 ∧ pc = 0 ∧ Mod [b2] w4 w' ∧ (∀ x, yfC s x → a = yiQ x k ∧ ([k0, k1, k2, k3, k4, k5, k6, k7, k8, k9] : List Int).take k = (yaR x).take k) ∧ mm = 10 - k) 10
  ⟨0, 0, rfl, rfl, by omega, by omega, rfl, rfl, rfl, rfl, rfl, rfl, rfl, rfl, rfl, rfl, rfl, rfl, rfl, (Mod.refl _).less (by simp), fun x _ => ⟨by simp [yiQ], rfl⟩, rfl⟩ ?_
 rintro mm x4 x16 k0 k1 k2 k3 k4 k5 k6 k7 k8 k9 sa sn sc r0 r1 r2 r3 fa fn fc pa pn pc w5 ⟨a, k, rfl, rfl, hk, ha, rfl, rfl, rfl, rfl, rfl, rfl, rfl, rfl, rfl, rfl, rfl, rfl, rfl, M5, hsp, rfl⟩ h5
 have s5 := M5.size
 have N5 : Mod [] w w5 := N4.go0 M5 (by simpa using f2)
 refine yaC (fun hlt => ?_) fun hge => ?_
 ·have hk' : k < 10 := by omega
  refine ⟨_, yFr b2 hk', ?_⟩
  refine (ygH s a (by omega) ha w5).mono ?_
  rintro _ w6 ⟨v, rfl, hv, rfl⟩
  obtain ⟨n, b, e, rfl, hg⟩ := hv.out
  refine ⟨_, _, _, rfl, yaE.of0 (Mod.refl _), _, _, _, _, _, _, _, _, _, _, _, _, _, _, _, _, _, _, _, _, _, _, _, h5, ?_⟩
  have hnum : ∀ x, yfC s x → ∃ y : Int, (yaR x)[k]? = some y ∧ n = y.toNat ∧ e = 0 ∧ b = ((yiQ x (k + 1) : Nat) : Int) ∧ num y = true := fun x hx => by
   obtain ⟨h1, h2⟩ := hsp x hx
   obtain ⟨y, hy⟩ : ∃ y, (yaR x)[k]? = some y := ⟨_, List.getElem?_eq_getElem (by simpa [yaR] using hk')⟩
   obtain ⟨h6, h7, h8⟩ := hx.num hy
   rw [← h1] at h6
   rcases hg with ⟨g1, m, g2, g3⟩ | ⟨_, g3⟩
   ·rw [h6] at g3
    simp only [Option.some.injEq, Prod.mk.injEq] at g3
    exact ⟨y, hy, g3.1.symm, g1, by omega, h8⟩
   ·rw [h6] at g3; cases g3
  refine yaB (fun g => fun w7 A7 _ => z0 (N5.go0 A7.mod (by simpa using f1)) fun x hx => ?_) fun g => ?_
  ·obtain ⟨y, _, _, he, _⟩ := hnum x hx
   simp [he] at g
  have g : e = 0 := by simpa using g
  refine yaC (fun gb => fun w7 A7 _ => z0 (N5.go0 A7.mod (by simpa using f1)) fun x hx => ?_) fun gb => ?_
  ·obtain ⟨y, _, h6, _, _, h7⟩ := hnum x hx
   have := ye8 h7
   omega
  rcases hg with ⟨_, m, hb, hvg⟩ | ⟨g3, _⟩
  rotate_left
  ·exact absurd g g3
  have hml := yp0 _ hvg
  rw [List.length_drop, hss] at hml
  obtain ⟨v, hv⟩ : ∃ v, v = IntKind.wrap .i64 (n : Int) := ⟨_, rfl⟩
  have hvn : v = n := by rw [hv, yaH (by omega) (by omega)]
  rw [← hv]
  refine yi2 (ydR h5 rfl (by simp; omega) fun w7 h7 M7 => ?_)
  have h7' : w7.heap[b2]? = some (.cells #[.int .i64 (if k = 0 then v else k0), .int .i64 (if k = 1 then v else k1), .int .i64 (if k = 2 then v else k2), .int .i64 (if k = 3 then v else k3), .int .i64 (if k = 4 then v else k4), .int .i64 (if k = 5 then v else k5), .int .i64 (if k = 6 then v else k6), .int .i64 (if k = 7 then v else k7), .int .i64 (if k = 8 then v else k8), .int .i64 (if k = 9 then v else k9), .slice none 0 0, .int .i64 0, .int .i64 0, .int .i64 0, .int .i64 0, .slice none 0 0, .slice none 0 0] 29) := by
   rw [h7]
   rcases (by omega : k = 0 ∨ k = 1 ∨ k = 2 ∨ k = 3 ∨ k = 4 ∨ k = 5 ∨ k = 6 ∨ k = 7 ∨ k = 8 ∨ k = 9) with rfl | rfl | rfl | rfl | rfl | rfl | rfl | rfl | rfl | rfl <;> rfl
  refine ⟨yaE.ofE M7 fun k hk hl he => by simp at hk he ⊢; omega, _, _, _, _, _, _, _, _, _, _, _, _, _, _, _, _, _, _, _, _, _, _, _, h7', ?_⟩
  rw [hb]
  refine yw6 (10 - (k + 1)) (by omega) ⟨a + m, k + 1, rfl, by rw [yaH (by omega) (by omega)]; omega, by omega, by omega, rfl, rfl, rfl, rfl, rfl, rfl, rfl, rfl, rfl, rfl, rfl, rfl, rfl, M5.via M7 (by simp), fun x hx => ?_, rfl⟩
  obtain ⟨y, hy, h6, _, h8, h9⟩ := hnum x hx
  have := ye8 h9
  refine ⟨by omega, ?_⟩
  rw [List.take_add_one (l := yaR x), hy, ← (hsp x hx).2, show y = v by omega]
  rcases (by omega : k = 0 ∨ k = 1 ∨ k = 2 ∨ k = 3 ∨ k = 4 ∨ k = 5 ∨ k = 6 ∨ k = 7 ∨ k = 8 ∨ k = 9) with rfl | rfl | rfl | rfl | rfl | rfl | rfl | rfl | rfl | rfl <;> rfl
 ·have hk' : k = 10 := by omega
  subst hk'
  refine (ydN s a 1048576 (by omega) ha (by omega) w5).mono ?_
  rintro _ w6 ⟨v, rfl, hv, rfl⟩
  obtain ⟨t, b, e, rfl, hg⟩ := hv.out
  refine ⟨_, _, _, rfl, yaE.of0 (Mod.refl _), _, _, _, _, _, _, _, _, _, _, _, _, _, _, _, _, _, _, _, _, _, _, _, h5, ?_⟩
  have ht1 : ∀ x, yfC s x → e = 0 ∧ t = bs (ybK x.calls) ∧ ∃ m2, tg 1048576 (s.data.toList.drop b.toNat) = some (bs (ydK x.r), m2) := fun x hx => by
   obtain ⟨m1, m2, h1, h2⟩ := hx.txt
   rw [← (hsp x hx).1] at h1 h2
   rcases hg with ⟨g1, m, g2, g3⟩ | ⟨_, g3, _⟩
   ·rw [h1] at g3
    simp only [Option.some.injEq, Prod.mk.injEq] at g3
    refine ⟨g1, g3.1.symm, m2, ?_⟩
    rw [g2, ← g3.2, Int.toNat_natCast]; exact h2
   ·rw [h1] at g3; cases g3
  refine yaB (fun g => fun w7 A7 _ => z0 (N5.go0 A7.mod (by simpa using f1)) fun x hx => by simp [(ht1 x hx).1] at g) fun g => ?_
  have g : e = 0 := by simpa using g
  rcases hg with ⟨_, m, hb, htg⟩ | ⟨g3, _⟩
  rotate_left
  ·exact absurd g g3
  have hml := ylL htg
  rw [List.length_drop, hss] at hml
  subst hb
  refine (ydN s (a + m) 1048576 (by omega) (by omega) (by omega) w6).mono ?_
  rintro _ w7 ⟨v, rfl, hv, rfl⟩
  obtain ⟨t2, b', e2, rfl, hg2⟩ := hv.out
  refine ⟨_, _, _, rfl, yaE.of0 (Mod.refl _), _, _, _, _, _, _, _, _, _, _, _, _, _, _, _, _, _, _, _, _, _, _, _, h5, ?_⟩
  have ht2 : ∀ x, yfC s x → e2 = 0 ∧ t2 = bs (ydK x.r) := fun x hx => by
   obtain ⟨_, _, m2, h2⟩ := ht1 x hx
   rw [Int.toNat_natCast] at h2
   rcases hg2 with ⟨g1, m', g2, g3⟩ | ⟨_, g3, _⟩
   ·rw [h2] at g3
    simp only [Option.some.injEq, Prod.mk.injEq] at g3
    exact ⟨g1, g3.1.symm⟩
   ·rw [h2] at g3; cases g3
  refine yaB (fun g => fun w8 A8 _ => z0 (N5.go0 A8.mod (by simpa using f1)) fun x hx => by simp [(ht2 x hx).1] at g) fun g2 => ?_
  have g2 : e2 = 0 := by simpa using g2
  rcases hg2 with ⟨_, m', _, htg2⟩ | ⟨g3, _⟩
  rotate_left
  ·exact absurd g2 g3
  have hml2 := ylL htg2
  rw [List.length_drop, hss] at hml2
  refine (yAW (s := t) (by omega) w7).mono ?_
  rintro _ w8 ⟨v, rfl, hv, M8⟩
  have s8 := M8.size
  have hpc : ∃ (xs : List PCall) (sl : Sl) (e8 : Int), v = .tuple #[.slice sl.a sl.n sl.c, .int .i64 e8] ∧ ybI w8 w7.heap.size sl xs ∧ xs.length ≤ 100000 ∧ ∀ x, yfC s x → xs = x.calls := by
   cases hp : yd6 t with
   | none =>
    rw [hp] at hv
    refine ⟨[], ybY, 162, hv, ⟨[], Row.nil .., by simp, rfl⟩, by simp, fun x hx => ?_⟩
    obtain ⟨h1, _⟩ := ycI hx.1
    obtain ⟨_, _, h2, _⟩ := ycV h1
    rw [(ht1 x hx).2.1, yeK h2] at hp; cases hp
   | some xs =>
    rw [hp] at hv
    obtain ⟨sl, rfl, hc⟩ := hv
    have h6 := (yv9.1 hp).1
    refine ⟨xs, sl, 0, rfl, hc, by have := (ykG h6).1; omega, fun x hx => ?_⟩
    obtain ⟨h1, _⟩ := ycI hx.1
    obtain ⟨_, _, h2, _⟩ := ycV h1
    rw [(ht1 x hx).2.1, yeK h2] at hp
    exact (Option.some.inj hp).symm
  obtain ⟨xs, sl, e8, rfl, hC, hxl, hxs⟩ := hpc
  have h8 := M8.keep0 h5
  refine ⟨_, _, _, _, rfl, yaE.of0 M8, _, _, _, _, _, _, _, _, _, _, _, _, _, _, _, _, _, _, _, _, _, _, _, h8, ?_⟩
  intro w9 A9 h9
  have s9 := A9.mod.size
  refine (ysX (s := t2) (by omega) w9).mono ?_
  rintro _ w10 ⟨v, rfl, hv, M10⟩
  have s10 := M10.size
  have hpr : ∃ (r : PRep) (fl pl : Sl) (e10 : Int), v = .tuple #[r.v fl pl, .int .i64 e10] ∧ RepOwn w10 w9.heap.size r fl pl ∧ ∀ x, yfC s x → r = x.r := by
   rcases hv with ⟨r, fl, pl, h1, rfl, h2⟩ | ⟨h1, rfl⟩
   ·refine ⟨r, fl, pl, 0, rfl, h2, fun x hx => ?_⟩
    obtain ⟨h3, _⟩ := ycI hx.1
    obtain ⟨_, _, _, h4⟩ := ycV h3
    have h5 := h1.eq
    rw [(ht2 x hx).2] at h5
    exact (yu9 h4 h1.1 (yj1 h5)).symm
   ·refine ⟨ye1, ybY, ybY, 40, rfl, ⟨Row.nil .., Row.nil .., by simp [ye1], by simp [ye1]⟩, fun x hx => ?_⟩
    obtain ⟨h3, _⟩ := ycI hx.1
    obtain ⟨_, _, _, h4⟩ := ycV h3
    exact absurd (yfZ.of h4 (ht2 x hx).2) (h1 _)
  obtain ⟨r, fl, pl, e10, rfl, hR, hrx⟩ := hpr
  have h10 := M10.keep0 h9
  refine ⟨_, _, _, _, _, _, _, _, _, _, _, rfl, yaE.of0 M10, _, _, _, _, _, _, _, _, _, _, _, _, _, _, _, _, _, _, _, _, _, _, _, h10, ?_⟩
  intro w11 A11 h11
  have lb : b1 < w7.heap.size ∧ b2 < w7.heap.size := by omega
  refine ⟨⟨k0, k1, k2, k3, k4, k5, k6, k7, k8, k9, xs, r⟩, sl, fl, pl, rfl, ⟨?_, ?_⟩, hxl, fun x hx => ?_, ?_⟩
  ·exact (((hC.keepB A9.mod (by simp; omega)).keep0 M10).keepB A11.mod (by simp; omega)).rebase (by omega)
  ·exact (hR.keepB A11.mod (by simp; omega)).rebase (by omega)
  ·have h6 := (hsp x hx).2
   have h7 := hxs x hx
   have h8 := hrx x hx
   obtain ⟨x1, x2, x3, x4, x5, x6, x7, x8, x9, x10, xc, xr⟩ := x
   simp [yaR] at h6
   simp only [PMail.mk.injEq]
   refine ⟨?_, ?_, ?_, ?_, ?_, ?_, ?_, ?_, ?_, ?_, h7, h8⟩ <;> omega
  ·exact (((N5.go0 M8 (by simp)).go0 A9.mod (by simpa using f2)).go0 M10 (by simp)).go0 A11.mod (by simp; omega)
def yJK (w0 w : World) (base : Nat) (s : ByteArray) (v : Value) : Prop :=
 (∃ (m : PMail) (s1 f1 p1 : Sl), ybT m = 0 ∧ s = yeL m ∧ v = .tuple #[m.v s1 f1 p1, .int .i64 0] ∧ MailOwn w base m s1 f1 p1 ∧ m.calls.length ≤ 100000) ∨ ((∀ m, ybT m = 0 → s ≠ yeL m) ∧ v = .tuple #[ynN.v ybY ybY ybY, .int .i64 180])
theorem yBQ {s : ByteArray} (hs : s.size ≤ 900000) (w : World) :
  Calls pP 17 #[.string s] w fun e w' => ∃ v, e = .returned v ∧ yJK w w' w.heap.size s v ∧ Mod [] w w' := by
 have hss : s.data.toList.length = s.size := by simp
 refine yGf ?_
 intro b1 f1 w2 A2
 have s2 := A2.mod.size
 refine (yp2 s 0 1048576 (by omega) (by omega) (by omega) w2).mono ?_
 rintro _ w3 ⟨v, rfl, hv, M3⟩
 have s3 := M3.size
 rw [List.drop_zero] at hv
 obtain ⟨t, b, e, rfl, hg⟩ := hv.out
 refine ⟨_, _, _, rfl, yaE.of0 M3, ?_⟩
 have htl : t.size ≤ 900000 := by
  rcases hg with ⟨_, m, _, g3⟩ | ⟨_, _, g4, _⟩
  ·have := yDJ g3; omega
  ·rw [g4]; show 0 ≤ _; omega
 have hx : ∀ x, ybT x = 0 → s = yeL x → e = 0 ∧ yfC t x := fun x h1 h2 => by
  have h3 := yGc h1
  rw [← h2] at h3
  rcases hg with ⟨g1, m, _, g3⟩ | ⟨_, g3, _⟩
  ·rw [h3] at g3
   simp only [Option.some.injEq, Prod.mk.injEq] at g3
   exact ⟨g1, h1, by rw [← g3.1, yd9]⟩
  ·rw [h3] at g3; cases g3
 refine (yC9 htl w3).mono ?_
 rintro _ w4 ⟨_, rfl, m, s1, f1', p1, rfl, hO, hlc, hm, M4⟩
 have s4 := M4.size
 refine ⟨_, _, _, _, _, _, _, _, _, _, _, _, _, _, _, _, _, _, _, _, _, _, _, rfl, yaE.of0 M4, ?_⟩
 intro b5 f5 w6 A6
 have s6 := A6.mod.size
 refine (yo6 ((hO.keep0 A6.mod).at) hlc).mono ?_
 rintro _ w7 ⟨rfl, M7⟩
 have s7 := M7.size
 refine ⟨_, _, rfl, yaE.of0 M7, ?_⟩
 have N7 : Mod [] w w7 := (((A2.mod.go0 M3 (by simp)).go0 M4 (by simp)).go0 A6.mod (by simp)).go0 M7 (by simp)
 have no : ∀ {w'}, Adv [b1] [] w7 w' → (∀ x, ybT x = 0 → s ≠ yeL x) → yJK w w' w.heap.size s (.tuple #[ynN.v ybY ybY ybY, .int .i64 180]) ∧ Mod [] w w' := fun {w'} A h => ⟨.inr ⟨h, rfl⟩, N7.go0 A.mod (by simpa using f1)⟩
 refine yaB (fun g => fun w8 A8 => no A8 fun x h1 h2 => ?_) fun g => ?_
 ·have := (hx x h1 h2).1; simp [this] at g
 refine yaB (fun g2 => fun w8 A8 => no A8 fun x h1 h2 => ?_) fun g2 => ?_
 ·have := hm x (hx x h1 h2).2; subst this; simp [h1] at g2
 have g2 : ybT m = 0 := by simpa using g2
 rw [if_pos g2, yf2]
 refine yaB (fun g3 => fun w8 A8 => no A8 fun x h1 h2 => ?_) fun g3 => fun w8 A8 => ?_
 ·have := hm x (hx x h1 h2).2; subst this; simp [h2] at g3
 ·have g3 : yeL m = s := by simpa using g3
  have l1 : b1 < w2.heap.size := A2.lt b1 (by simp)
  exact ⟨.inl ⟨m, s1, f1', p1, g2, g3.symm, rfl, ((((hO.keep0 A6.mod).keep0 M7).keepB A8.mod (by simp; omega)).rebase (by omega)), hlc⟩, N7.go0 A8.mod (by simpa using f1)⟩
section
set_option maxRecDepth 100000
variable {R : VWP} {w w0 : World} {m : Nat} {i0 i1 i2 i3 i4 i5 i6 i7 i8 i9 j0 j1 j2 j3 j4 j5 j6 j7 j8 j9 k0 k1 k2 k3 k4 k5 k6 k7 k8 k9 l0 l1 l2 l3 l4 l5 l6 l7 l8 l9 : Int} {s0 s1 s2 s3 s4 s5 s6 s7 s8 s9 t0 t1 t2 t3 t4 t5 t6 t7 t8 t9 : BA} {n0 n1 n2 n3 n4 n5 n6 n7 n8 n9 o0 o1 o2 o3 o4 o5 o6 o7 o8 o9 p0 p1 p2 p3 p4 p5 p6 p7 p8 p9 : Nat} {q0 q1 q2 q3 q4 q5 q6 q7 q8 q9 r0 r1 r2 r3 r4 r5 r6 r7 r8 r9 : OA} {B0 B1 B2 B3 B4 B5 B6 B7 B8 B9 : Bool} {M0 M1 M2 M3 : Option Nat} {V0 V1 V2 V3 V4 V5 : Value} {A0 A1 A2 : Addr}
def yo7 : LA := ⟨[0, 0, 1, 0, 1, 1, 1, 1], [1, 2, 3, 4], [(1, 0, 0), (2, 1, 0), (3, 2, 0)], 3, []⟩
def yi6 : LA := ⟨[0, 0, 1, 0, 1, 1, 1, 1, 1], [1, 2, 3, 6], [(1, 0, 0), (2, 1, 0), (3, 2, 0)], 3, []⟩
def yo8 : List LA := [yo7, yi6]
abbrev yqQ := dnF pP yo8 (code Tryz.f21)
abbrev yKU := yaO pP yo8 (code Tryz.f21)
abbrev yqR (p : List Nat) (K : List Kh) (R : VWP) := yaO pP yo8 (code Tryz.f21) p K (ya4 pP Tryz.f21 [] R)
def yiB (bm0 : Nat) (a9 b0 b1 b2 : Int) (a0 : OA) (a6 a3 : Nat) (a1 : OA) (a7 a4 bm1 bm2 : Nat) (b3 b4 b5 b6 : Int) : Int × (Option Addr) × Nat × Nat → List Value × List TB := fun (b7, a2, a8, a5) => ([(.pointer (some ⟨bm0, 0, none⟩)), (.pointer (some ⟨bm1, 0, none⟩)), (.pointer (some ⟨bm2, 0, none⟩)), .int .i64 b7], [⟨bm0, 27, [.int .i64 a9, .int .i64 b0, .int .i64 b1, .int .i64 b2, .slice a0 a6 a3, .slice a1 a7 a4], false⟩, ⟨bm1, 27, [.int .i64 0, .int .i64 0, .int .i64 0, .int .i64 0, .slice none 0 0, .slice none 0 0], false⟩, ⟨bm2, 27, [.int .i64 b3, .int .i64 b4, .int .i64 b5, .int .i64 b6, .slice a2 a8 a5, .slice none 0 0], false⟩])
def ygN (bm0 : Nat) (b2 b3 b4 b5 : Int) (a0 : OA) (a8 a4 : Nat) (a1 : OA) (a9 a5 bm1 bm2 : Nat) (b6 b7 b8 b9 : Int) (a2 : OA) (b0 a6 : Nat) : Int × (Option Addr) × Nat × Nat → List Value × List TB := fun (c0, a3, b1, a7) => ([(.pointer (some ⟨bm0, 0, none⟩)), (.pointer (some ⟨bm1, 0, none⟩)), (.pointer (some ⟨bm2, 0, none⟩)), .int .i64 c0], [⟨bm0, 27, [.int .i64 b2, .int .i64 b3, .int .i64 b4, .int .i64 b5, .slice a0 a8 a4, .slice a1 a9 a5], false⟩, ⟨bm1, 27, [.int .i64 0, .int .i64 0, .int .i64 0, .int .i64 0, .slice none 0 0, .slice none 0 0], false⟩, ⟨bm2, 27, [.int .i64 b6, .int .i64 b7, .int .i64 b8, .int .i64 b9, .slice a2 b0 a6, .slice a3 b1 a7], false⟩])
abbrev yBR (bm0 : Nat) (a6 a7 a8 a9 : Int) (a0 : OA) (a4 a2 : Nat) (a1 : OA) (a5 a3 bm1 bm2 : Nat) (b0 b1 b2 b3 : Int) (I : Nat → Int → Option Addr → Nat → Nat → World → Prop) (m : Nat) : Kh := KG (yiB bm0 a6 a7 a8 a9 a0 a4 a2 a1 a5 a3 bm1 bm2 b0 b1 b2 b3) (U4 I) m
theorem yw9 {I : Nat → Int → Option Addr → Nat → Nat → World → Prop} (m' : Nat) (h1 : m' < m) (h2 : I m' i8 q2 n7 n8 w) : KS (yBR n0 i0 i1 i2 i3 q0 n1 n2 q1 n3 n4 n5 n6 i4 i5 i6 i7 I m) (yiB n0 i0 i1 i2 i3 q0 n1 n2 q1 n3 n4 n5 n6 i4 i5 i6 i7 (i8, q2, n7, n8)) w := ⟨m', h1, _, rfl, rfl, h2⟩
theorem yxA {a1 : OA} {a2 : OA} {b8 : OA} (I : Nat → Int → Option Addr → Nat → Nat → World → Prop) (m0 : Nat) (h0 : I m0 i8 b8 n7 n8 w0)
 (hr : ∀ m b7 a3 a8 a6 w, I m b7 a3 a8 a6 w →
 brB (decide (b7 < (n1 : Int))) (
 brB (decide (b7 < 70)) (
 ixA a1 n1 b7 5 fun q4 =>
 yaI .i64 w q4 fun x5 => yaT w (Addr.add q4 1) fun t6 => yaQ w (Addr.add q4 2) fun s7 => yaT w (Addr.add q4 3) fun t8 => yaQ w (Addr.add q4 4) fun s9 =>
 ∀ c1, w.heap.size ≤ c1 →
 slS s7 0 (if 80 < (s7.size : Int) then 80 else (s7.size : Int)) fun d1 =>
 slS s9 0 (if 600 < (s9.size : Int) then 600 else (s9.size : Int)) fun d2 =>
 ∀ c3, Adv [] [c1] w c3 →
 al c3 (.cells (Z6 x5 t6 d1 t8 d2) 55) fun c8 c4 =>
 yc6 pP (Builtin.append_ #[24, 24] 24 #[.slice a3 a8 a6, (.slice (some ⟨c8, 0, none⟩) 1 1)]) c4 fun c7 d0 c9 c5 => yaE [n0, n5, n6, c1] c4 c5 ∧
 ∀ c6, Adv [n6] [] c5 c6 →
 KS (yBR n0 i0 i1 i2 i3 a1 n1 n2 a2 n3 n4 n5 n6 i4 i5 i6 i7 I m) (yiB n0 i0 i1 i2 i3 a1 n1 n2 a2 n3 n4 n5 n6 i4 i5 i6 i7 ((IntKind.wrap .i64 (b7 + 1)), c7, d0, c9)) c6)
 (
 yaK yi6 (yqQ 393 [0, 0, 1, 0, 1, 1, 1, 1, 1]) (yqR [1, 1, 1, 1, 1, 0, 1, 0] [] R) (ygN n0 i0 i1 i2 i3 a1 n1 n2 a2 n3 n4 n5 n6 i4 i5 i6 i7 a3 a8 a6 (0, none, 0, 0)) w))
 (
 yaK yi6 (yqQ 393 [0, 0, 1, 0, 1, 1, 1, 1, 1]) (yqR [1, 1, 1, 1, 1, 0, 1, 0] [] R) (ygN n0 i0 i1 i2 i3 a1 n1 n2 a2 n3 n4 n5 n6 i4 i5 i6 i7 a3 a8 a6 (0, none, 0, 0)) w)) :
 yaK yo7 (yqQ 394 [0, 0, 1, 0, 1, 1, 1, 1]) (yqR [1, 1, 1, 1, 0, 1, 0] [] R) (yiB n0 i0 i1 i2 i3 a1 n1 n2 a2 n3 n4 n5 n6 i4 i5 i6 i7 (i8, b8, n7, n8)) w0 :=
 lrule (yiB n0 i0 i1 i2 i3 a1 n1 n2 a2 n3 n4 n5 n6 i4 i5 i6 i7) (U4 I) h0 (by rintro m ⟨b7, a3, a8, a6⟩ w h; exact ⟨by kernel_rfl, by kernel_rfl, fun js => Eq.mpr (by kernel_rfl) (hr m b7 a3 a8 a6 w h)⟩)
abbrev yBS (bm0 : Nat) (a9 b0 b1 b2 : Int) (a0 : OA) (a6 a3 : Nat) (a1 : OA) (a7 a4 bm1 bm2 : Nat) (b3 b4 b5 b6 : Int) (a2 : OA) (a8 a5 : Nat) (I : Nat → Int → Option Addr → Nat → Nat → World → Prop) (m : Nat) : Kh := KG (ygN bm0 a9 b0 b1 b2 a0 a6 a3 a1 a7 a4 bm1 bm2 b3 b4 b5 b6 a2 a8 a5) (U4 I) m
theorem ymR {I : Nat → Int → Option Addr → Nat → Nat → World → Prop} (m' : Nat) (h1 : m' < m) (h2 : I m' i8 q3 n9 o0 w) : KS (yBS n0 i0 i1 i2 i3 q0 n1 n2 q1 n3 n4 n5 n6 i4 i5 i6 i7 q2 n7 n8 I m) (ygN n0 i0 i1 i2 i3 q0 n1 n2 q1 n3 n4 n5 n6 i4 i5 i6 i7 q2 n7 n8 (i8, q3, n9, o0)) w := ⟨m', h1, _, rfl, rfl, h2⟩
theorem ymS (I : Nat → Int → Option Addr → Nat → Nat → World → Prop) (m0 : Nat) (h0 : I m0 i8 q3 n9 o0 w0)
 (hr : ∀ m c0 a1 a6 a3 w, I m c0 a1 a6 a3 w →
 brB (decide (c0 < (n3 : Int))) (
 brB (decide (c0 < 70)) (
 ixA q1 n3 c0 2 fun c7 =>
 yaQ w c7 fun c5 => yaI .i64 w (Addr.add c7 1) fun d9 =>
 ∀ c4, w.heap.size ≤ c4 →
 slS c5 0 (if 40 < (c5.size : Int) then 40 else (c5.size : Int)) fun d8 =>
 ∀ c8, Adv [] [c4] w c8 →
 al c8 (.cells #[.string d8, .int .i64 d9] 43) fun d5 c9 =>
 yc6 pP (Builtin.append_ #[25, 25] 25 #[.slice a1 a6 a3, (.slice (some ⟨d5, 0, none⟩) 1 1)]) c9 fun d4 d7 d6 d0 => yaE [n0, n5, n6, c4] c9 d0 ∧
 ∀ d1, Adv [n6] [] d0 d1 →
 KS (yBS n0 i0 i1 i2 i3 q0 n1 n2 q1 n3 n4 n5 n6 i4 i5 i6 i7 q2 n7 n8 I m) (ygN n0 i0 i1 i2 i3 q0 n1 n2 q1 n3 n4 n5 n6 i4 i5 i6 i7 q2 n7 n8 ((IntKind.wrap .i64 (c0 + 1)), d4, d7, d6)) d1)
 (
 ∀ d2, Adv [n5] [] w d2 →
 R (.agg (Z3 i4 i5 i6 i7 q2 n7 n8 a1 a6 a3)) d2))
 (
 ∀ d3, Adv [n5] [] w d3 →
 R (.agg (Z3 i4 i5 i6 i7 q2 n7 n8 a1 a6 a3)) d3)) :
 yaK yi6 (yqQ 393 [0, 0, 1, 0, 1, 1, 1, 1, 1]) (yqR [1, 1, 1, 1, 1, 0, 1, 0] [] R) (ygN n0 i0 i1 i2 i3 q0 n1 n2 q1 n3 n4 n5 n6 i4 i5 i6 i7 q2 n7 n8 (i8, q3, n9, o0)) w0 :=
 lrule (ygN n0 i0 i1 i2 i3 q0 n1 n2 q1 n3 n4 n5 n6 i4 i5 i6 i7 q2 n7 n8) (U4 I) h0 (by rintro m ⟨c0, a1, a6, a3⟩ w h; exact ⟨by kernel_rfl, by kernel_rfl, fun js => Eq.mpr (by kernel_rfl) (hr m c0 a1 a6 a3 w h)⟩)
theorem yGj (h :
 ∀ b1, w.heap.size ≤ b1 →
 ∀ b2, w.heap.size ≤ b2 →
 ∀ b3, w.heap.size ≤ b3 →
 ∀ b0, Adv [] [b3, b2, b1] w b0 →
 yaK yo7 (yqQ 394 [0, 0, 1, 0, 1, 1, 1, 1]) (yqR [1, 1, 1, 1, 0, 1, 0] [] R) (yiB b1 i0 i1 i2 i3 q0 n0 n1 q1 n2 n3 b2 b3 i0 i1 i2 i3 (0, none, 0, 0)) b0) :
 CR pP 21 #[(.agg (Z3 i0 i1 i2 i3 q0 n0 n1 q1 n2 n3))] w R :=
 yaA Tryz.wide_mixed (an := yo8) Tryz.func21 rfl rfl (by kernel_rfl) rfl (Eq.mpr (by kernel_rfl) h)
end
def yi7 (n : Nat) (s : ByteArray) : ByteArray := s.extract 0 (min s.size n)
theorem yqS (n : Nat) (s : ByteArray) : (yi7 n s).size = min s.size n := by unfold yi7; rw [ByteArray.size_extract]; omega
theorem yGk {n : Nat} {s : ByteArray} (h : s.size ≤ n) : yi7 n s = s := by
 unfold yi7; rw [Nat.min_eq_left h]; exact ByteArray.extract_zero_size
theorem yhA (n : Nat) (s : ByteArray) : yi7 n (yi7 n s) = yi7 n s := yGk (by rw [yqS]; omega)
theorem yeB {s : ByteArray} {m : Int} {n : Nat} {F : ByteArray → Prop} (hm : m = (n : Nat)) (hF : F (yi7 n s)) : slS s 0 (if m < (s.size : Int) then m else (s.size : Int)) F := by
 subst hm
 refine ⟨by omega, by split <;> omega, by split <;> omega, ?_⟩
 have e : (if (n : Int) < (s.size : Int) then (n : Int) else (s.size : Int)).toNat = min s.size n := by split <;> omega
 rw [e]; exact hF
theorem yeP {α β : Type} {f : α → β} {l : List α} {k : Nat} {x : α} (hx : l[k]? = some x) : (l.take (k + 1)).map f = (l.take k).map f ++ [f x] := by
 rw [List.take_add_one, hx]; simp
theorem ydY {α : Type} {l : List α} {k : Nat} (n : Nat) (hk : k ≤ n) (h : ¬ (k < l.length ∧ k < n)) (hk2 : k ≤ l.length) : l.take k = l.take n := by
 by_cases h1 : k = n
 ·rw [h1]
 ·rw [List.take_of_length_le (by omega), List.take_of_length_le (by omega)]
def yB1 (r : PRec) : PRec := ⟨r.hk, yi7 80 r.key, r.tomb, yi7 600 r.val⟩
def yqZ (b : PBatch) : PBatch := ⟨b.prod, b.epoch, b.seq, (b.recs.take 20).map yB1⟩
def yxB (o : POp) : POp := ⟨o.kind, ⟨yi7 40 o.part.t, o.part.n⟩, o.n, o.off, yqZ o.b, yi7 40 o.g, yi7 40 o.m, o.gen, o.robin, (o.topics.take 12).map (yi7 40)⟩
def yEG (c : PCall) : PCall := ⟨c.c, c.n, yxB c.op⟩
def yo9 (xs : List PCall) : List PCall := (xs.take 12).map yEG
def yDa (x : PFound) : PFound := ⟨x.off, ⟨x.r.hk, yi7 80 x.r.key, x.r.tomb, yi7 600 x.r.val⟩⟩
def yxL (x : PPart) : PPart := ⟨yi7 40 x.t, x.n⟩
def ycF (r : PRep) : PRep := ⟨r.e, r.off, r.n, r.gen, (r.found.take 70).map yDa, (r.parts.take 70).map yxL⟩
theorem yc9 {α : Type} {f : α → α} {n : Nat} (hf : ∀ x, f (f x) = f x) (l : List α) : ((((l.take n).map f).take n).map f) = (l.take n).map f := by
 rw [← List.map_take, List.take_take, Nat.min_self, List.map_map]
 congr 1
 funext x; exact hf x
theorem yDb (r : PRec) : yB1 (yB1 r) = yB1 r := by simp [yB1, yhA]
theorem yDc (b : PBatch) : yqZ (yqZ b) = yqZ b := by
 show (⟨b.prod, b.epoch, b.seq, _⟩ : PBatch) = ⟨b.prod, b.epoch, b.seq, _⟩
 rw [show (yqZ b).recs = (b.recs.take 20).map yB1 from rfl, yc9 yDb]
theorem yDd (o : POp) : yxB (yxB o) = yxB o := by
 have h1 := yDc o.b
 have h2 := yc9 (n := 12) (yhA 40) o.topics
 simp only [yxB, yhA, h1, h2]
theorem yDe (c : PCall) : yEG (yEG c) = yEG c := by simp [yEG, yDd]
theorem yBT (xs : List PCall) : yo9 (yo9 xs) = yo9 xs := yc9 yDe xs
theorem yDf (x : PFound) : yDa (yDa x) = yDa x := by simp [yDa, yhA]
theorem yDg (x : PPart) : yxL (yxL x) = yxL x := by simp [yxL, yhA]
theorem yxC (r : PRep) : ycF (ycF r) = ycF r := by
 have h1 := yc9 (n := 70) yDf r.found
 have h2 := yc9 (n := 70) yDg r.parts
 simp only [ycF, h1, h2]
theorem yDh (r : PRec) (w : World) : Calls pP 116 #[r.v] w fun e w' => e = .returned (yB1 r).v ∧ Mod [] w w' := by
 refine yaP (yFZ ?_)
 intro b1 f1 b2 f2
 refine yeB (n := 80) rfl (yeB (n := 600) rfl ?_)
 intro w3 A3
 exact ⟨rfl, A3.mod⟩
theorem yBU {w : World} {b : PBatch} {rs : Sl} (h : yb3 w 4 ye7 rs.a rs.n b.recs) (hw : rs.n ≤ maxLen) :
  Calls pP 86 #[b.v rs] w fun e w' => ∃ v, e = .returned v ∧ ∃ rs' : Sl, v = (yqZ b).v rs' ∧ Row w' w.heap.size 53 4 ye7 rs'.a rs'.n rs'.c (yqZ b).recs ∧ Mod [] w w' := by
 refine yF0 ?_
 intro b1 f1 b2 f2 b3 f3 w1 A1
 have l1 := A1.lt b1 (by simp)
 have l2 := A1.lt b2 (by simp)
 have l3 := A1.lt b3 (by simp)
 have s1 := A1.mod.size
 have hn := h.1
 refine ywL (fun mm x a n c w' => ∃ k : Nat, x = k ∧ k ≤ b.recs.length ∧ k ≤ 20 ∧ Row w' w1.heap.size 53 4 ye7 a n c ((b.recs.take k).map yB1) ∧ Mod [] w w' ∧ w1.heap.size ≤ w'.heap.size ∧ mm = b.recs.length - k) b.recs.length
  ⟨0, rfl, by omega, by omega, Row.nil .., A1.mod, Nat.le_refl _, rfl⟩ ?_
 rintro mm x a n c w2 ⟨k, rfl, hk, hk2, hRow, N2, s2, rfl⟩
 have hlk : ((b.recs.take k).map yB1).length = k := by rw [List.length_map, List.length_take]; omega
 have fin : ∀ {w'}, ¬ (k < b.recs.length ∧ k < 20) → Adv [b2] [] w2 w' → ∃ rs' : Sl, Value.agg #[.int .i64 b.prod, .int .i64 b.epoch, .int .i64 b.seq, .slice a n c] = (yqZ b).v rs' ∧ Row w' w.heap.size 53 4 ye7 rs'.a rs'.n rs'.c (yqZ b).recs ∧ Mod [] w w' := fun {w'} hne A => by
  rw [ydY 20 hk2 hne hk] at hRow
  exact ⟨⟨a, n, c⟩, rfl, (hRow.keep A.mod fun ad ha hk => by have := hRow.base ad ha; simp at hk; omega).rebase s1, N2.go0 A.mod (by simpa using f2)⟩
 refine yaC (fun hlt => ?_) fun hge => fun w3 A3 => fin (by omega) A3
 refine yaC (fun hlt2 => ?_) fun hge => fun w3 A3 => fin (by omega) A3
 obtain ⟨r, hr⟩ : ∃ r, b.recs[k]? = some r := ⟨_, List.getElem?_eq_getElem (by omega)⟩
 refine (h.keep0 N2).ixW hr fun q hq => ?_
 intro w3 A3
 have hq := hq w3 A3.mod
 refine yaN (x := r.hk) (by simpa [add_zero] using hq 0 _ rfl) (yaG (hq 1 _ rfl) (yaN (hq 2 _ rfl) (yaG (hq 3 _ rfl) ?_)))
 refine (yDh r w3).mono ?_
 rintro e w4 ⟨rfl, M4⟩
 refine ⟨_, _, _, _, rfl, yaE.of0 M4, rfl, ?_⟩
 refine ydB fun b5 w5 c5 M5 f5 => ?_
 have K5 : Mod [] w2 w5 := (A3.mod.go0 M4 (by simp)).go0 M5 (by simp)
 have s5 := K5.size
 obtain ⟨i0, hi, hz0, hz1, hz2⟩ := info_parts yFc
 refine yb0 (x := yB1 r) (hRow.keep0 K5) Tryz.underlying44 hi hz0 hz1 hz2 rfl (by decide) c5 rfl (ynH _) (by omega) (by unfold maxLen; omega) (by omega) fun a' c' w6 hR6 hM6 => ?_
 have M6 := hM6 _ (ydC a)
 have hrow := ybM hRow
 refine ⟨yaE.of M6 fun b hb _ hb' => ?_, ?_⟩
 ·have := hrow b hb'; simp at hb; omega
 intro w7 A7
 unfold maxLen at hw
 refine ywK (b.recs.length - (k + 1)) (by omega) ⟨k + 1, by rw [yaH (by omega) (by omega)]; omega, by omega, by omega, Row.keep (by rw [yeP hr]; exact hR6) A7.mod fun ad ha hk => ?_, ?_, by have := M6.size; have := A7.mod.size; omega, rfl⟩
 ·have := hR6.base ad ha; simp at hk; omega
 ·refine ((N2.go0 K5 (by simp)).go0 M6 fun i hi => ?_).go0 A7.mod (by simpa using f3)
  have := hrow i hi; omega
theorem yGl {w : World} {o : POp} {rs ts : Sl} (h : OpRd w o rs ts) :
  Calls pP 52 #[o.v rs ts] w fun e w' => ∃ v, e = .returned v ∧ ∃ rs' ts' : Sl, v = (yxB o).v rs' ts' ∧ OpOwn w' w.heap.size (yxB o) rs' ts' ∧ Mod [] w w' := by
 refine yF1 ?_
 intro b1 f1 b2 f2 b3 f3
 refine yeB (n := 40) rfl (yeB (n := 40) rfl (yeB (n := 40) rfl ?_))
 intro w1 A1
 have l1 := A1.lt b1 (by simp)
 have l2 := A1.lt b2 (by simp)
 have l3 := A1.lt b3 (by simp)
 have s1 := A1.mod.size
 have hn := h.topics.1
 have hw := h.wt
 unfold maxLen at hw
 refine (yBU (b := o.b) (rs := rs) (h.recs.keep0 A1.mod) h.wr).mono ?_
 rintro e w2 ⟨_, rfl, rs', rfl, hB, M2⟩
 have s2 := M2.size
 refine ⟨_, _, _, _, _, _, rfl, yaE.of0 M2, ?_⟩
 intro w3 A3
 have s3 := A3.mod.size
 have hB3 : Row w3 w1.heap.size 53 4 ye7 rs'.a rs'.n rs'.c (yqZ o.b).recs := hB.keep A3.mod fun ad ha hk => by have := hB.base ad ha; simp at hk; omega
 have N3 := (A1.mod.go0 M2 (by simp)).go0 A3.mod (by simpa using f3)
 refine ywN (fun mm x a n c w' => ∃ k : Nat, x = k ∧ k ≤ o.topics.length ∧ k ≤ 12 ∧ Row w' w1.heap.size 9 1 yiO a n c ((o.topics.take k).map (yi7 40)) ∧ Row w' w1.heap.size 53 4 ye7 rs'.a rs'.n rs'.c (yqZ o.b).recs ∧ Mod [] w w' ∧ w1.heap.size ≤ w'.heap.size ∧ mm = o.topics.length - k) o.topics.length
  ⟨0, rfl, by omega, by omega, Row.nil .., hB3, N3, by omega, rfl⟩ ?_
 rintro mm x a n c w4 ⟨k, rfl, hk, hk2, hRow, hB4, N4, s4, rfl⟩
 have hlk : ((o.topics.take k).map (yi7 40)).length = k := by rw [List.length_map, List.length_take]; omega
 have fin : ∀ {w'}, ¬ (k < o.topics.length ∧ k < 12) → Adv [b2] [] w4 w' → ∃ rs'' ts' : Sl, Value.agg #[.int .i64 o.kind, .string (yi7 40 o.part.t), .int .i64 o.part.n, .int .i64 o.n, .int .i64 o.off, .int .i64 (yqZ o.b).prod, .int .i64 (yqZ o.b).epoch, .int .i64 (yqZ o.b).seq, .slice rs'.a rs'.n rs'.c, .string (yi7 40 o.g), .string (yi7 40 o.m), .int .i64 o.gen, .bool o.robin, .slice a n c] = (yxB o).v rs'' ts' ∧ OpOwn w' w.heap.size (yxB o) rs'' ts' ∧ Mod [] w w' := fun {w'} hne A => by
  rw [ydY 12 hk2 hne hk] at hRow
  exact ⟨rs', ⟨a, n, c⟩, rfl, ⟨(hB4.keep A.mod fun ad ha hk => by have := hB4.base ad ha; simp at hk; omega).rebase s1, (hRow.keep A.mod fun ad ha hk => by have := hRow.base ad ha; simp at hk; omega).rebase s1, by simp [yxB, yqZ]; omega, by simp [yxB]; omega⟩, N4.go0 A.mod (by simpa using f2)⟩
 refine yaC (fun hlt => ?_) fun hge => fun w5 A5 => fin (by omega) A5
 refine yaC (fun hlt2 => ?_) fun hge => fun w5 A5 => fin (by omega) A5
 obtain ⟨t, ht⟩ : ∃ t, o.topics[k]? = some t := ⟨_, List.getElem?_eq_getElem (by omega)⟩
 refine (h.topics.keep0 N4).ixW ht fun q hq => ?_
 intro w5 A5
 refine yaG (x := t) (by simpa [add_zero] using hq w5 A5.mod 0 _ rfl) ?_
 refine (h.topics.keep0 N4).ixW ht fun q hq => ?_
 refine yaG (x := t) (by simpa [add_zero] using hq w5 A5.mod 0 _ rfl) ?_
 refine yeB (n := 40) rfl ?_
 refine ydB fun b6 w6 c6 M6 f6 => ?_
 have K6 : Mod [] w4 w6 := A5.mod.go0 M6 (by simp)
 have s6 := K6.size
 obtain ⟨i0, hi, hz0, hz1, hz2⟩ := info_parts yFd
 refine yb0 (enc := yiO) (x := yi7 40 t) (hRow.keep0 K6) Tryz.underlying47 hi hz0 hz1 hz2 rfl (by decide) c6 rfl (ynI _) (by omega) (by unfold maxLen; omega) (by omega) fun a' c' w7 hR7 hM7 => ?_
 have M7 := hM7 _ (ydC a)
 have s7 := M7.size
 have hrow := ybM hRow
 refine ⟨yaE.of M7 fun b hb _ hb' => ?_, ?_⟩
 ·have := hrow b hb'; simp at hb; omega
 intro w8 A8
 have s8 := A8.mod.size
 have hB7 : Row w7 w1.heap.size 53 4 ye7 rs'.a rs'.n rs'.c (yqZ o.b).recs := (hB4.keep0 K6).keep M7 fun ad ha hk => by
  obtain ⟨_, cur, hc⟩ := hB4.block ad ha
  obtain ⟨_, _, cur2, hc2⟩ := hrow _ hk
  rw [hc2] at hc; cases hc
 refine ywM (o.topics.length - (k + 1)) (by omega) ⟨k + 1, by rw [yaH (by omega) (by omega)]; omega, by omega, by omega, Row.keep (by rw [yeP ht]; exact hR7) A8.mod fun ad ha hk => ?_, hB7.keep A8.mod fun ad ha hk => ?_, ?_, by omega, rfl⟩
 ·have := hR7.base ad ha; simp at hk; omega
 ·have := hB7.base ad ha; simp at hk; omega
 ·refine ((N4.go0 K6 (by simp)).go0 M7 fun i hi => ?_).go0 A8.mod (by simpa using f3)
  have := hrow i hi; omega
theorem yDi {w : World} {a : Option Addr} {n c : Nat} {ll : List CV} (h : yb3 w 16 CV.cs a n ll) (hO : ∀ q ∈ ll, OpRd w q.x.op q.rs q.ts) (hw : n ≤ maxLen) :
  Calls pP 20 #[.slice a n c] w fun e w' => ∃ v, e = .returned v ∧ ∃ s' : Sl, v = .slice s'.a s'.n s'.c ∧ ybI w' w.heap.size s' (yo9 (ll.map (·.x))) ∧ Mod [] w w' := by
 have hn := h.1
 unfold maxLen at hw
 refine yF2 ?_
 refine ydB fun b1 w1 c1 M1 f1 => ?_
 have s1 := M1.size
 refine ywP (fun mm a3 n3 c3 x w' => ∃ (k : Nat) (l : List CV), x = k ∧ k ≤ ll.length ∧ k ≤ 12 ∧ l.map (·.x) = ((ll.map (·.x)).take k).map yEG ∧ Row w' w.heap.size 51 16 CV.cs a3 n3 c3 l ∧ (∀ q ∈ l, OpOwn w' w.heap.size q.x.op q.rs q.ts) ∧ Mod [] w w' ∧ mm = ll.length - k) ll.length
  ⟨0, [], rfl, by omega, by omega, by simp, Row.fresh c1 f1, by simp, M1, rfl⟩ ?_
 rintro mm a3 n3 c3 x w2 ⟨k, l, rfl, hk, hk2, hlx, hRow, hOw, M2, rfl⟩
 have hlk : l.length = k := by have := congrArg List.length hlx; simp at this; omega
 have fin : ¬ (k < (ll.map (·.x)).length ∧ k < 12) → ∃ s' : Sl, Value.slice a3 n3 c3 = .slice s'.a s'.n s'.c ∧ ybI w2 w.heap.size s' (yo9 (ll.map (·.x))) ∧ Mod [] w w2 := fun hne => ⟨⟨a3, n3, c3⟩, rfl, ⟨l, hRow, hOw, by rw [hlx, yo9, ydY 12 hk2 hne (by simpa using hk)]⟩, M2⟩
 have s2 := M2.size
 refine yaC (fun hlt => ?_) fun hge => fin (by simp; omega)
 refine yaC (fun hlt2 => ?_) fun hge => fin (by simp; omega)
 obtain ⟨q, hq⟩ : ∃ q, ll[k]? = some q := ⟨_, List.getElem?_eq_getElem (by omega)⟩
 refine (h.keep0 M2).ixW hq fun ad had => ?_
 intro w3 A3
 have s3 := A3.mod.size
 have N3 := M2.go0 A3.mod (by simp)
 refine yaF (x := q.x.c) (by simpa [add_zero] using had w3 A3.mod 0 _ rfl) ?_
 refine (h.keep0 N3).ixW hq fun ad2 had2 => yaF (x := q.x.n) (had2 w3 (Mod.refl _) 1 _ rfl) ?_
 refine (h.keep0 N3).ixW hq fun ad3 had3 => ?_
 have hc := had3 w3 (Mod.refl _)
 refine yoC (yi4 hc) ?_
 refine (yGl ((hO q (List.mem_of_getElem? hq)).keep0 N3)).mono ?_
 rintro _ w4 ⟨_, rfl, rs', ts', rfl, hO', M4⟩
 have s4 := M4.size
 refine ⟨_, _, _, _, _, _, _, _, _, _, _, _, _, _, _, _, _, _, rfl, ?_, ?_, ?_⟩
 ·exact yaF (x := q.x.n) (had2 w4 M4 1 _ rfl) rfl
 ·exact yaF (x := q.x.c) (by simpa [add_zero] using had w4 (A3.mod.go0 M4 (by simp)) 0 _ rfl) rfl
 refine ydB fun b7 w7 c7 M7 f7 => ?_
 have s7 := M7.size
 have K7 : Mod [] w2 w7 := (A3.mod.go0 M4 (by simp)).go0 M7 (by simp)
 obtain ⟨i0, hi, hz0, hz1, hz2⟩ := info_parts ynO
 refine yb0 (x := (⟨⟨q.x.c, q.x.n, yxB q.x.op⟩, rs', ts'⟩ : CV)) (hRow.keep0 K7) Tryz.underlying22 hi hz0 hz1 hz2 rfl (by decide) c7 rfl (CV.cs_one _) (by omega) (by unfold maxLen; omega) (by omega) fun a' c' w8 hR8 hM8 => ?_
 have M8 := hM8 _ (ydC a3)
 have hrow := ybM hRow
 have kp : ∀ {o rs ts}, OpOwn w7 w.heap.size o rs ts → OpOwn w8 w.heap.size o rs ts := fun hh => hh.keep M8 fun k hk cs T hc => by
  obtain ⟨_, _, cur, hcur⟩ := hrow k hk
  rw [K7.keep0 hcur] at hc; cases hc; decide
 refine ywO (ll.length - (k + 1)) (by omega) ⟨k + 1, _, by rw [yaH (by omega) (by omega)]; omega, by omega, by omega, by rw [yeP (show (ll.map (·.x))[k]? = some q.x by rw [List.getElem?_map, hq]; rfl), List.map_append, hlx]; rfl, hR8, fun y hy => ?_, (M2.go0 K7 (by simp)).go0 M8 fun i hi => (hrow i hi).1, rfl⟩
 rcases List.mem_append.1 hy with hy | hy
 ·exact kp ((hOw y hy).keep0 K7)
 ·simp at hy; subst hy; exact kp ((hO'.keep0 M7).rebase (by omega))
set_option maxHeartbeats 1000000 in
theorem yqT {w : World} {r : PRep} {f p : Sl} (h : RepRd w r f p) :
  Calls pP 21 #[r.v f p] w fun e w' => ∃ v, e = .returned v ∧ ∃ f' p' : Sl, v = (ycF r).v f' p' ∧ RepOwn w' w.heap.size (ycF r) f' p' ∧ Mod [] w w' := by
 refine yGj ?_
 intro b1 f1 b2 f2 b3 f3 w1 A1
 have l1 : ∀ b ∈ [b3, b2, b1], b < w1.heap.size := A1.lt
 have l3 := l1 b3 (by simp)
 have l2 := l1 b2 (by simp)
 have l1 := l1 b1 (by simp)
 have s1 := A1.mod.size
 refine yxA (fun mm x a n c w' => ∃ k : Nat, x = k ∧ k ≤ 70 ∧ k ≤ r.found.length ∧ Row w' w1.heap.size 55 5 yiM a n c ((r.found.take k).map yDa) ∧ Mod [] w w' ∧ w1.heap.size ≤ w'.heap.size ∧ mm = 70 - k) 70 ⟨0, rfl, by omega, by omega, Row.nil .., A1.mod, Nat.le_refl _, rfl⟩ ?_
 rintro mm x a1 n1 c1 w2 ⟨k, rfl, hk, hkf, hR, M2, hs2, rfl⟩
 have hl1 : ((r.found.take k).map yDa).length = k := by rw [List.length_map, List.length_take]; omega
 have e4 := h.found.1
 have e5 := h.parts.1
 refine yaC (fun hlt => ?_) fun hge => ?_
 ·refine yaC (fun hlt4 => ?_) fun hge => ?_
  ·obtain ⟨y, hy⟩ : ∃ y, r.found[k]? = some y := ⟨_, List.getElem?_eq_getElem (by have := h.found.1; omega)⟩
   have hym := h.sf y (List.mem_of_getElem? hy)
   unfold maxLen at hym
   refine (h.keep0 M2).found.ix hy fun q hq => yaF (x := y.off) (by simpa [add_zero] using hq 0 _ rfl) (yaN (hq 1 _ rfl) (yaG (hq 2 _ rfl) (yaN (hq 3 _ rfl) (yaG (hq 4 _ rfl) ?_))))
   intro b6 f6
   refine yeB (n := 80) rfl (yeB (n := 600) rfl ?_)
   intro w6 A6
   have l6 := A6.lt b6 (by simp)
   have s6 := A6.mod.size
   refine ydB fun b7 w7 c7 M7 f7 => ?_
   have s7 := M7.size
   obtain ⟨i0, hi0, hz0, hz1, hz2⟩ := info_parts yEX
   refine yb0 (x := yDa y) ((hR.keep0 A6.mod).keep0 M7) Tryz.underlying24 hi0 hz0 hz1 hz2 rfl (by decide) c7 rfl (ynE _) (by omega) (by unfold maxLen; omega) (by omega) fun a' c' w8 hR8 hM8 => ?_
   have M8 := hM8 _ (ydC a1)
   have hrow : ∀ k ∈ ykQ a1, w1.heap.size ≤ k ∧ k < w2.heap.size := by
    cases a1 with
    | none => simp [ykQ]
    | some ad => intro k hk; simp [ykQ] at hk; subst hk; obtain ⟨h1, cur, h2⟩ := hR.block ad rfl; exact ⟨h1, yaX h2⟩
   refine ⟨yaE.of M8 fun b hb _ hb' => ?_, ?_⟩
   ·have := hrow b hb'; simp at hb; omega
   intro w9 A9
   have N7 : Mod [] w2 w7 := A6.mod.go0 M7 (by simp)
   have N8 : Mod [] w w8 := (M2.go0 N7 (by simp)).go0 M8 fun i hi => by have := hrow i hi; omega
   have s8 := M8.size
   have s9 := A9.mod.size
   refine yw9 (70 - (k + 1)) (by omega) ⟨k + 1, by rw [yaH (by omega) (by omega)]; omega, by omega, by have := (List.getElem?_eq_some_iff.1 hy).1; omega, Row.keep (by rw [yeP hy]; exact hR8) A9.mod fun ad ha hk' => ?_, N8.go0 A9.mod (by simp; omega), by omega, rfl⟩
   have := hR8.base ad ha; simp at hk'; omega
  ·have hRf : Row w2 w1.heap.size 55 5 yiM a1 n1 c1 (ycF r).found := by
    have := ydY (l := r.found) 70 hk (by omega) hkf
    rw [this] at hR; exact hR
   clear hR
   refine ymS (fun mm x a n c w' => ∃ k : Nat, x = k ∧ k ≤ 70 ∧ k ≤ r.parts.length ∧ Row w' w1.heap.size 43 2 yjW a n c ((r.parts.take k).map yxL) ∧ Row w' w1.heap.size 55 5 yiM a1 n1 c1 (ycF r).found ∧ Mod [] w w' ∧ w1.heap.size ≤ w'.heap.size ∧ mm = 70 - k) 70 ⟨0, rfl, by omega, by omega, Row.nil .., hRf, M2, hs2, rfl⟩ ?_
   rintro mm x a n c w3 ⟨k, rfl, hk, hkp, hP, hR, M3, hs3, rfl⟩
   have hl : ((r.parts.take k).map yxL).length = k := by rw [List.length_map, List.length_take]; omega
   have fin : ¬ (k < r.parts.length ∧ k < 70) → ∀ w4, Adv [b2] [] w3 w4 → ∃ f' p' : Sl, Value.agg #[.int .i64 r.e, .int .i64 r.off, .int .i64 r.n, .int .i64 r.gen, .slice a1 n1 c1, .slice a n c] = (ycF r).v f' p' ∧ RepOwn w4 w.heap.size (ycF r) f' p' ∧ Mod [] w w4 := fun hne w4 A4 => by
    rw [ydY 70 hk hne hkp] at hP
    refine ⟨⟨a1, n1, c1⟩, ⟨a, n, c⟩, rfl, ⟨?_, ?_, by simp [ycF]; omega, by simp [ycF]; omega⟩, M3.go0 A4.mod (by simp; omega)⟩
    ·refine (hR.keep A4.mod fun ad ha hk' => ?_).rebase (by omega)
     have := hR.base ad ha; simp at hk'; omega
    ·refine (hP.keep A4.mod fun ad ha hk' => ?_).rebase (by omega)
     have := hP.base ad ha; simp at hk'; omega
   refine yaC (fun hlt => ?_) fun hge => fin (by omega)
   refine yaC (fun hlt4 => ?_) fun hge => fin (by omega)
   obtain ⟨y, hy⟩ : ∃ y, r.parts[k]? = some y := ⟨_, List.getElem?_eq_getElem (by have := h.parts.1; omega)⟩
   have hym := h.sp y (List.mem_of_getElem? hy)
   unfold maxLen at hym
   refine (h.keep0 M3).parts.ix hy fun q hq => yaG (x := y.t) (by simpa [add_zero] using hq 0 _ rfl) (yaF (hq 1 _ rfl) ?_)
   intro b6 f6
   refine yeB (n := 40) rfl ?_
   intro w6 A6
   have l6 := A6.lt b6 (by simp)
   have s6 := A6.mod.size
   refine ydB fun b7 w7 c7 M7 f7 => ?_
   have s7 := M7.size
   obtain ⟨i0, hi0, hz0, hz1, hz2⟩ := info_parts yCt
   refine yb0 (x := yxL y) ((hP.keep0 A6.mod).keep0 M7) Tryz.underlying25 hi0 hz0 hz1 hz2 rfl (by decide) c7 rfl (yi0 _) (by omega) (by unfold maxLen; omega) (by omega) fun a' c' w8 hR8 hM8 => ?_
   have M8 := hM8 _ (ydC a)
   have hrow : ∀ k ∈ ykQ a, w1.heap.size ≤ k ∧ k < w3.heap.size ∧ ∃ cur, w3.heap[k]? = some (.cells cur 43) := by
    cases a with
    | none => simp [ykQ]
    | some ad => intro k hk; simp [ykQ] at hk; subst hk; obtain ⟨h1, cur, h2⟩ := hP.block ad rfl; exact ⟨h1, yaX h2, cur, h2⟩
   refine ⟨yaE.of M8 fun b hb _ hb' => ?_, ?_⟩
   ·have := hrow b hb'; simp at hb; omega
   intro w9 A9
   have N7 : Mod [] w3 w7 := A6.mod.go0 M7 (by simp)
   have N8 : Mod [] w w8 := (M3.go0 N7 (by simp)).go0 M8 fun i hi => by have := hrow i hi; omega
   have s8 := M8.size
   have s9 := A9.mod.size
   refine ymR (70 - (k + 1)) (by omega) ⟨k + 1, by rw [yaH (by omega) (by omega)]; omega, by omega, by have := (List.getElem?_eq_some_iff.1 hy).1; omega, Row.keep (by rw [yeP hy]; exact hR8) A9.mod fun ad ha hk' => ?_, ?_, N8.go0 A9.mod (by simp; omega), by omega, rfl⟩
   ·have := hR8.base ad ha; simp at hk'; omega
   ·have h7 := hR.keep0 N7
    refine (h7.keep M8 fun ad ha hk' => ?_).keep A9.mod fun ad ha hk' => ?_
    ·obtain ⟨_, _, cur, hc⟩ := hrow _ hk'
     obtain ⟨_, cur', hc'⟩ := hR.block ad ha
     rw [hc] at hc'; cases hc'
    ·have := hR.base ad ha; simp at hk'; omega
 ·have hRf : Row w2 w1.heap.size 55 5 yiM a1 n1 c1 (ycF r).found := by
   have := ydY (l := r.found) 70 hk (by omega) hkf
   rw [this] at hR; exact hR
  clear hR
  refine ymS (fun mm x a n c w' => ∃ k : Nat, x = k ∧ k ≤ 70 ∧ k ≤ r.parts.length ∧ Row w' w1.heap.size 43 2 yjW a n c ((r.parts.take k).map yxL) ∧ Row w' w1.heap.size 55 5 yiM a1 n1 c1 (ycF r).found ∧ Mod [] w w' ∧ w1.heap.size ≤ w'.heap.size ∧ mm = 70 - k) 70 ⟨0, rfl, by omega, by omega, Row.nil .., hRf, M2, hs2, rfl⟩ ?_
  rintro mm x a n c w3 ⟨k, rfl, hk, hkp, hP, hR, M3, hs3, rfl⟩
  have hl : ((r.parts.take k).map yxL).length = k := by rw [List.length_map, List.length_take]; omega
  have fin : ¬ (k < r.parts.length ∧ k < 70) → ∀ w4, Adv [b2] [] w3 w4 → ∃ f' p' : Sl, Value.agg #[.int .i64 r.e, .int .i64 r.off, .int .i64 r.n, .int .i64 r.gen, .slice a1 n1 c1, .slice a n c] = (ycF r).v f' p' ∧ RepOwn w4 w.heap.size (ycF r) f' p' ∧ Mod [] w w4 := fun hne w4 A4 => by
   rw [ydY 70 hk hne hkp] at hP
   refine ⟨⟨a1, n1, c1⟩, ⟨a, n, c⟩, rfl, ⟨?_, ?_, by simp [ycF]; omega, by simp [ycF]; omega⟩, M3.go0 A4.mod (by simp; omega)⟩
   ·refine (hR.keep A4.mod fun ad ha hk' => ?_).rebase (by omega)
    have := hR.base ad ha; simp at hk'; omega
   ·refine (hP.keep A4.mod fun ad ha hk' => ?_).rebase (by omega)
    have := hP.base ad ha; simp at hk'; omega
  refine yaC (fun hlt => ?_) fun hge => fin (by omega)
  refine yaC (fun hlt4 => ?_) fun hge => fin (by omega)
  obtain ⟨y, hy⟩ : ∃ y, r.parts[k]? = some y := ⟨_, List.getElem?_eq_getElem (by have := h.parts.1; omega)⟩
  have hym := h.sp y (List.mem_of_getElem? hy)
  unfold maxLen at hym
  refine (h.keep0 M3).parts.ix hy fun q hq => yaG (x := y.t) (by simpa [add_zero] using hq 0 _ rfl) (yaF (hq 1 _ rfl) ?_)
  intro b6 f6
  refine yeB (n := 40) rfl ?_
  intro w6 A6
  have l6 := A6.lt b6 (by simp)
  have s6 := A6.mod.size
  refine ydB fun b7 w7 c7 M7 f7 => ?_
  have s7 := M7.size
  obtain ⟨i0, hi0, hz0, hz1, hz2⟩ := info_parts yCt
  refine yb0 (x := yxL y) ((hP.keep0 A6.mod).keep0 M7) Tryz.underlying25 hi0 hz0 hz1 hz2 rfl (by decide) c7 rfl (yi0 _) (by omega) (by unfold maxLen; omega) (by omega) fun a' c' w8 hR8 hM8 => ?_
  have M8 := hM8 _ (ydC a)
  have hrow : ∀ k ∈ ykQ a, w1.heap.size ≤ k ∧ k < w3.heap.size ∧ ∃ cur, w3.heap[k]? = some (.cells cur 43) := by
   cases a with
   | none => simp [ykQ]
   | some ad => intro k hk; simp [ykQ] at hk; subst hk; obtain ⟨h1, cur, h2⟩ := hP.block ad rfl; exact ⟨h1, yaX h2, cur, h2⟩
  refine ⟨yaE.of M8 fun b hb _ hb' => ?_, ?_⟩
  ·have := hrow b hb'; simp at hb; omega
  intro w9 A9
  have N7 : Mod [] w3 w7 := A6.mod.go0 M7 (by simp)
  have N8 : Mod [] w w8 := (M3.go0 N7 (by simp)).go0 M8 fun i hi => by have := hrow i hi; omega
  have s8 := M8.size
  have s9 := A9.mod.size
  refine ymR (70 - (k + 1)) (by omega) ⟨k + 1, by rw [yaH (by omega) (by omega)]; omega, by omega, by have := (List.getElem?_eq_some_iff.1 hy).1; omega, Row.keep (by rw [yeP hy]; exact hR8) A9.mod fun ad ha hk' => ?_, ?_, N8.go0 A9.mod (by simp; omega), by omega, rfl⟩
  ·have := hR8.base ad ha; simp at hk'; omega
  ·have h7 := hR.keep0 N7
   refine (h7.keep M8 fun ad ha hk' => ?_).keep A9.mod fun ad ha hk' => ?_
   ·obtain ⟨_, _, cur, hc⟩ := hrow _ hk'
    obtain ⟨_, cur', hc'⟩ := hR.block ad ha
    rw [hc] at hc'; cases hc'
   ·have := hR.base ad ha; simp at hk'; omega
def yB2 (m : PMail) : PMail := ⟨m.kind, m.fr, m.to, m.view, m.normal, m.last, m.commit, m.nonce, m.base, m.n, yo9 m.calls, ycF m.r⟩
theorem MailRd.keep0 {w w' : World} {m : PMail} {s f p : Sl} (h : MailRd w m s f p) (M : Mod [] w w') : MailRd w' m s f p := by
 obtain ⟨⟨ll, h1, h2, h3⟩, h4, h5⟩ := h
 exact ⟨⟨ll, h1.keep0 M, fun q hq => (h2 q hq).keep0 M, h3⟩, h4, h5.keep0 M⟩
theorem ysY {w : World} {m : PMail} {s f p : Sl} (h : MailRd w m s f p) :
  Calls pP 9 #[m.v s f p] w fun e w' => ∃ v, e = .returned v ∧ ∃ s' f' p' : Sl, v = (yB2 m).v s' f' p' ∧ MailOwn w' w.heap.size (yB2 m) s' f' p' ∧ Mod [] w w' := by
 refine yF9 ?_
 intro b1 f1 b2 f2 b3 f3 w4 A4
 have l1 := A4.lt b1 (by simp)
 have l2 := A4.lt b2 (by simp)
 have l3 := A4.lt b3 (by simp)
 have s4 := A4.mod.size
 obtain ⟨ll, h1, h2, h3⟩ := (h.keep0 A4.mod).calls
 refine (yDi h1 h2 h.ws).mono ?_
 rintro _ w5 ⟨_, rfl, s', rfl, hC, M5⟩
 rw [h3] at hC
 have s5 := M5.size
 refine ⟨_, _, _, rfl, yaE.of0 M5, ?_⟩
 intro w9 A9
 have s9 := A9.mod.size
 have N9 : Mod [] w w9 := (A4.mod.go0 M5 (by simp)).go0 A9.mod (by simpa using f3)
 refine (yqT (h.keep0 N9).rep).mono ?_
 rintro _ w10 ⟨_, rfl, f', p', rfl, hR, M10⟩
 have s10 := M10.size
 refine ⟨_, _, _, _, _, _, _, _, _, _, rfl, yaE.of0 M10, ?_⟩
 intro w21 A21
 refine ⟨s', f', p', rfl, ⟨((hC.keepB A9.mod (by simp; omega)).keep0 M10).keepB A21.mod (by simp; omega) |>.rebase s4, (hR.keepB A21.mod (by simp; omega)).rebase (by omega)⟩, (N9.go0 M10 (by simp)).go0 A21.mod (by simp; omega)⟩
theorem yDj (m : PMail) : yB2 (yB2 m) = yB2 m := by
 have h1 := yBT m.calls
 have h2 := yxC m.r
 simp only [yB2, h1, h2]
theorem ydL (n : Nat) (hn : n ≤ 1000) (s : ByteArray) : (yi7 n s).size ≤ maxLen := by rw [yqS]; unfold maxLen; omega
theorem yJL {w : World} {B : Nat} {m : PMail} {s f p : Sl} (h : MailOwn w B (yB2 m) s f p) : MailRd w (yB2 m) s f p := by
 obtain ⟨ll, hR, hO, hx⟩ := h.calls
 have hn := hR.1
 have hl : ll.length ≤ 12 := by
  have := congrArg List.length hx
  rw [List.length_map] at this
  show ll.length ≤ 12
  rw [this]; show ((m.calls.take 12).map yEG).length ≤ 12
  rw [List.length_map, List.length_take]; omega
 have hrn := (h.rep.found).1
 have hpn := (h.rep.parts).1
 have hfl : (ycF m.r).found.length ≤ 70 := by show ((m.r.found.take 70).map yDa).length ≤ 70; rw [List.length_map, List.length_take]; omega
 have hpl : (ycF m.r).parts.length ≤ 70 := by show ((m.r.parts.take 70).map yxL).length ≤ 70; rw [List.length_map, List.length_take]; omega
 refine ⟨⟨ll, hR.sl CV.cs_len, fun q hq => ?_, hx⟩, by unfold maxLen; omega, ⟨h.rep.found.sl yiW, h.rep.parts.sl yiX, ?_, ?_, ?_, ?_⟩⟩
 ·have hq2 : q.x ∈ yo9 m.calls := by rw [show yo9 m.calls = (yB2 m).calls from rfl, ← hx]; exact List.mem_map.2 ⟨q, hq, rfl⟩
  obtain ⟨c, hc, he⟩ := List.mem_map.1 hq2
  have ho : q.x.op = yxB c.op := by rw [← he]; rfl
  have hw := hO q hq
  have lr := hw.at.recs.1
  have lt := hw.at.topics.1
  have hl1 := hw.lr
  have hl2 := hw.lt
  refine ⟨hw.at.recs, hw.at.topics, by unfold maxLen; omega, by unfold maxLen; omega, ?_, ?_, ?_, ?_, ?_⟩
  ·intro r hr
   rw [ho] at hr
   obtain ⟨r0, _, rfl⟩ := List.mem_map.1 hr
   exact ⟨ydL 80 (by omega) _, ydL 600 (by omega) _⟩
  ·intro t ht
   rw [ho] at ht
   obtain ⟨t0, _, rfl⟩ := List.mem_map.1 ht
   exact ydL 40 (by omega) _
  ·rw [ho]; exact ydL 40 (by omega) _
  ·rw [ho]; exact ydL 40 (by omega) _
  ·rw [ho]; exact ydL 40 (by omega) _
 ·have : f.n = (ycF m.r).found.length := hrn
  unfold maxLen; omega
 ·have : p.n = (ycF m.r).parts.length := hpn
  unfold maxLen; omega
 ·intro y hy
  obtain ⟨y0, _, rfl⟩ := List.mem_map.1 hy
  exact ⟨ydL 80 (by omega) _, ydL 600 (by omega) _⟩
 ·intro y hy
  obtain ⟨y0, _, rfl⟩ := List.mem_map.1 hy
  exact ydL 40 (by omega) _
theorem yBV {w : World} {s : Sl} {xs : List PCall} (h : ye2 w s xs) (hc : xs = []) : s.n = 0 := by
 obtain ⟨ll, h1, _, h3⟩ := h
 rw [hc] at h3
 have : ll = [] := by simpa using h3
 rw [h1.1, this]; rfl
theorem ykO {s : Sl} (hn : s.n = 0) (w : World) :
  Calls pP 32 #[.slice s.a s.n s.c] w fun e w' => e = .returned (.tuple #[.string (bs (yaJ 0)), .int .i64 0]) ∧ Mod [] w w' := by
 obtain ⟨a, n, c⟩ := s
 have hn : n = 0 := hn
 subst hn
 refine yaP (yBx ?_)
 refine yaC (fun g => absurd g (by show ¬ ((0 : Nat) : Int) > 4096; omega)) fun _ => ?_
 have chk : Calls pP 63 #[.slice a 0 c] w fun e w' => e = .returned (.int .i64 0) ∧ w' = w := by
  refine yaP (yBt ?_)
  refine ymI (fun mm x w' => x = 0 ∧ w' = w) 0 ⟨rfl, rfl⟩ ?_
  rintro mm x w' ⟨rfl, rfl⟩
  refine yaC (fun g => absurd g (by decide)) fun _ => ?_
  refine ymJ (fun mm x w2 => x = 0 ∧ w2 = w') 0 ⟨rfl, rfl⟩ ?_
  rintro mm x w2 ⟨rfl, rfl⟩
  exact yaC (fun g => absurd g (by decide)) fun _ => ⟨rfl, rfl⟩
 refine chk.mono ?_
 rintro _ w1 ⟨rfl, rfl⟩
 refine ⟨_, rfl, yaB (fun g => absurd g (by decide)) fun _ => ?_⟩
 refine (yb1 (n := 0) (by omega) w1).mono ?_
 rintro _ w2 ⟨rfl, M2⟩
 refine ⟨_, rfl, ?_⟩
 refine ymK (fun mm t x w' => x = 0 ∧ t = bs (yaJ 0) ∧ w' = w2) 0 ⟨rfl, rfl, rfl⟩ ?_
 rintro mm t x w3 ⟨rfl, rfl, rfl⟩
 exact yaC (fun g => absurd g (by show ¬ ((0 : Int) < ((0 : Nat) : Int)); omega)) fun _ => ⟨rfl, M2⟩
theorem yqU {w : World} {m : PMail} {s f p : Sl} (h : MailAt w m s f p) (hc : m.calls = []) :
  Calls pP 13 #[m.v s f p] w fun e w' => e = .returned (.int .i64 (yb5 m)) ∧ Mod [] w w' := by
 refine yaP (yBB ?_)
 intro b1 f1
 refine yaC (fun g1 => fun w2 A2 => ⟨by rw [yb5, if_pos (.inl g1)], A2.mod⟩) fun g1 => ?_
 refine yaC (fun g2 => fun w2 A2 => ⟨by rw [yb5, if_pos (.inr (by omega))], A2.mod⟩) fun g2 => ?_
 have hE : yb5 m = if ((yaR m).all num) = false then 1 else if yb8 m.calls ≠ 0 then yb8 m.calls else yfR m.r := by rw [yb5, if_neg (by omega)]
 intro w4 A4
 refine (yhV m s f p).mono ?_
 rintro e w5 ⟨_, rfl, c5, rfl, h5, M5⟩
 have N5 := A4.mod.go0 M5 (by simp)
 refine ⟨_, _, _, rfl, yaE.of0 M5, ?_⟩
 refine ymN (fun mm x w' => ∃ k : Nat, x = k ∧ k ≤ 10 ∧ ((yaR m).take k).all num = true ∧ mm = 10 - k ∧ Mod [] w5 w') 10 ⟨0, rfl, by omega, by simp, rfl, Mod.refl _⟩ ?_
 rintro mm x w6 ⟨k, rfl, hk, hal, rfl, M6⟩
 have N6 := N5.go0 M6 (by simp)
 refine yaC (fun hlt => ?_) fun hge => ?_
 ·have hk' : k < 10 := by omega
  obtain ⟨x, hx⟩ : ∃ x, (yaR m)[k]? = some x := ⟨_, List.getElem?_eq_getElem (by simpa [yaR] using hk')⟩
  refine (h5.keep0 M6).ix hx fun q hq => yaF (x := x) (by simpa [add_zero] using hq 0 _ rfl) ?_
  refine (ycM x w6).mono ?_
  rintro _ w7 ⟨rfl, rfl⟩
  refine ⟨_, rfl, yaE.of0 (Mod.refl _), yaB (fun g3 => ⟨?_, N6⟩) fun g3 => ?_⟩
  ·rw [hE, if_pos]
   apply Bool.eq_false_iff.2
   intro hh
   have := List.all_eq_true.1 hh x (List.mem_of_getElem? hx)
   rw [this] at g3; cases g3
  ·exact ymM (10 - (k + 1)) (by omega) ⟨k + 1, by rw [yaH (by omega) (by omega)]; omega, by omega, by rw [yb6 hx, hal, yhJ g3]; rfl, rfl, M6⟩
 ·have hk' : k = 10 := by omega
  subst hk'
  rw [List.take_of_length_le (by simp [yaR])] at hal
  rw [hal, if_neg (by decide)] at hE
  have ht : yb8 m.calls = 0 := by rw [hc]; decide
  refine (ykO (s := s) (yBV h.calls hc) w6).mono ?_
  rintro e w7 ⟨rfl, M7⟩
  have N7 := N6.go0 M7 (by simp)
  refine ⟨_, _, rfl, yaE.of0 M7, yaB (fun g => ?_) fun g => ?_⟩
  ·simp at g
  rw [if_neg (by simpa using ht)] at hE
  refine (yfX (h.rep.keep0 N7)).mono ?_
  rintro e w8 ⟨rfl, M8⟩
  exact ⟨_, _, rfl, yaE.of0 M8, by rw [hE], N7.go0 M8 (by simp)⟩
set_option maxHeartbeats 4000000 in
theorem yxD {w : World} {m : PMail} {s f p : Sl} (h : MailAt w m s f p) (hc : m.calls = []) :
  Calls pP 11 #[m.v s f p] w fun e w' => e = .returned (.tuple #[.string (if ybT m = 0 then yeL m else bs []), .int .i64 (ybT m)]) ∧ Mod [] w w' := by
 refine yaP (yBD ?_)
 intro b1 f1 w2 A2
 refine (yqU (h.keep0 A2.mod) hc).mono ?_
 rintro _ w3 ⟨rfl, M3⟩
 have N3 := A2.mod.go0 M3 (by simp)
 refine ⟨_, rfl, yaE.of0 M3, yaB (fun g => ?_) fun g => ?_⟩
 ·have g : yb5 m ≠ 0 := by simpa using g
  have e : ybT m = yb5 m := by rw [ybT, if_pos g]
  rw [e, if_neg g]; exact ⟨rfl, N3⟩
 have g : yb5 m = 0 := by simpa using g
 obtain ⟨_, hn, ht, hr⟩ := ycV g
 have hE : ybT m = if (ybL m).length > 1048576 then 2 else 0 := by rw [ybT, if_neg (by simpa using g)]
 refine (yhV m s f p).mono ?_
 rintro _ w4 ⟨_, rfl, c4, rfl, h4, M4⟩
 refine ⟨_, _, _, rfl, yaE.of0 M4, ?_⟩
 have N4 := N3.go0 M4 (by simp)
 refine ymP (fun mm s5 x7 w' => ∃ k : Nat, x7 = k ∧ k ≤ 10 ∧ s5 = bs (((yaR m).take k).flatMap ykR) ∧ Mod [] w4 w' ∧ mm = 10 - k) 10 ⟨0, rfl, by omega, by simp [yDG], Mod.refl _, rfl⟩ ?_
 rintro mm s5 x7 w5 ⟨k, rfl, hk, rfl, M5, rfl⟩
 have lk := yeN hn k
 have N5 := N4.go0 M5 (by simp)
 refine yaC (fun hlt => ?_) fun hge => ?_
 ·have hk' : k < 10 := by omega
  obtain ⟨x, hx⟩ : ∃ x, (yaR m)[k]? = some x := ⟨_, List.getElem?_eq_getElem (by simpa [yaR] using hk')⟩
  have hx1 := yfY hn hx
  have ls := yeM hx1
  have lv := (yaL x.toNat ls.1).2
  refine (h4.keep0 M5).ix hx fun q hq => yaF (x := x) (by simpa [add_zero] using hq 0 _ rfl) ?_
  rw [yGi hx1]
  refine (yb1 ls.1 w5).mono ?_
  rintro _ w6 ⟨rfl, M6⟩
  refine ⟨_, rfl, yaE.of0 M6, by rw [yaD, yaD]; omega, ?_⟩
  rw [ya9]
  exact ymO (10 - (k + 1)) (by omega) ⟨k + 1, by rw [yaH (by omega) (by omega)]; omega, by omega, by rw [ykN hx], M5.go0 M6 (by simp), rfl⟩
 ·have hk' : k = 10 := by omega
  subst hk'
  have e10 : (yaR m).take 10 = yaR m := List.take_of_length_le (by simp [yaR])
  rw [e10] at lk ⊢
  refine (ykO (s := s) (yBV h.calls hc) w5).mono ?_
  rw [show bs (yaJ 0) = bs (ybK m.calls) by rw [hc]; simp [ybK]]
  rintro _ w6 ⟨rfl, M6⟩
  have N6 := N5.go0 M6 (by simp)
  refine ⟨_, _, rfl, yaE.of0 M6, ?_⟩
  refine (yfX (h.rep.keep0 N6)).mono ?_
  rw [hr, if_pos rfl]
  rintro _ w7 ⟨rfl, M7⟩
  refine ⟨_, _, rfl, yaE.of0 M7, ?_⟩
  have lt := yg7 ht
  have lr : (ydK m.r).length ≤ 60000 := (RepGood.of hr).len3 m.r.parts.length
  refine (ybG (bs (ybK m.calls)) (by rw [yaD]; omega) w7).mono ?_
  rintro _ w8 ⟨rfl, M8⟩
  refine ⟨_, rfl, yaE.of0 M8, ?_⟩
  refine (ybG (bs (ydK m.r)) (by rw [yaD]; omega) w8).mono ?_
  rintro _ w9 ⟨rfl, M9⟩
  have p1 := (yaW (bs (ybK m.calls)) (by rw [yaD]; omega)).2
  have p2 := (yaW (bs (ydK m.r)) (by rw [yaD]; omega)).2
  rw [yaD] at p1 p2
  refine ⟨_, rfl, yaE.of0 M9, by rw [yaD, yaD]; omega, ?_⟩
  rw [ya9]
  refine ⟨by rw [yaD, yaD, List.length_append]; omega, ?_⟩
  rw [ya9]
  have eB : (yaR m).flatMap ykR ++ (ybU (bs (ybK m.calls)) ++ ybU (bs (ydK m.r))) = ybL m := by rw [← List.append_assoc]; rfl
  rw [eB]
  have lB := ykK g
  have N9 : Mod [] w w9 := ((N6.go0 M7 (by simp)).go0 M8 (by simp)).go0 M9 (by simp)
  refine yaC (fun hbig => ?_) fun hbig => ?_
  ·rw [yaD] at hbig
   have e : ybT m = 2 := by rw [hE, if_pos (by omega)]
   rw [e]; exact ⟨rfl, N9⟩
  ·rw [yaD] at hbig
   have e : ybT m = 0 := by rw [hE, if_neg (by omega)]
   refine (ykH (bs (ybL m)) (by rw [yaD]; omega) w9).mono ?_
   rintro _ w10 ⟨rfl, M10⟩
   refine ⟨_, rfl, yaE.of0 M10, ?_⟩
   rw [e, if_pos rfl]; exact ⟨rfl, N9.go0 M10 (by simp)⟩
theorem yKV {w : World} {b bm k : Nat} (h : w.heap[bm]? = some (.cells #[.pointer (some ⟨b, 0, none⟩), .pointer (some ⟨b, 1, none⟩), .pointer (some ⟨b, 2, none⟩), .pointer (some ⟨b, 3, none⟩), .pointer (some ⟨b, 4, none⟩), .pointer (some ⟨b, 5, none⟩), .pointer (some ⟨b, 6, none⟩), .pointer (some ⟨b, 7, none⟩), .pointer (some ⟨b, 8, none⟩), .pointer (some ⟨b, 9, none⟩)] 63)) (hk : k < 10) : w.cell? (Addr.add ⟨bm, 0, none⟩ (Int.toNat (k : Nat) * 1)) = some (.pointer (some ⟨b, k, none⟩)) := by
 rw [ya3, yaZ h]
 rcases (by omega : k = 0 ∨ k = 1 ∨ k = 2 ∨ k = 3 ∨ k = 4 ∨ k = 5 ∨ k = 6 ∨ k = 7 ∨ k = 8 ∨ k = 9) with rfl | rfl | rfl | rfl | rfl | rfl | rfl | rfl | rfl | rfl <;> rfl
theorem yGm {m m' : PMail} : m = m' ↔ yaR m = yaR m' ∧ m.calls = m'.calls ∧ m.r = m'.r := by
 obtain ⟨a1, a2, a3, a4, a5, a6, a7, a8, a9, a10, a11, a12⟩ := m
 obtain ⟨b1, b2, b3, b4, b5, b6, b7, b8, b9, b10, b11, b12⟩ := m'
 simp [yaR, and_assoc]
set_option maxHeartbeats 4000000 in
theorem ypA {w : World} {m m' : PMail} {s f p s' f' p' : Sl} (h : MailAt w m s f p) (h' : MailAt w m' s' f' p') (hl : m.calls.length ≤ 1000000) :
  Calls pP 14 #[m.v s f p, m'.v s' f' p'] w fun e w' => e = .returned (.bool (decide (m = m'))) ∧ Mod [] w w' := by
 refine yaP (yF8 ?_)
 intro b1 f1 b2 f2 w3 A3 h31
 have nd : b1 ≠ b2 := by have := A3.nd; simp at this; exact fun h => this h.symm
 have s3 := A3.mod.size
 have l1 := A3.lt b1 (by simp)
 have l2 := A3.lt b2 (by simp)
 refine (yqD b1 w3).mono ?_
 rintro _ w4 ⟨rfl, M4⟩
 refine ⟨_, _, _, _, _, _, _, _, _, _, rfl, yaE.of0 M4, _, _, _, _, _, _, _, _, _, _, _, _, _, _, _, _, _, _, _, _, _, _, _, M4.keep0 h31, ?_⟩
 intro w5 A5 h51 h52
 refine (yqD b2 w5).mono ?_
 rintro _ w6 ⟨rfl, M6⟩
 refine ⟨_, _, _, _, _, _, _, _, _, _, rfl, _, _, _, _, _, _, _, _, _, _, _, _, _, _, _, _, _, _, _, _, _, _, _, M6.keep0 h51, _, _, _, _, _, _, _, _, _, _, _, _, _, _, _, _, _, _, _, _, _, _, _, M6.keep0 h52, ?_⟩
 intro b3 f3 b4 f4 w7 A7 h71 h72 h73 h74
 have N7 : Mod [] w w7 := (((A3.mod.go0 M4 (by simp)).go0 A5.mod (by simp)).go0 M6 (by simp)).go0 A7.mod (by simp)
 have no : ∀ {w'}, m ≠ m' → Mod [] w w' → (Value.bool false = Value.bool (decide (m = m')) ∧ Mod [] w w') := fun hn M => ⟨congrArg Value.bool (decide_eq_false hn).symm, M⟩
 refine yw1 (fun mm x w' => ∃ k : Nat, x = k ∧ k ≤ 10 ∧ (yaR m).take k = (yaR m').take k ∧ Mod [] w7 w' ∧ mm = 10 - k) 10 ⟨0, rfl, by omega, by simp, Mod.refl _, rfl⟩ ?_
 rintro mm x w8 ⟨k, rfl, hk, ht, M8, rfl⟩ h81 h82 h83 h84
 have N8 := N7.go0 M8 (by simp)
 refine yaC (fun hlt => ?_) fun hge => ?_
 ·have hk : k < 10 := by omega
  obtain ⟨x, hx⟩ : ∃ x, (yaR m)[k]? = some x := ⟨_, List.getElem?_eq_getElem (by simpa [yaR] using hk)⟩
  obtain ⟨y, hy⟩ : ∃ y, (yaR m')[k]? = some y := ⟨_, List.getElem?_eq_getElem (by simpa [yaR] using hk)⟩
  refine ⟨by omega, by omega, yeU (yKV h83 hk) (yi2 (yaF (yeJ (s := s) (f := f) (p := p) h81 hx) ⟨by omega, by omega, yeU (yKV h84 hk) (yi2 (yaF (yeJ (s := s') (f := f') (p := p') h82 hy) ?_))⟩))⟩
  refine yaB (fun g => fun w9 A9 _ _ _ _ => no (fun e => ?_) (N8.go0 A9.mod (by simp))) fun g => fun w9 A9 _ _ _ _ => ?_
  ·subst e
   rw [hx] at hy
   have := Option.some.inj hy
   simp [this] at g
  ·have g : x = y := by simpa using g
   subst g
   exact yw0 (10 - (k + 1)) (by omega) ⟨k + 1, by rw [yaH (by omega) (by omega)]; omega, by omega, ycB ht hx hy, M8.go0 A9.mod (by simp), rfl⟩
 ·have hk : k = 10 := by omega
  subst hk
  rw [List.take_of_length_le (by simp [yaR]), List.take_of_length_le (by simp [yaR])] at ht
  obtain ⟨la, hA, gA, eA⟩ := h.calls
  obtain ⟨lb, hB, gB, eB⟩ := h'.calls
  have hll : la.length ≤ 1000000 := by have := congrArg List.length eA; simp at this; omega
  refine (yCU (s := s) (t := s') (la := la) (lb := lb) ⟨hA.keep0 N8, fun q hq => (gA q hq).keep0 N8⟩ ⟨hB.keep0 N8, fun q hq => (gB q hq).keep0 N8⟩ hll).mono ?_
  rw [eA, eB]
  rintro _ w9 ⟨rfl, M9⟩
  have N9 := N8.go0 M9 (by simp)
  refine ⟨_, rfl, _, _, _, _, _, _, _, _, _, _, _, _, _, _, _, _, _, _, _, _, _, _, _, M9.keep0 h81, _, _, _, _, _, _, _, _, _, _, _, _, _, _, _, _, _, _, _, _, _, _, _, M9.keep0 h82, _, _, _, _, _, _, _, _, _, _, M9.keep0 h83, _, _, _, _, _, _, _, _, _, _, M9.keep0 h84, ?_⟩
  refine yaB (fun g => ?_) fun g => no (fun e => by simp [e] at g) N9
  have g : m.calls = m'.calls := by simpa using g
  refine (yCs (h.rep.keep0 N9) (h'.rep.keep0 N9)).mono ?_
  rintro _ w10 ⟨rfl, M10⟩
  refine ⟨_, rfl, _, _, _, _, _, _, _, _, _, _, _, _, _, _, _, _, _, _, _, _, _, _, _, M10.keep0 (M9.keep0 h81), _, _, _, _, _, _, _, _, _, _, _, _, _, _, _, _, _, _, _, _, _, _, _, M10.keep0 (M9.keep0 h82), _, _, _, _, _, _, _, _, _, _, M10.keep0 (M9.keep0 h83), _, _, _, _, _, _, _, _, _, _, M10.keep0 (M9.keep0 h84), ?_, N9.go0 M10 (by simp)⟩
  congr 1
  apply Bool.eq_iff_iff.2
  simp [yGm, ht, g]
def ykP : PMail := ⟨4, 0, 1, 2, 0, 0, 5, 0, 0, 0, [], ye1⟩
theorem yxE {x y : PMail} (hx : ybT x = 0) (hy : ybT y = 0) {r : List UInt8} (hr : r ≠ []) : bs (ydG (bs (ybL x)) ++ r) ≠ yeL y := fun h => by
 have h := yj1 h
 obtain ⟨_, l1⟩ := ycI hx
 obtain ⟨_, l2⟩ := ycI hy
 have c1 := ylM (lim := 1048576) (bs (ybL x)) r (by rw [yaD]; omega) (by rw [yaD]; omega)
 have c2 := ylM (lim := 1048576) (bs (ybL y)) [] (by rw [yaD]; omega) (by rw [yaD]; omega)
 rw [List.append_nil] at c2
 rw [h, c2] at c1
 simp only [Option.some.injEq, Prod.mk.injEq] at c1
 have e := yj1 c1.1
 rw [e] at h
 have := congrArg List.length h
 rw [List.length_append] at this
 exact hr (List.eq_nil_of_length_eq_zero (by omega))
theorem yxF {m : PMail} (hn : (yaR m).all num = true) (hk : 0 ≤ m.kind ∧ m.kind < 12) (hc : m.calls = []) (hr : m.r = ye1) : ybT m = 0 ∧ (ybL m).length ≤ 100000 := by
 have ht : yb8 m.calls = 0 := by rw [hc]; decide
 have hre : yfR m.r = 0 := by rw [hr]; decide
 have hE : yb5 m = 0 := by
  rw [yb5, if_neg (by omega), if_neg (by rw [hn]; decide), if_neg (by simpa using ht), hre]
 have l1 := yeN hn 10
 rw [List.take_of_length_le (by rw [yg8]; omega)] at l1
 have l2 : (ybK m.calls).length ≤ 10 := by
  rw [hc]
  have := (yaL 0 (by omega)).2
  simpa [ybK] using this
 have l3 : (ydK m.r).length ≤ 60000 := (RepGood.of hre).len3 m.r.parts.length
 have p2 := (yaW (bs (ybK m.calls)) (by rw [yaD]; omega)).2
 have p3 := (yaW (bs (ydK m.r)) (by rw [yaD]; omega)).2
 rw [yaD] at p2 p3
 have hl : (ybL m).length ≤ 100000 := by unfold ybL; rw [List.length_append, List.length_append]; omega
 exact ⟨by rw [ybT, if_neg (by simpa using hE), if_neg (by omega)], hl⟩
theorem yxG {m : PMail} (hl : (ybL m).length ≤ 1048576) : (yeL m).size ≤ (ybL m).length + 14 := by
 unfold yeL
 rw [yaD, yhK]
 have := (yaW (bs (ybL m)) (by rw [yaD]; omega)).2
 rw [yaD] at this; omega
theorem yvA (w : World) (m : PMail) (hc : m.calls = []) (hr : m.r = ye1) : MailAt w m ybY ybY ybY :=
 ⟨by rw [hc]; exact ⟨[], (Row.nil w 0 51 16 CV.cs).sl CV.cs_len, by simp, rfl⟩, by rw [hr]; exact ⟨(Row.nil w 0 55 5 yiM).sl yiW, (Row.nil w 0 43 2 yjW).sl yiX, by simp [ye1], by simp [ye1]⟩⟩
set_option maxHeartbeats 4000000 in
theorem yxH (w : World) : Calls pP 16 #[] w fun e w' => e = .returned (.bool true) ∧ Mod [] w w' := by
 refine yaP (yGa ?_)
 obtain ⟨hE, hL⟩ := yxF (m := ykP) (by decide) (by decide) rfl rfl
 have hsz := yxG (m := ykP) (by omega)
 have cat : ∀ w', MailAt w' ykP ybY ybY ybY := fun w' => yvA w' ykP rfl rfl
 intro b1 f1 w2 A2
 refine (yo6 (cat w2) (by simp [ykP])).mono ?_
 rintro _ w3 ⟨rfl, M3⟩
 refine ⟨_, _, rfl, yaE.of0 M3, ?_⟩
 rw [hE, if_pos rfl]
 have N3 := A2.mod.go0 M3 (by simp)
 refine (yBQ (s := yeL ykP) (by omega) w3).mono ?_
 rintro _ w4 ⟨v, rfl, hv, M4⟩
 have hv : ∃ s1 f1 p1 : Sl, v = .tuple #[ykP.v s1 f1 p1, .int .i64 0] ∧ MailOwn w4 w3.heap.size ykP s1 f1 p1 := by
  rcases hv with ⟨m, s1, f1, p1, h1, h2, rfl, h3, _⟩ | ⟨h, _⟩
  ·have he : ykP = m := by
    have hm := yBG hE h1 h2
    have X : yfC (bs (ybL ykP)) ykP := ⟨hE, yd9 _⟩
    have Y : yfC (bs (ybL ykP)) m := ⟨h1, by rw [yd9, hm]⟩
    exact yw8 X Y
   subst he
   exact ⟨s1, f1, p1, rfl, h3⟩
  ·exact absurd rfl (h ykP hE)
 obtain ⟨s4, f4, p4, rfl, O4⟩ := hv
 refine ⟨_, _, _, _, _, _, _, _, _, _, _, _, _, _, _, _, _, _, _, _, _, _, _, _, rfl, yaE.of0 M4, ?_⟩
 have N4 := N3.go0 M4 (by simp)
 intro b5 f5
 refine ⟨by show (yeL ykP).size + 1 ≤ _; omega, ?_⟩
 intro w6 A6
 have ex : yeL ykP ++ (⟨#[120]⟩ : ByteArray) = bs (ydG (bs (ybL ykP)) ++ [120]) := by
  rw [yeL, ← ya9]; rfl
 refine (yBQ (s := yeL ykP ++ (⟨#[120]⟩ : ByteArray)) (by rw [ByteArray.size_append]; show _ + 1 ≤ _; omega) w6).mono ?_
 rintro _ w7 ⟨v, rfl, hv, M7⟩
 have hv : v = .tuple #[ynN.v ybY ybY ybY, .int .i64 180] := by
  rcases hv with ⟨m, s1, f1, p1, h1, h2, _⟩ | ⟨_, h⟩
  ·rw [ex] at h2
   exact absurd h2 (yxE hE h1 (by simp))
  ·exact h
 subst hv
 refine ⟨_, _, _, _, _, _, _, _, _, _, _, _, _, _, _, _, _, _, _, _, _, _, _, _, rfl, yaE.of0 M7, ?_⟩
 have N7 := (N4.go0 A6.mod (by simp)).go0 M7 (by simp)
 intro b8 f8 w8 A8
 have hbad : ybT (⟨12, 0, 0, 0, 0, 0, 0, 0, 0, 0, [], ye1⟩ : PMail) = 180 := by
  have : yb5 (⟨12, 0, 0, 0, 0, 0, 0, 0, 0, 0, [], ye1⟩ : PMail) = 180 := by rw [yb5, if_pos (.inr (by decide))]
  rw [ybT, if_pos (by rw [this]; decide), this]
 refine (yo6 (yvA w8 ⟨12, 0, 0, 0, 0, 0, 0, 0, 0, 0, [], ye1⟩ rfl rfl) (by simp)).mono ?_
 rintro _ w9 ⟨rfl, M9⟩
 refine ⟨_, _, rfl, yaE.of0 M9, ?_⟩
 rw [hbad]
 have N9 := (N7.go0 A8.mod (by simp)).go0 M9 (by simp)
 refine (yxD (cat w9) rfl).mono ?_
 rintro _ w10 ⟨rfl, M10⟩
 refine ⟨_, _, rfl, yaE.of0 M10, ?_⟩
 rw [hE, if_pos rfl]
 refine (yIX (cat w10) (by simp [ykP])).mono ?_
 rintro _ w11 ⟨_, rfl, s11, f11, p11, rfl, O11, M11⟩
 refine ⟨_, _, _, _, _, _, _, _, _, _, _, _, _, _, _, _, _, _, _, _, _, _, _, rfl, yaE.of0 M11, ?_⟩
 have N11 := (N9.go0 M10 (by simp)).go0 M11 (by simp)
 intro b12 f12
 refine brT rfl (brT (by rw [yf2]; simp) (brT rfl (brT rfl ?_)))
 intro w12 A12
 have K12 : Mod [] w4 w12 := (((((((A6.mod.trans M7).trans A8.mod).trans M9).trans M10).trans M11).trans A12.mod).less (by simp))
 have O12 := O4.keep0 K12
 refine (yi5 (cat w12) O12.at (by simp [ykP])).mono ?_
 rintro _ w13 ⟨rfl, M13⟩
 refine ⟨_, rfl, yaE.of0 M13, brT (by simp) (brT rfl (brT rfl ?_))⟩
 refine (ypA (cat w13) (O12.keep0 M13).at (by simp [ykP])).mono ?_
 rintro _ w14 ⟨rfl, M14⟩
 refine ⟨_, rfl, yaE.of0 M14, brT (by simp) ?_⟩
 refine (ypA (cat w14) (yvA w14 ynN rfl rfl) (by simp [ykP])).mono ?_
 rintro _ w15 ⟨rfl, M15⟩
 refine ⟨_, rfl, yaE.of0 M15, brT (by simp [ykP, ynN]) ?_⟩
 have O15 := (((O11.keep0 A12.mod).keep0 M13).keep0 M14).keep0 M15
 refine (yi5 O15.at (cat w15) (by simp [ykP])).mono ?_
 rintro _ w16 ⟨rfl, M16⟩
 refine ⟨_, rfl, yaE.of0 M16, brT (by simp) ?_⟩
 have hneg : yb5 (⟨0, 0, 0, -1, 0, 0, 0, 0, 0, 0, [], ye1⟩ : PMail) = 1 := by
  rw [yb5, if_neg (by decide), if_pos (by decide)]
 refine (ygM ((yvA w16 ⟨0, 0, 0, -1, 0, 0, 0, 0, 0, 0, [], ye1⟩ rfl rfl).w (by simp))).mono ?_
 rintro _ w17 ⟨rfl, M17⟩
 refine ⟨_, rfl, yaE.of0 M17, ?_, ?_⟩
 ·rw [hneg]; rfl
 ·exact (((((N11.go0 A12.mod (by simp)).go0 M13 (by simp)).go0 M14 (by simp)).go0 M15 (by simp)).go0 M16 (by simp)).go0 M17 (by simp)
theorem yKn {w0 w : World} (N : Mod [] w0 w) {bs : List Nat} : Calls pP 16 #[] w fun e w' => ∃ t : Bool, e = .returned (.bool t) ∧ yaE bs w w' ∧ (Value.bool t = .bool true ∧ Mod [] w0 w') := by
 refine (yxH w).mono ?_
 rintro _ w1 ⟨rfl, M1⟩
 exact ⟨_, rfl, yaE.of0 M1, rfl, N.go0 M1 (by simp)⟩
theorem yGn (m : PMail) : (yB2 m).calls.length ≤ 12 := by
 show ((m.calls.take 12).map yEG).length ≤ 12
 rw [List.length_map, List.length_take]; omega
set_option maxHeartbeats 4000000 in
theorem yBW {m n : PMail} {s f p s' f' p' : Sl} (w : World) (h : MailRd w m s f p) (h' : MailRd w n s' f' p') :
  Calls pP 3 #[m.v s f p, n.v s' f' p'] w fun e w' => e = .returned (.bool true) ∧ Mod [] w w' := by
 refine yaP (yGb ?_)
 intro b1 f1 b2 f2 w3 A3
 have s3 := A3.mod.size
 have l1 := A3.lt b1 (by simp)
 have l2 := A3.lt b2 (by simp)
 refine (ysY (h.keep0 A3.mod)).mono ?_
 rintro _ w4 ⟨_, rfl, sa, fa, pa, rfl, hA, M4⟩
 have s4 := M4.size
 refine ⟨_, _, _, _, _, _, _, _, _, _, _, _, _, _, _, _, _, _, _, _, _, _, _, rfl, yaE.of0 M4, ?_⟩
 intro w5 A5
 have s5 := A5.mod.size
 have hA5 := hA.keepB A5.mod (by simp; omega)
 have N5 : Mod [] w w5 := (A3.mod.go0 M4 (by simp)).go0 A5.mod (by simpa using f1)
 refine (ysY (h'.keep0 N5)).mono ?_
 rintro _ w6 ⟨_, rfl, sb, fb, pb, rfl, hB, M6⟩
 have s6 := M6.size
 refine ⟨_, _, _, _, _, _, _, _, _, _, _, _, _, _, _, _, _, _, _, _, _, _, _, rfl, yaE.of0 M6, ?_⟩
 intro w7 A7
 have s7 := A7.mod.size
 have hB7 := hB.keepB A7.mod (by simp; omega)
 have hA7 := (hA5.keep0 M6).keepB A7.mod (by simp; omega)
 have N7 : Mod [] w w7 := (N5.go0 M6 (by simp)).go0 A7.mod (by simpa using f2)
 refine (ysY (yJL hA7)).mono ?_
 rintro _ w8 ⟨_, rfl, sc, fc, pc, rfl, hC, M8⟩
 rw [yDj] at hC ⊢
 refine ⟨_, _, _, _, _, _, _, _, _, _, _, _, _, _, _, _, _, _, _, _, _, _, _, rfl, yaE.of0 M8, ?_⟩
 intro b9 f9 w9 A9
 have la := yGn m
 have K9 : Mod [] w7 w9 := M8.go0 A9.mod (by simp)
 have N9 := N7.go0 K9 (by simp)
 have hA9 := (hA7.keep0 K9)
 have hB9 := (hB7.keep0 K9)
 have hC9 := hC.keep0 A9.mod
 refine (yo6 hA9.at (by omega)).mono ?_
 rintro _ w10 ⟨rfl, M10⟩
 refine ⟨_, _, rfl, yaE.of0 M10, ?_⟩
 refine (yBP (hA9.keep0 M10).at (by omega)).mono ?_
 rintro _ w11 ⟨rfl, M11⟩
 refine ⟨_, _, rfl, yaE.of0 M11, brT (by rw [yf2]; simp) (brT (by simp) ?_)⟩
 intro w12 A12
 have K12 : Mod [] w9 w12 := (M10.go0 M11 (by simp)).go0 A12.mod (by simp)
 have N12 := N9.go0 K12 (by simp)
 refine (ygM ((hA9.keep0 K12).at.w (by omega))).mono ?_
 rintro _ w13 ⟨rfl, M13⟩
 refine ⟨_, rfl, yaE.of0 M13, rfl, ?_⟩
 have K13 := K12.go0 M13 (by simp)
 refine (ykJ (hA9.keep0 K13).at (by omega)).mono ?_
 rintro _ w14 ⟨rfl, M14⟩
 refine ⟨_, rfl, yaE.of0 M14, brT (by simp) ?_⟩
 have K14 := K13.go0 M14 (by simp)
 refine (ypA (hA9.keep0 K14).at (hB9.keep0 K14).at (by omega)).mono ?_
 rintro _ w15 ⟨rfl, M15⟩
 refine ⟨_, rfl, yaE.of0 M15, rfl, rfl, ?_⟩
 have K15 := K14.go0 M15 (by simp)
 refine (yi5 (hA9.keep0 K15).at (hB9.keep0 K15).at (by omega)).mono ?_
 rintro _ w16 ⟨rfl, M16⟩
 refine ⟨_, rfl, yaE.of0 M16, brT (by simp) ?_⟩
 have K16 := K15.go0 M16 (by simp)
 refine (yi5 (hA9.keep0 K16).at (hC9.keep0 K16).at (by omega)).mono ?_
 rintro _ w17 ⟨rfl, M17⟩
 exact ⟨_, rfl, yaE.of0 M17, brT (by simp) (yKn ((N9.go0 K16 (by simp)).go0 M17 (by simp)))⟩
end Go.Proofs.YtkbcmppbjfpjmaaGreat
namespace Go.Proofs.YtkbcmppbjfpjmaaGreat.messagePuts
open Go.ChangeShapes Go.WideShapes Go.ChangeAt Go.RowKit
open Go.ChangeMaps (open_string shut_string)
set_option linter.unusedVariables false
theorem own : ownKnob Tryz.prog.godebug = none := by kernel_rfl
theorem laidOut : laidOutB Tryz.prog = true := by kernel_rfl
set_option maxRecDepth 100000 in
theorem lifted (os : Os) (started : os.Started) (H : Type) (enc : TypeId × Value → H) :
    ReturnsInHanded {} Tryz.checked os 3 .any (Rows.messagePutsSpec.pre6 enc Tryz.prog Tryz.f3 Rows.messagePutsRow.domain false) (Rows.messagePutsSpec.post enc Tryz.prog Tryz.f3 false true false false) := by
  refine returnsInHanded_of_change (C := Tryz.checked) own started (by kernel_rfl) Tryz.func3
    (ChangeSpec.witness6 (enc := enc) (C := Tryz.checked) false ⟨#[], #[.agg #[.int .i64 0, .int .i64 0, .int .i64 0, .int .i64 0, .int .i64 0, .int .i64 0, .int .i64 0, .int .i64 0, .int .i64 0, .int .i64 0, .slice none 0 0, .int .i64 0, .int .i64 0, .int .i64 0, .int .i64 0, .slice none 0 0, .slice none 0 0], .agg #[.int .i64 0, .int .i64 0, .int .i64 0, .int .i64 0, .int .i64 0, .int .i64 0, .int .i64 0, .int .i64 0, .int .i64 0, .int .i64 0, .slice none 0 0, .int .i64 0, .int .i64 0, .int .i64 0, .int .i64 0, .slice none 0 0, .slice none 0 0]], []⟩ 8 (by kernel_rfl) (by kernel_rfl) (by kernel_rfl) (by kernel_rfl)) ?_
  intro W base args ds gs before hval0 hW hcnd _
  have hval : ∀ (j : Nat) t v, Tryz.f3.params[j]? = some t → args[j]? = some v → Value.okWide Tryz.prog W .any base t v := hval0
  have hW' := hW
  obtain ⟨p, q, hA0, hV, rfl, hfz, hnd⟩ := hW
  have hA : DataW.TrodAll enc Tryz.prog W 0 (fun _ => true) true Tryz.f3.params.toList args.toList ds p := hA0
  rw [Tryz.params3] at hA hval
  obtain ⟨v0, vs0, d0, ds0, p0, q0, hargs, rfl, rfl, h0, r0⟩ := trodAll_cons hA
  obtain ⟨v1, vs1, d1, ds1, p1, q1, rfl, rfl, rfl, h1, r1⟩ := trodAll_cons r0
  obtain ⟨rfl, rfl, rfl⟩ := trodAll_nil r1
  obtain rfl : args = #[v0, v1] := by cases args; simp_all
  obtain ⟨rfl, rfl⟩ := trodVars_none hV
  have k0 := h0
  have lt0 : ∀ x ∈ p0, x.block < W.heap.size := by obtain ⟨m, hm⟩ := k0; exact DataW.trod_lt m _ _ _ hm
  have k1 := h1
  have lt1 : ∀ x ∈ p1, x.block < W.heap.size := by obtain ⟨m, hm⟩ := k1; exact DataW.trod_lt m _ _ _ hm
  obtain ⟨cs0, rfl, sz0⟩ := okWide_struct Tryz.underlying29 (hval 0 29 v0 rfl rfl)
  obtain ⟨fuel0, hf0⟩ := h0
  obtain ⟨x0, ex0, g0⟩ := yu2 W _ (yBk hf0) (by simpa [Value.cells] using sz0)
  simp only [Value.cells] at ex0
  have hx0 : cs0 = (MR.cs x0).toArray := by rw [← ex0]
  subst hx0
  obtain ⟨cs1, rfl, sz1⟩ := okWide_struct Tryz.underlying29 (hval 1 29 v1 rfl rfl)
  obtain ⟨fuel1, hf1⟩ := h1
  obtain ⟨x1, ex1, g1⟩ := yu2 W _ (yBk hf1) (by simpa [Value.cells] using sz1)
  simp only [Value.cells] at ex1
  have hx1 : cs1 = (MR.cs x1).toArray := by rw [← ex1]
  subst hx1
  clear hA0 hval0
  refine (yBW (m := x0.m) (s := x0.s) (f := x0.f) (p := x0.p) (n := x1.m) (s' := x1.s) (f' := x1.f) (p' := x1.p) W g0 g1).mono fun e W' ⟨he, hM⟩ => ?_
  have bel : Below W.heap.size W W' := hM.below (by simp)
  subst he
  exact ⟨_, rfl, _, _, _, [], _, [], hW', trodAll_mk1 (shut_bool Tryz.underlying4 _), (trodAll_cons_mk (Below.trod laidOut (by kernel_rfl) (of_decide_eq_true (by kernel_rfl)) k0 bel lt0) (trodAll_cons_mk (Below.trod laidOut (by kernel_rfl) (of_decide_eq_true (by kernel_rfl)) k1 bel lt1) trodAll_mk0)), rfl, bel.frame _, fun h => by cases h⟩
theorem over : Rows.messagePutsRow.holds Tryz.pinned (OpenSpec.ofChange Rows.messagePutsSpec) :=
  OpenClaim.holds_of_wide 3 Tryz.f3 rfl rfl rfl rfl rfl rfl rfl ⟨rfl, rfl, rfl, rfl, rfl⟩ rfl rfl rfl rfl rfl (by kernel_rfl) Tryz.func3 (by kernel_rfl)
    (of_decide_eq_true (by kernel_rfl)) (by unfold Func.isWrapper; first | (rw [if_pos (by decide +kernel)]; kernel_rfl) | (rw [if_neg (by decide +kernel)]; exact ⟨rfl, rfl⟩))
    (fun os started H enc _ => lifted os started H enc)
theorem proved : Rows.MessagePutsSaid := over
#print axioms proved
end Go.Proofs.YtkbcmppbjfpjmaaGreat.messagePuts
