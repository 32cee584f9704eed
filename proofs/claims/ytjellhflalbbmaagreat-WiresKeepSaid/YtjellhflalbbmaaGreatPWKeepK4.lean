/- Part 4 of the proof of PWKeep. -/
import Derived.Test.YtjellhflalbbmaaGreatPWKeepK3
namespace Go.Proofs.YtjellhflalbbmaaGreat
open Go Go.RowKit
set_option linter.all false
theorem ywG {w : World} {a1 a2 : Option Addr} {n1 c1 n2 c2 : Nat} {l1 l2 : List ByteArray} (h1 : yb2 w 1 yi3 a1 n1 l1) (h2 : yb2 w 1 yi3 a2 n2 l2) (hl : l1.length ≤ 1000000) :
  Calls pP 90 #[.slice a1 n1 c1, .slice a2 n2 c2] w fun e w' => e = .returned (.bool (decide (l1 = l2))) ∧ Mod [] w w' := by
 refine yaS (yDf ?_)
 have e1 := h1.1
 have e2 := h2.1
 refine yaB (fun h => ⟨congrArg Value.bool (decide_eq_false fun e => ?_).symm, Mod.refl _⟩) fun h => ?_
 ·subst e
  rw [e1, e2] at h
  simp at h
 have hlen : l1.length = l2.length := by
  simp at h
  omega
 refine yu3 (fun mm x w' => ∃ k : Nat, x = k ∧ k ≤ l1.length ∧ l1.take k = l2.take k ∧ Mod [] w w' ∧ mm = l1.length - k) l1.length ⟨0, rfl, by omega, by simp, Mod.refl _, rfl⟩ ?_
 rintro mm x w1 ⟨k, rfl, hk, ht, M, rfl⟩
 refine yaC (fun hlt => ?_) fun hge => ?_
 ·have g1 : k < l1.length := by omega
  have g2 : k < l2.length := by omega
  obtain ⟨x, hx⟩ : ∃ x, l1[k]? = some x := ⟨_, List.getElem?_eq_getElem g1⟩
  obtain ⟨y, hy⟩ : ∃ y, l2[k]? = some y := ⟨_, List.getElem?_eq_getElem g2⟩
  refine (h1.keep0 M).ix hx fun q hq => yaI (by simpa [add_zero] using hq 0 _ rfl) ?_
  refine (h2.keep0 M).ix hy fun q hq => yaI (by simpa [add_zero] using hq 0 _ rfl) ?_
  rw [ygE x y]
  refine yaB (fun hne => ?_) fun heq => ?_
  rotate_left
  rotate_right
  ·intro w2 A2
   refine ⟨congrArg Value.bool (decide_eq_false fun e => (show ¬ x = y by simpa using hne) ?_).symm, M.go0 A2.mod (by simp)⟩
   subst e
   rw [hx] at hy
   exact Option.some.inj hy
  ·intro w2 A2
   have he : x = y := by simpa using heq
   subst he
   exact yu2 (l1.length - (k + 1)) (by omega) ⟨k + 1, by rw [yaF (by omega) (by omega)]; omega, by omega, yc6 ht hx hy, M.go0 A2.mod (by simp), rfl⟩
 ·have hk : k = l1.length := by omega
  subst hk
  rw [List.take_length, hlen, List.take_length] at ht
  exact ⟨congrArg Value.bool (decide_eq_true ht).symm, M⟩
theorem yo6 {w : World} {a1 a2 : Option Addr} {n1 c1 n2 c2 : Nat} {l1 l2 : List PRec} (h1 : yb2 w 4 ye5 a1 n1 l1) (h2 : yb2 w 4 ye5 a2 n2 l2) (hl : l1.length ≤ 1000000) :
  Calls pP 128 #[.slice a1 n1 c1, .slice a2 n2 c2] w fun e w' => e = .returned (.bool (decide (l1 = l2))) ∧ Mod [] w w' := by
 refine yaS (yDb ?_)
 have e1 := h1.1
 have e2 := h2.1
 refine yaB (fun h => ⟨congrArg Value.bool (decide_eq_false fun e => ?_).symm, Mod.refl _⟩) fun h => ?_
 ·subst e
  rw [e1, e2] at h
  simp at h
 have hlen : l1.length = l2.length := by
  simp at h
  omega
 refine yu1 (fun mm x w' => ∃ k : Nat, x = k ∧ k ≤ l1.length ∧ l1.take k = l2.take k ∧ Mod [] w w' ∧ mm = l1.length - k) l1.length ⟨0, rfl, by omega, by simp, Mod.refl _, rfl⟩ ?_
 rintro mm x w1 ⟨k, rfl, hk, ht, M, rfl⟩
 refine yaC (fun hlt => ?_) fun hge => ?_
 ·have g1 : k < l1.length := by omega
  have g2 : k < l2.length := by omega
  obtain ⟨x, hx⟩ : ∃ x, l1[k]? = some x := ⟨_, List.getElem?_eq_getElem g1⟩
  obtain ⟨y, hy⟩ : ∃ y, l2[k]? = some y := ⟨_, List.getElem?_eq_getElem g2⟩
  refine (h1.keep0 M).ix hx fun q hq => yaP (by simpa [add_zero] using hq 0 _ rfl) (yaI (hq 1 _ rfl) (yaP (hq 2 _ rfl) (yaI (hq 3 _ rfl) ?_)))
  refine (h2.keep0 M).ix hy fun q hq => yaP (by simpa [add_zero] using hq 0 _ rfl) (yaI (hq 1 _ rfl) (yaP (hq 2 _ rfl) (yaI (hq 3 _ rfl) ?_)))
  refine ⟨_, fun w' _ => neR x y _ _ w', ?_⟩
  refine yaC (fun hne => ?_) fun heq => ?_
  ·intro w2 A2
   refine ⟨congrArg Value.bool (decide_eq_false fun e => hne ?_).symm, M.go0 A2.mod (by simp)⟩
   subst e
   rw [hx] at hy
   exact Option.some.inj hy
  ·intro w2 A2
   have he : x = y := Decidable.not_not.1 heq
   subst he
   exact yu0 (l1.length - (k + 1)) (by omega) ⟨k + 1, by rw [yaF (by omega) (by omega)]; omega, by omega, yc6 ht hx hy, M.go0 A2.mod (by simp), rfl⟩
 ·have hk : k = l1.length := by omega
  subst hk
  rw [List.take_length, hlen, List.take_length] at ht
  exact ⟨congrArg Value.bool (decide_eq_true ht).symm, M⟩
theorem ywH {w : World} {x y : PBatch} {s t : Sl} (h1 : yb2 w 4 ye5 s.a s.n x.recs) (h2 : yb2 w 4 ye5 t.a t.n y.recs) (hl : x.recs.length ≤ 1000000) :
  Calls pP 89 #[x.v s, y.v t] w fun e w' => e = .returned (.bool (decide (x = y))) ∧ Mod [] w w' := by
 obtain ⟨a1, a2, a3, a4⟩ := x
 obtain ⟨b1, b2, b3, b4⟩ := y
 refine yaS (yDc ?_)
 intro c1 f1 c2 f2
 simp only [PBatch.mk.injEq]
 refine yaB (fun g1 => ?_) fun g1 => ?_
 ·have g1 : a1 = b1 := by simpa using g1
  refine yaB (fun g2 => ?_) fun g2 => ?_
  ·have g2 : a2 = b2 := by simpa using g2
   refine yaB (fun g3 => ?_) fun g3 => ?_
   ·have g3 : a3 = b3 := by simpa using g3
    intro w1 A1
    refine (yo6 (h1.keep0 A1.mod) (h2.keep0 A1.mod) hl).mono ?_
    rintro e w2 ⟨rfl, M2⟩
    exact ⟨_, rfl, yaH.of0 M2, by simp [g1, g2, g3], A1.mod.go0 M2 (by simp)⟩
   ·intro w1 A1
    exact ⟨congrArg Value.bool (decide_eq_false (by simp at g3; rintro ⟨_, _, h, _⟩; exact g3 h)).symm, A1.mod⟩
  ·intro w1 A1
   exact ⟨congrArg Value.bool (decide_eq_false (by simp at g2; rintro ⟨_, h, _⟩; exact g2 h)).symm, A1.mod⟩
 ·intro w1 A1
  exact ⟨congrArg Value.bool (decide_eq_false (by simp at g1; rintro ⟨h, _⟩; exact g1 h)).symm, A1.mod⟩
theorem yo7 {w : World} {a : Addr} {o : POp} {rs ts : Sl} {F : Int → ByteArray → Int → Int → Int → Int → Int → Int → Option Addr → Nat → Nat → ByteArray → ByteArray → Int → Bool → Option Addr → Nat → Nat → Prop} (h : ∀ j v, (o.cs rs ts)[j]? = some v → w.cell? (a.add j) = some v) (hF : F o.kind o.part.t o.part.n o.n o.off o.b.prod o.b.epoch o.b.seq rs.a rs.n rs.c o.g o.m o.gen o.robin ts.a ts.n ts.c) :
  yaD .i64 w a fun x0 => yaY w (a.add 1) fun x1 => yaD .i64 w (a.add 2) fun x2 => yaD .i64 w (a.add 3) fun x3 => yaD .i64 w (a.add 4) fun x4 => yaD .i64 w (a.add 5) fun x5 => yaD .i64 w (a.add 6) fun x6 => yaD .i64 w (a.add 7) fun x7 => yaN w (a.add 8) fun a8 n8 c8 => yaY w (a.add 9) fun x9 => yaY w (a.add 10) fun x10 => yaD .i64 w (a.add 11) fun x11 => ya1 w (a.add 12) fun x12 => yaN w (a.add 13) fun a13 n13 c13 => F x0 x1 x2 x3 x4 x5 x6 x7 a8 n8 c8 x9 x10 x11 x12 a13 n13 c13 :=
 yaE (x := o.kind) (by simpa [add_zero] using h 0 _ rfl) (yaI (h 1 _ rfl) (yaE (h 2 _ rfl) (yaE (h 3 _ rfl) (yaE (h 4 _ rfl) (yaE (h 5 _ rfl) (yaE (h 6 _ rfl) (yaE (h 7 _ rfl) (ybD (h 8 _ rfl) (yaI (h 9 _ rfl) (yaI (h 10 _ rfl) (yaE (h 11 _ rfl) (yaP (h 12 _ rfl) (ybD (h 13 _ rfl) hF)))))))))))))
theorem yEJ {w : World} {x y : POp} {rs ts rs' ts' : Sl} (h1 : OpAt w x rs ts) (h2 : OpAt w y rs' ts') :
  Calls pP 60 #[x.v rs ts, y.v rs' ts'] w fun e w' => e = .returned (.bool (decide (x = y))) ∧ Mod [] w w' := by
 obtain ⟨k1, p1, n1, o1, b1, g1, m1, e1, r1, t1⟩ := x
 obtain ⟨k2, p2, n2, o2, b2, g2, m2, e2, r2, t2⟩ := y
 refine yaS (yDg ?_)
 intro c1 f1 c2 f2
 simp only [POp.mk.injEq]
 have no : ∀ {P : Prop} [Decidable P] {w' : World}, ¬ P → Mod [] w w' → (Value.bool false = Value.bool (decide P) ∧ Mod [] w w') := fun hn M => ⟨congrArg Value.bool (decide_eq_false hn).symm, M⟩
 refine yaB (fun q1 => ?_) fun q1 => ?_
 rotate_left
 ·intro w1 A1
  exact no (by simp at q1; rintro ⟨h, _⟩; exact q1 h) A1.mod
 have q1 : k1 = k2 := by simpa using q1
 intro w1 A1
 have M1 := A1.mod
 refine ⟨_, fun w' _ => yF9 p1 p2 _ _ w', yaB (fun q2 => ?_) fun q2 => no (by simp at q2; rintro ⟨_, h, _⟩; exact q2 h) M1⟩
 have q2 : p1 = p2 := by simpa using q2
 refine yaB (fun q3 => ?_) fun q3 => no (by simp at q3; rintro ⟨_, _, h, _⟩; exact q3 h) M1
 have q3 : n1 = n2 := by simpa using q3
 refine yaB (fun q4 => ?_) fun q4 => no (by simp at q4; rintro ⟨_, _, _, h, _⟩; exact q4 h) M1
 have q4 : o1 = o2 := by simpa using q4
 refine (ywH (x := b1) (y := b2) (s := rs) (t := rs') (h1.recs.keep0 M1) (h2.recs.keep0 M1) h1.lr).mono ?_
 rintro e w2 ⟨rfl, M2⟩
 have N2 := M1.go0 M2 (by simp)
 refine ⟨_, rfl, yaH.of0 M2, yaB (fun q9 => ?_) fun q9 => no (by simp at q9; rintro ⟨_, _, _, _, h, _⟩; exact q9 h) N2⟩
 have q9 : b1 = b2 := by simpa using q9
 rw [ygE, ygE]
 refine yaB (fun q5 => ?_) fun q5 => no (by simp at q5; rintro ⟨_, _, _, _, _, h, _⟩; exact q5 h) N2
 have q5 : g1 = g2 := by simpa using q5
 refine yaB (fun q6 => ?_) fun q6 => no (by simp at q6; rintro ⟨_, _, _, _, _, _, h, _⟩; exact q6 h) N2
 have q6 : m1 = m2 := by simpa using q6
 refine yaB (fun q7 => ?_) fun q7 => no (by simp at q7; rintro ⟨_, _, _, _, _, _, _, h, _⟩; exact q7 h) N2
 have q7 : e1 = e2 := by simpa using q7
 refine yaB (fun q8 => ?_) fun q8 => no (by simp at q8; rintro ⟨_, _, _, _, _, _, _, _, h, _⟩; exact q8 h) N2
 have q8 : r1 = r2 := by simpa using q8
 refine (ywG (h1.topics.keep0 N2) (h2.topics.keep0 N2) h1.lt).mono ?_
 rintro e w3 ⟨rfl, M3⟩
 exact ⟨_, rfl, yaH.of0 M3, by simp [q1, q2, q3, q4, q5, q6, q7, q8, q9], N2.go0 M3 (by simp)⟩
theorem ylJ {w : World} {q : CV} {a : Addr} (h : ∀ j v, q.cs[j]? = some v → w.cell? (a.add j) = some v) : ∀ j v, (q.x.op.cs q.rs q.ts)[j]? = some v → w.cell? ((a.add 2).add j) = some v := fun j v hv => by
 rw [yBb, Nat.add_comm 2 j]
 exact h (j + 2) v hv
theorem ywI {w : World} {s t : Sl} {xs ys : List PCall} (h : yeM w s xs) (h' : yeM w t ys) (hl : xs.length ≤ 1000000) :
  Calls pP 38 #[.slice s.a s.n s.c, .slice t.a t.n t.c] w fun e w' => e = .returned (.bool (decide (xs = ys))) ∧ Mod [] w w' := by
 obtain ⟨la, hA, gA, rfl⟩ := h
 obtain ⟨lb, hB, gB, rfl⟩ := h'
 have hl : la.length ≤ 1000000 := by simpa using hl
 have e1 := hA.1
 have e2 := hB.1
 refine yaS (yD3 ?_)
 refine yaB (fun g => ⟨congrArg Value.bool (decide_eq_false fun e => ?_).symm, Mod.refl _⟩) fun g => ?_
 ·have := congrArg List.length e
  simp at this g
  omega
 have g : la.length = lb.length := by simp at g; omega
 refine yvP (fun mm x w' => ∃ k : Nat, x = k ∧ k ≤ la.length ∧ (la.take k).map (·.x) = (lb.take k).map (·.x) ∧ Mod [] w w' ∧ mm = la.length - k) la.length ⟨0, rfl, by omega, by simp, Mod.refl _, rfl⟩ ?_
 rintro mm x w1 ⟨k, rfl, hk, ht, M1, rfl⟩
 refine yaC (fun hlt => ?_) fun hge => ?_
 ·have g1 : k < la.length := by omega
  have g2 : k < lb.length := by omega
  obtain ⟨x, hx⟩ : ∃ x, la[k]? = some x := ⟨_, List.getElem?_eq_getElem g1⟩
  obtain ⟨y, hy⟩ : ∃ y, lb[k]? = some y := ⟨_, List.getElem?_eq_getElem g2⟩
  have bad : ∀ {w'}, x.x ≠ y.x → Mod [] w w' → (Value.bool false = Value.bool (decide (la.map (·.x) = lb.map (·.x))) ∧ Mod [] w w') := fun {w'} hne M => by
   refine ⟨congrArg Value.bool (decide_eq_false fun e => hne ?_).symm, M⟩
   have := congrArg (fun l : List PCall => l[k]?) e
   simpa [hx, hy] using this
  refine (hA.keep0 M1).ixW hx fun q hq => ?_
  intro w2 A2
  have hq := hq w2 A2.mod
  have N2 := M1.go0 A2.mod (by simp)
  refine yaE (x := x.x.c) (by simpa [add_zero] using hq 0 _ rfl) ?_
  refine (hB.keep0 N2).ix hy fun q' hq' => yaE (x := y.x.c) (by simpa [add_zero] using hq' 0 _ rfl) ?_
  refine yaB (fun h1 => bad (fun e => by simp [e] at h1) N2) fun h1 => ?_
  have h1 : x.x.c = y.x.c := by simpa using h1
  refine (hA.keep0 N2).ix hx fun q hq => yaE (x := x.x.n) (hq 1 _ rfl) ?_
  refine (hB.keep0 N2).ix hy fun q' hq' => yaE (x := y.x.n) (hq' 1 _ rfl) ?_
  refine yaB (fun h2 => bad (fun e => by simp [e] at h2) N2) fun h2 => ?_
  have h2 : x.x.n = y.x.n := by simpa using h2
  refine (hA.keep0 N2).ix hx fun q hq => yo7 (ylJ hq) ?_
  refine (hB.keep0 N2).ix hy fun q' hq' => yo7 (ylJ hq') ?_
  refine (yEJ ((gA x (List.mem_of_getElem? hx)).keep0 N2) ((gB y (List.mem_of_getElem? hy)).keep0 N2)).mono ?_
  rintro e w3 ⟨rfl, M3⟩
  have N3 := N2.go0 M3 (by simp)
  refine ⟨_, rfl, yaB (fun h3 => bad (fun e => by simp [e] at h3) N3) fun h3 => ?_⟩
  have h3 : x.x.op = y.x.op := by simpa using h3
  have he : x.x = y.x := by
   obtain ⟨⟨a, b, c⟩, _, _⟩ := x
   obtain ⟨⟨a', b', c'⟩, _, _⟩ := y
   simp at h1 h2 h3 ⊢; exact ⟨h1, h2, h3⟩
  exact yvO (la.length - (k + 1)) (by omega) ⟨k + 1, by rw [yaF (by omega) (by omega)]; omega, by omega, by rw [List.take_add_one, List.take_add_one, hx, hy, List.map_append, List.map_append, ht]; simp [he], N3, rfl⟩
 ·have hk : k = la.length := by omega
  subst hk
  rw [List.take_length, g, List.take_length] at ht
  exact ⟨congrArg Value.bool (decide_eq_true ht).symm, M1⟩
theorem ywJ {w : World} (m : PMail) (s f p : Sl) : Calls pP 37 #[m.v s f p] w fun e w' => ∃ v, e = .returned v ∧ ∃ b, v = .slice (some ⟨b, 0, none⟩) 10 10 ∧ yb2 w' 1 (fun x : Int => [.int .i64 x]) (some ⟨b, 0, none⟩) 10 (yaX m) ∧ Mod [] w w' := by
 refine yDX ?_
 intro b1 f1 w2 A2
 refine ycS fun b w1 c1 M1 f1 => ?_
 refine ⟨b, rfl, ⟨rfl, fun i x hx => ⟨_, rfl, fun j v hv => ?_⟩⟩, A2.mod.go0 M1 (by simp)⟩
 have hj : j = 0 := by have := (List.getElem?_eq_some_iff.1 hv).1; simp at this; omega
 subst hj
 simp at hv; subst hv
 rw [ya0, ya0, yaU c1]
 have hi := (List.getElem?_eq_some_iff.1 hx).1
 simp [yaX] at hi
 match i, hi, hx with
 | 0, _, hx | 1, _, hx | 2, _, hx | 3, _, hx | 4, _, hx | 5, _, hx | 6, _, hx | 7, _, hx | 8, _, hx | 9, _, hx => simp [yaX] at hx; subst hx; rfl
theorem yhL {w : World} {m m' : PMail} {s f p s' f' p' : Sl} (h : MailAt w m s f p) (h' : MailAt w m' s' f' p') (hl : m.calls.length ≤ 1000000) :
  Calls pP 14 #[m.v s f p, m'.v s' f' p'] w fun e w' => e = .returned (.bool (decide (m = m'))) ∧ Mod [] w w' := by
 refine yaS (yD0 ?_)
 intro b1 f1 b2 f2 w3 A3
 refine (ywJ m s f p).mono ?_
 rintro e w4 ⟨_, rfl, c4, rfl, h4, M4⟩
 refine ⟨_, _, _, rfl, yaH.of0 M4, rfl, ?_⟩
 refine (ywJ m' s' f' p').mono ?_
 rintro e w5 ⟨_, rfl, c5, rfl, h5, M5⟩
 refine ⟨_, _, _, rfl, yaH.of0 M5, ?_⟩
 have N5 := (A3.mod.go0 M4 (by simp)).go0 M5 (by simp)
 have h4 := h4.keep0 M5
 have hm : m = m' ↔ yaX m = yaX m' ∧ m.calls = m'.calls ∧ m.r = m'.r := by
  obtain ⟨a1, a2, a3, a4, a5, a6, a7, a8, a9, a10, a11, a12⟩ := m
  obtain ⟨b1, b2, b3, b4, b5, b6, b7, b8, b9, b10, b11, b12⟩ := m'
  simp [yaX, and_assoc]
 have no : ∀ {w'}, m ≠ m' → Mod [] w w' → (Value.bool false = Value.bool (decide (m = m')) ∧ Mod [] w w') := fun hn M => ⟨congrArg Value.bool (decide_eq_false hn).symm, M⟩
 refine yvN (fun mm x w' => ∃ k : Nat, x = k ∧ k ≤ 10 ∧ (yaX m).take k = (yaX m').take k ∧ Mod [] w5 w' ∧ mm = 10 - k) 10 ⟨0, rfl, by omega, by simp, Mod.refl _, rfl⟩ ?_
 rintro mm x w6 ⟨k, rfl, hk, ht, M6, rfl⟩
 have N6 := N5.go0 M6 (by simp)
 refine yaC (fun hlt => ?_) fun hge => ?_
 ·have hk : k < 10 := by omega
  obtain ⟨x, hx⟩ : ∃ x, (yaX m)[k]? = some x := ⟨_, List.getElem?_eq_getElem (by simpa [yaX] using hk)⟩
  obtain ⟨y, hy⟩ : ∃ y, (yaX m')[k]? = some y := ⟨_, List.getElem?_eq_getElem (by simpa [yaX] using hk)⟩
  refine (h4.keep0 M6).ix hx fun q hq => yaE (x := x) (by simpa [add_zero] using hq 0 _ rfl) ?_
  refine (h5.keep0 M6).ix hy fun q hq => yaE (x := y) (by simpa [add_zero] using hq 0 _ rfl) ?_
  refine yaB (fun g => fun w7 A7 => no (fun e => ?_) (N6.go0 A7.mod (by simp))) fun g => fun w7 A7 => ?_
  ·subst e
   rw [hx] at hy
   have := Option.some.inj hy
   simp [this] at g
  ·have g : x = y := by simpa using g
   subst g
   exact yvM (10 - (k + 1)) (by omega) ⟨k + 1, by rw [yaF (by omega) (by omega)]; omega, by omega, yc6 ht hx hy, M6.go0 A7.mod (by simp), rfl⟩
 ·have hk : k = 10 := by omega
  subst hk
  rw [List.take_of_length_le (by simp [yaX]), List.take_of_length_le (by simp [yaX])] at ht
  refine (ywI (s := s) (t := s') (h.calls.keep0 N6) (h'.calls.keep0 N6) hl).mono ?_
  rintro e w7 ⟨rfl, M7⟩
  have N7 := N6.go0 M7 (by simp)
  refine ⟨_, rfl, yaH.of0 M7, yaB (fun g => ?_) fun g => no (fun e => by simp [e] at g) N7⟩
  have g : m.calls = m'.calls := by simpa using g
  refine (yuC (h.rep.keep0 N7) (h'.rep.keep0 N7)).mono ?_
  rintro e w8 ⟨rfl, M8⟩
  refine ⟨_, rfl, yaH.of0 M8, ?_, N7.go0 M8 (by simp)⟩
  congr 1
  apply Bool.eq_iff_iff.2
  simp [hm, ht, g]
end Go.Proofs.YtjellhflalbbmaaGreat
namespace Go.Proofs.YtjellhflalbbmaaGreat
open Go Go.RowKit Go.ChangeShapes Go.WideShapes Go.ChangeAt
set_option linter.unusedVariables false
set_option linter.unusedSimpArgs false
def ykF : Option TypeDesc → Bool
 | some (.int _) | some .bool | some .string | some (.slice _) | some (.struct _) => true
 | _ => false
inductive OkT (P : Program) (w : World) : TypeId → List Value → Prop
 | int {t : TypeId} {k : IntKind} {x : Int} (h : P.underlying t = some (.int k)) (hw : (Lit.int k x).wf = true) : OkT P w t [.int k x]
 | bool {t : TypeId} {b : Bool} (h : P.underlying t = some .bool) : OkT P w t [.bool b]
 | string {t : TypeId} {s : ByteArray} (h : P.underlying t = some .string) (hs : s.size ≤ maxLen) : OkT P w t [.string s]
 | nilSlice {t e : TypeId} (h : P.underlying t = some (.slice e)) : OkT P w t [.slice none 0 0]
 | slice {t e : TypeId} {ad : Addr} {len cap : Nat} (rows : Nat → List Value) (h : P.underlying t = some (.slice e)) (hl : len ≤ cap) (hc : cap ≤ maxLen) (h1 : ∀ i, i < len → (rows i).length = P.cellsOf e)
  (h2 : ∀ i, i < len → ∀ j v, (rows i)[j]? = some v → w.cell? ((ad.add (i * P.cellsOf e)).add j) = some v) (h3 : ∀ i, i < len → OkT P w e (rows i)) : OkT P w t [.slice (some ad) len cap]
 | struct {t : TypeId} {fs : Array Field} {cs : List Value} (h : P.underlying t = some (.struct fs)) (hn : cs.length = P.cellsOf t) (hf : ∀ f ∈ fs.toList, OkT P w f.type ((cs.drop f.offset).take (P.cellsOf f.type))) : OkT P w t cs
 | other {t : TypeId} {cs : List Value} (h : ykF (P.underlying t) = false) : OkT P w t cs
theorem yiP {α β : Type} {f : α → Option β} : ∀ {l : List α} {r : List β}, l.mapM f = some r → ∀ a ∈ l, ∃ b, f a = some b
 | [], _, _, a, ha => by cases ha
 | x :: l, r, h, a, ha => by
  rw [List.mapM_cons] at h
  simp only [Option.pure_def, Option.bind_eq_bind, Option.bind_eq_some_iff] at h
  obtain ⟨b, hb, r', hr, _⟩ := h
  rcases List.mem_cons.1 ha with rfl | ha
  ·exact ⟨b, hb⟩
  ·exact yiP hr a ha
theorem yq9 {α β : Type} {f : α → Option β} : ∀ {l : List α} {r : List β}, l.mapM f = some r → ∀ (j : Nat) (b : β), r[j]? = some b → ∃ a, l[j]? = some a ∧ f a = some b
 | [], r, h, j, b, hb => by simp at h; subst h; simp at hb
 | x :: l, r, h, j, b, hb => by
  rw [List.mapM_cons] at h
  simp only [Option.pure_def, Option.bind_eq_bind, Option.bind_eq_some_iff, Option.some.injEq] at h
  obtain ⟨b', hb', r', hr, rfl⟩ := h
  cases j with
  | zero => simp at hb; subst hb; exact ⟨x, rfl, hb'⟩
  | succ j => obtain ⟨a, h1, h2⟩ := yq9 hr j b (by simpa using hb); exact ⟨a, by simpa using h1, h2⟩
theorem yrA {α β : Type} {f : α → Option β} : ∀ {l : List α} {r : List β}, l.mapM f = some r → r.length = l.length
 | [], r, h => by simp at h; subst h; rfl
 | x :: l, r, h => by
  rw [List.mapM_cons] at h
  simp only [Option.pure_def, Option.bind_eq_bind, Option.bind_eq_some_iff, Option.some.injEq] at h
  obtain ⟨b', hb', r', hr, rfl⟩ := h
  simp [yrA hr]
theorem ywK {w : World} {base n : Nat} {a : Addr} {row : List Value} (h : w.cells? base a n = some row) : row.length = n := by
 unfold World.cells? at h
 split at h
 ·simpa using yrA h
 ·cases h
theorem ywL {w : World} {base n : Nat} {a : Addr} {row : List Value} (h : w.cells? base a n = some row) : ∀ j v, row[j]? = some v → w.cell? (a.add j) = some v := by
 intro j v hv
 unfold World.cells? at h
 split at h
 ·obtain ⟨j', h1, h2⟩ := yq9 h j v hv
  obtain ⟨hj, rfl⟩ : j < n ∧ j = j' := by
   obtain ⟨x, y⟩ := List.getElem?_eq_some_iff.1 h1
   simp at x y; exact ⟨x, y⟩
  exact h2
 ·cases h
theorem yBH {H : Type} {enc : TypeId × Value → H} {P : Program} {w : World} {base : Nat} {sp : Nat → Bool} {held : Bool} : ∀ {fuel : Nat} {t : TypeId} {cs : List Value} {x : DataW H × List MemPlace}, DataW.trod enc P w base sp held fuel t cs = some x → OkT P w t cs := by
 intro fuel
 induction fuel with
 | zero => intro t cs x h; cases h
 | succ n ih =>
  intro t cs x h
  cases hu : P.underlying t with
  | none => exact .other (by rw [hu]; rfl)
  | some d =>
   cases d with
   | bool =>
     unfold DataW.trod at h
     rw [hu] at h
     split at h <;> simp_all
     exact .bool hu
   | int k =>
     unfold DataW.trod at h
     rw [hu] at h
     split at h <;> simp_all
     obtain ⟨⟨rfl, hw⟩, _⟩ := h
     exact .int hu hw
   | string =>
     unfold DataW.trod at h
     rw [hu] at h
     split at h <;> simp_all
     exact .string hu h.1
   | slice e =>
     rcases Go.Deep.open_slice hu h with ⟨rfl, _⟩ | ⟨a, len, cap, m, n', D, Pl, rfl, hb, hl, hc, hm, _, hel⟩
     ·exact .nilSlice hu
     ·unfold DataW.trod at h
      rw [hu] at h
      simp only at h
      split at h
      case isFalse => cases h
      rename_i hcond
      simp only [Option.bind_eq_some_iff] at h
      obtain ⟨elems, h1, _⟩ := h
      have key : ∀ i, i < len → ∃ row y, w.cells? base (a.add (i * P.cellsOf e)) (P.cellsOf e) = some row ∧ DataW.trod enc P w base sp held n e row = some y := fun i hi => by
       obtain ⟨y, hy⟩ := yiP h1 i (by simpa using hi)
       simp only [Option.bind_eq_some_iff] at hy
       obtain ⟨row, hr1, hr2⟩ := hy
       exact ⟨row, y, hr1, hr2⟩
      classical
      refine .slice (fun i => if hi : i < len then (key i hi).choose else []) hu hl hc (fun i hi => ?_) (fun i hi j v hv => ?_) (fun i hi => ?_)
      ·simp only [dif_pos hi]
       obtain ⟨y, hr1, hr2⟩ := (key i hi).choose_spec
       exact ywK hr1
      ·simp only [dif_pos hi] at hv
       obtain ⟨y, hr1, hr2⟩ := (key i hi).choose_spec
       exact ywL hr1 j v hv
      ·simp only [dif_pos hi]
       obtain ⟨y, hr1, hr2⟩ := (key i hi).choose_spec
       exact ih hr2
   | struct fs =>
    unfold DataW.trod at h
    rw [hu] at h
    simp only at h
    split at h
    ·rename_i hn
     simp only [Option.map_eq_some_iff] at h
     obtain ⟨xs, h1, _⟩ := h
     refine .struct hu hn fun f hf => ?_
     obtain ⟨y, hy⟩ := yiP h1 f hf
     exact ih hy
    ·cases h
   | _ => exact .other (by rw [hu]; rfl)
theorem OkT.int_inv {P : Program} {w : World} {t : TypeId} {k : IntKind} {cs : List Value} (h : OkT P w t cs) (hu : P.underlying t = some (.int k)) : ∃ x, cs = [.int k x] ∧ (Lit.int k x).wf = true := by
 cases h <;> simp_all [ykF]
theorem OkT.bool_inv {P : Program} {w : World} {t : TypeId} {cs : List Value} (h : OkT P w t cs) (hu : P.underlying t = some .bool) : ∃ b, cs = [.bool b] := by
 cases h <;> simp_all [ykF]
theorem OkT.string_inv {P : Program} {w : World} {t : TypeId} {cs : List Value} (h : OkT P w t cs) (hu : P.underlying t = some .string) : ∃ s, cs = [.string s] ∧ s.size ≤ maxLen := by
 cases h <;> simp_all [ykF]
theorem OkT.struct_inv {P : Program} {w : World} {t : TypeId} {fs : Array Field} {cs : List Value} (h : OkT P w t cs) (hu : P.underlying t = some (.struct fs)) : cs.length = P.cellsOf t ∧ ∀ f ∈ fs.toList, OkT P w f.type ((cs.drop f.offset).take (P.cellsOf f.type)) := by
 cases h with
 | struct h hn hf => rw [hu] at h; cases h; exact ⟨hn, hf⟩
 | _ => simp_all [ykF]
theorem OkT.slice_inv {P : Program} {w : World} {t e : TypeId} {cs : List Value} {α : Type} {enc : α → List Value} {good : α → Prop} (h : OkT P w t cs) (hu : P.underlying t = some (.slice e))
  (he : ∀ row, OkT P w e row → row.length = P.cellsOf e → ∃ x, row = enc x ∧ good x) : ∃ a len cap l, cs = [.slice a len cap] ∧ yb2 w (P.cellsOf e) enc a len l ∧ (∀ x ∈ l, good x) ∧ len ≤ cap ∧ cap ≤ maxLen := by
 cases h with
 | nilSlice h => exact ⟨none, 0, 0, [], rfl, ⟨rfl, by simp⟩, by simp, Nat.le_refl _, by decide⟩
 | @slice _ _ ad len cap rows h hl hc h1 h2 h3 =>
  rw [hu] at h; cases h
  have key : ∀ i, i < len → ∃ x, rows i = enc x ∧ good x := fun i hi => he _ (h3 i hi) (h1 i hi)
  classical
  by_cases h0 : len = 0
  ·subst h0
   exact ⟨_, _, _, [], rfl, ⟨rfl, by simp⟩, by simp, hl, hc⟩
  have x0 : α := (key 0 (by omega)).choose
  refine ⟨some ad, len, cap, (List.range len).map (fun i => if hi : i < len then (key i hi).choose else x0), rfl, ⟨by simp, fun i x hx => ⟨ad, rfl, fun j v hv => ?_⟩⟩, fun x hx => ?_, hl, hc⟩
  ·rw [List.getElem?_map] at hx
   simp only [Option.map_eq_some_iff] at hx
   obtain ⟨i', hi', rfl⟩ := hx
   obtain ⟨hil, rfl⟩ : i < len ∧ i = i' := by
    obtain ⟨a, b⟩ := List.getElem?_eq_some_iff.1 hi'
    simp at a b; exact ⟨a, b⟩
   simp only [dif_pos hil] at hv
   rw [← (key i hil).choose_spec.1] at hv
   exact h2 i hil j v hv
  ·simp only [List.mem_map, List.mem_range] at hx
   obtain ⟨i, hi, rfl⟩ := hx
   simp only [dif_pos hi]
   exact (key i hi).choose_spec.2
 | _ => simp_all [ykF]
end Go.Proofs.YtjellhflalbbmaaGreat
namespace Go.Proofs.YtjellhflalbbmaaGreat
open Go Go.RowKit Go.Maps Go.MapKept
set_option linter.unusedVariables false
set_option linter.unusedSimpArgs false
structure RepRd (w : World) (r : PRep) (f p : Sl) : Prop where
 found : yb2 w 5 yi0 f.a f.n r.found
 parts : yb2 w 2 yk6 p.a p.n r.parts
 wf : f.n ≤ maxLen
 wp : p.n ≤ maxLen
 sf : ∀ x ∈ r.found, x.r.key.size ≤ maxLen ∧ x.r.val.size ≤ maxLen
 sp : ∀ x ∈ r.parts, x.t.size ≤ maxLen
theorem RepRd.keep0 {w w' : World} {r : PRep} {f p : Sl} (h : RepRd w r f p) (M : Mod [] w w') : RepRd w' r f p := ⟨h.found.keep0 M, h.parts.keep0 M, h.wf, h.wp, h.sf, h.sp⟩
theorem cI : Tryz.prog.cellsOf 3 = 1 := by kernel_rfl
theorem cB : Tryz.prog.cellsOf 4 = 1 := by kernel_rfl
theorem cS : Tryz.prog.cellsOf 9 = 1 := by kernel_rfl
theorem cE : Tryz.prog.cellsOf 23 = 1 := by kernel_rfl
theorem cSF : Tryz.prog.cellsOf 32 = 1 := by kernel_rfl
theorem cSP : Tryz.prog.cellsOf 33 = 1 := by kernel_rfl
theorem cSR : Tryz.prog.cellsOf 43 = 1 := by kernel_rfl
theorem cSS : Tryz.prog.cellsOf 46 = 1 := by kernel_rfl
theorem cSC : Tryz.prog.cellsOf 31 = 1 := by kernel_rfl
theorem cRc : Tryz.prog.cellsOf 99 = 4 := by kernel_rfl
theorem cFd : Tryz.prog.cellsOf 101 = 5 := by kernel_rfl
theorem cPt : Tryz.prog.cellsOf 42 = 2 := by kernel_rfl
theorem cRp : Tryz.prog.cellsOf 35 = 6 := by kernel_rfl
theorem cBt : Tryz.prog.cellsOf 45 = 4 := by kernel_rfl
theorem cOp : Tryz.prog.cellsOf 48 = 14 := by kernel_rfl
theorem cCl : Tryz.prog.cellsOf 50 = 16 := by kernel_rfl
theorem cMl : Tryz.prog.cellsOf 37 = 17 := by kernel_rfl
theorem ywM (w : World) (row : List Value) (h : OkT pP w 99 row) (hl : row.length = Tryz.prog.cellsOf 99) : ∃ r : PRec, row = [.bool r.hk, .string r.key, .bool r.tomb, .string r.val] ∧ r.key.size ≤ maxLen ∧ r.val.size ≤ maxLen := by
 rw [cRc] at hl
 match row, hl with
 | [a, b, c, d], _ =>
  obtain ⟨_, hf⟩ := h.struct_inv Tryz.underlying99
  simp [cI, cB, cS, cE] at hf
  obtain ⟨ha, hb, hc, hd⟩ := hf
  obtain ⟨x1, e1⟩ := ha.bool_inv Tryz.underlying4
  obtain ⟨x2, e2, g2⟩ := hb.string_inv Tryz.underlying9
  obtain ⟨x3, e3⟩ := hc.bool_inv Tryz.underlying4
  obtain ⟨x4, e4, g4⟩ := hd.string_inv Tryz.underlying9
  simp at e1 e2 e3 e4
  subst e1 e2 e3 e4
  exact ⟨⟨x1, x2, x3, x4⟩, rfl, g2, g4⟩
theorem ywN (w : World) (row : List Value) (h : OkT pP w 101 row) (hl : row.length = Tryz.prog.cellsOf 101) : ∃ x : PFound, row = yi0 x ∧ (x.r.key.size ≤ maxLen ∧ x.r.val.size ≤ maxLen) := by
 have hl' := hl
 rw [cFd] at hl
 match row, hl with
 | [a, b, c, d, e], _ =>
  obtain ⟨_, hf⟩ := h.struct_inv Tryz.underlying101
  simp [cI, cB, cS, cE, cSF, cSP, cSR, cSS, cSC, cPt, cRc, cFd, cRp] at hf
  obtain ⟨ha, hb⟩ := hf
  obtain ⟨x1, e1, _⟩ := ha.int_inv Tryz.underlying3
  obtain ⟨r, e2, g⟩ := ywM w _ hb cRc.symm
  simp at e1 e2
  obtain ⟨rfl, rfl, rfl, rfl⟩ := e2
  subst e1
  exact ⟨⟨x1, r⟩, rfl, g⟩
theorem yrB (w : World) (row : List Value) (h : OkT pP w 42 row) (hl : row.length = Tryz.prog.cellsOf 42) : ∃ x : PPart, row = yk6 x ∧ x.t.size ≤ maxLen := by
 rw [cPt] at hl
 match row, hl with
 | [a, b], _ =>
  obtain ⟨_, hf⟩ := h.struct_inv Tryz.underlying42
  simp [cI, cB, cS, cE, cSF, cSP, cSR, cSS, cSC, cPt, cRc, cFd, cRp] at hf
  obtain ⟨ha, hb⟩ := hf
  obtain ⟨x1, e1, g1⟩ := ha.string_inv Tryz.underlying9
  obtain ⟨x2, e2, _⟩ := hb.int_inv Tryz.underlying3
  simp at e1 e2
  subst e1 e2
  exact ⟨⟨x1, x2⟩, rfl, g1⟩
theorem yBI (w : World) (row : List Value) (h : OkT pP w 35 row) (hl : row.length = Tryz.prog.cellsOf 35) : ∃ (r : PRep) (f p : Sl), row = PRep.cs r f p ∧ RepRd w r f p := by
 rw [cRp] at hl
 match row, hl with
 | [a, b, c, d, e, f], _ =>
  obtain ⟨_, hf⟩ := h.struct_inv Tryz.underlying35
  simp [cI, cB, cS, cE, cSF, cSP, cSR, cSS, cSC, cPt, cRc, cFd, cRp] at hf
  obtain ⟨ha, hb, hc, hd, he, hg⟩ := hf
  obtain ⟨x1, e1, _⟩ := ha.int_inv Tryz.underlying23
  obtain ⟨x2, e2, _⟩ := hb.int_inv Tryz.underlying3
  obtain ⟨x3, e3, _⟩ := hc.int_inv Tryz.underlying3
  obtain ⟨x4, e4, _⟩ := hd.int_inv Tryz.underlying3
  obtain ⟨fa, fn, fc, fl, e5, s5, g5, u5, c5⟩ := he.slice_inv Tryz.underlying32 (ywN w)
  obtain ⟨pa, pn, pc, pl, e6, s6, g6, u6, c6⟩ := hg.slice_inv Tryz.underlying33 (yrB w)
  simp at e1 e2 e3 e4 e5 e6
  subst e1 e2 e3 e4 e5 e6
  rw [cFd] at s5
  rw [cPt] at s6
  exact ⟨⟨x1, x2, x3, x4, fl, pl⟩, ⟨fa, fn, fc⟩, ⟨pa, pn, pc⟩, rfl, ⟨s5, s6, by show fn ≤ _; omega, by show pn ≤ _; omega, g5, g6⟩⟩
theorem yBJ (w : World) (row : List Value) (h : OkT pP w 9 row) (hl : row.length = Tryz.prog.cellsOf 9) : ∃ s : ByteArray, row = yi3 s ∧ s.size ≤ maxLen := by
 obtain ⟨s, rfl, g⟩ := h.string_inv Tryz.underlying9
 exact ⟨s, rfl, g⟩
structure OpRd (w : World) (o : POp) (rs ts : Sl) : Prop where
 recs : yb2 w 4 ye5 rs.a rs.n o.b.recs
 topics : yb2 w 1 yi3 ts.a ts.n o.topics
 wr : rs.n ≤ maxLen
 wt : ts.n ≤ maxLen
 sr : ∀ r ∈ o.b.recs, r.key.size ≤ maxLen ∧ r.val.size ≤ maxLen
 st : ∀ s ∈ o.topics, s.size ≤ maxLen
 sp : o.part.t.size ≤ maxLen
 sg : o.g.size ≤ maxLen
 sm : o.m.size ≤ maxLen
theorem OpRd.keep0 {w w' : World} {o : POp} {rs ts : Sl} (h : OpRd w o rs ts) (M : Mod [] w w') : OpRd w' o rs ts := ⟨h.recs.keep0 M, h.topics.keep0 M, h.wr, h.wt, h.sr, h.st, h.sp, h.sg, h.sm⟩
structure OV where
 o : POp
 rs : Sl
 ts : Sl
def OV.cs (q : OV) : List Value := q.o.cs q.rs q.ts
theorem ywO (w : World) (row : List Value) (h : OkT pP w 45 row) (hl : row.length = Tryz.prog.cellsOf 45) : ∃ (b : PBatch) (rs : Sl), row = [.int .i64 b.prod, .int .i64 b.epoch, .int .i64 b.seq, .slice rs.a rs.n rs.c] ∧ yb2 w 4 ye5 rs.a rs.n b.recs ∧ rs.n ≤ maxLen ∧ ∀ r ∈ b.recs, r.key.size ≤ maxLen ∧ r.val.size ≤ maxLen := by
 rw [cBt] at hl
 match row, hl with
 | [a, b, c, d], _ =>
  obtain ⟨_, hf⟩ := h.struct_inv Tryz.underlying45
  simp [cI, cB, cS, cE, cSF, cSP, cSR, cSS, cSC, cPt, cRc, cFd, cRp, cBt, cOp, cCl] at hf
  obtain ⟨ha, hb, hc, hd⟩ := hf
  obtain ⟨x1, e1, _⟩ := ha.int_inv Tryz.underlying3
  obtain ⟨x2, e2, _⟩ := hb.int_inv Tryz.underlying3
  obtain ⟨x3, e3, _⟩ := hc.int_inv Tryz.underlying3
  obtain ⟨ra, rn, rc, rl, e5, s5, g5, u5, c5⟩ := hd.slice_inv (enc := ye5) Tryz.underlying43 (ywM w)
  simp at e1 e2 e3 e5
  subst e1 e2 e3 e5
  rw [cRc] at s5
  exact ⟨⟨x1, x2, x3, rl⟩, ⟨ra, rn, rc⟩, rfl, s5, by show rn ≤ _; omega, g5⟩
theorem yEK (w : World) (row : List Value) (h : OkT pP w 48 row) (hl : row.length = Tryz.prog.cellsOf 48) : ∃ x : OV, row = OV.cs x ∧ OpRd w x.o x.rs x.ts := by
 rw [cOp] at hl
 match row, hl with
 | [a, b, c, d, e, f, g, i, j, k, l, m, n, o], _ =>
  obtain ⟨_, hf⟩ := h.struct_inv Tryz.underlying48
  simp [cI, cB, cS, cE, cSF, cSP, cSR, cSS, cSC, cPt, cRc, cFd, cRp, cBt, cOp, cCl] at hf
  obtain ⟨h1, h2, h3, h4, h5, h6, h7, h8, h9, h10⟩ := hf
  obtain ⟨x1, e1, _⟩ := h1.int_inv Tryz.underlying3
  obtain ⟨x2, e2, g2⟩ := yrB w _ h2 cPt.symm
  obtain ⟨x3, e3, _⟩ := h3.int_inv Tryz.underlying3
  obtain ⟨x4, e4, _⟩ := h4.int_inv Tryz.underlying3
  obtain ⟨x5, rs, e5, s5, w5, g5⟩ := ywO w _ h5 cBt.symm
  obtain ⟨x6, e6, g6⟩ := h6.string_inv Tryz.underlying9
  obtain ⟨x7, e7, g7⟩ := h7.string_inv Tryz.underlying9
  obtain ⟨x8, e8, _⟩ := h8.int_inv Tryz.underlying3
  obtain ⟨x9, e9⟩ := h9.bool_inv Tryz.underlying4
  obtain ⟨ta, tn, tc, tl, e10, s10, g10, u10, c10⟩ := h10.slice_inv (enc := yi3) Tryz.underlying46 (yBJ w)
  simp [yk6] at e1 e2 e3 e4 e5 e6 e7 e8 e9 e10
  subst e1 e3 e4 e6 e7 e8 e9 e10
  obtain ⟨rfl, rfl⟩ := e2
  obtain ⟨rfl, rfl, rfl, rfl⟩ := e5
  rw [cS] at s10
  exact ⟨⟨⟨x1, x2, x3, x4, x5, x6, x7, x8, x9, tl⟩, rs, ⟨ta, tn, tc⟩⟩, rfl, ⟨s5, s10, w5, by show tn ≤ _; omega, g5, g10, g2, g6, g7⟩⟩
theorem yzI (w : World) (row : List Value) (h : OkT pP w 50 row) (hl : row.length = Tryz.prog.cellsOf 50) : ∃ x : CV, row = CV.cs x ∧ OpRd w x.x.op x.rs x.ts := by
 rw [cCl] at hl
 match row, hl with
 | a :: b :: t, hl =>
  obtain ⟨_, hf⟩ := h.struct_inv Tryz.underlying50
  simp [cI, cB, cS, cE, cSF, cSP, cSR, cSS, cSC, cPt, cRc, cFd, cRp, cBt, cOp, cCl] at hf
  obtain ⟨h1, h2, h3⟩ := hf
  obtain ⟨x1, e1, _⟩ := h1.int_inv Tryz.underlying3
  obtain ⟨x2, e2, _⟩ := h2.int_inv Tryz.underlying3
  have ht : t.take 14 = t := List.take_of_length_le (by simp at hl; omega)
  rw [ht] at h3
  obtain ⟨x3, e3, g3⟩ := yEK w _ h3 (by rw [cOp]; simp at hl; omega)
  simp at e1 e2
  subst e1 e2 e3
  exact ⟨⟨⟨x1, x2, x3.o⟩, x3.rs, x3.ts⟩, rfl, g3⟩
structure MR where
 m : PMail
 s : Sl
 f : Sl
 p : Sl
def MR.cs (x : MR) : List Value := x.m.cs x.s x.f x.p
structure MailRd (w : World) (m : PMail) (s f p : Sl) : Prop where
 calls : ∃ ll : List CV, yb2 w 16 CV.cs s.a s.n ll ∧ (∀ q ∈ ll, OpRd w q.x.op q.rs q.ts) ∧ ll.map (·.x) = m.calls
 ws : s.n ≤ maxLen
 rep : RepRd w m.r f p
theorem yzJ (w : World) (row : List Value) (h : OkT pP w 37 row) (hl : row.length = Tryz.prog.cellsOf 37) : ∃ x : MR, row = MR.cs x ∧ MailRd w x.m x.s x.f x.p := by
 rw [cMl] at hl
 match row, hl with
 | [a, b, c, d, e, f, g, i, j, k, l, m, n, o, p, q, r], _ =>
  obtain ⟨_, hf⟩ := h.struct_inv Tryz.underlying37
  simp [cI, cB, cS, cE, cSF, cSP, cSR, cSS, cSC, cPt, cRc, cFd, cRp, cBt, cOp, cCl] at hf
  obtain ⟨h1, h2, h3, h4, h5, h6, h7, h8, h9, h10, h11, h12⟩ := hf
  obtain ⟨x1, e1, _⟩ := h1.int_inv Tryz.underlying3
  obtain ⟨x2, e2, _⟩ := h2.int_inv Tryz.underlying3
  obtain ⟨x3, e3, _⟩ := h3.int_inv Tryz.underlying3
  obtain ⟨x4, e4, _⟩ := h4.int_inv Tryz.underlying3
  obtain ⟨x5, e5, _⟩ := h5.int_inv Tryz.underlying3
  obtain ⟨x6, e6, _⟩ := h6.int_inv Tryz.underlying3
  obtain ⟨x7, e7, _⟩ := h7.int_inv Tryz.underlying3
  obtain ⟨x8, e8, _⟩ := h8.int_inv Tryz.underlying3
  obtain ⟨x9, e9, _⟩ := h9.int_inv Tryz.underlying3
  obtain ⟨x10, e10, _⟩ := h10.int_inv Tryz.underlying3
  obtain ⟨ca, cn, cc, cl, e11, s11, g11, u11, c11⟩ := h11.slice_inv Tryz.underlying31 (yzI w)
  obtain ⟨x12, fs, ps, e12, g12⟩ := yBI w _ h12 cRp.symm
  simp [PRep.cs] at e1 e2 e3 e4 e5 e6 e7 e8 e9 e10 e11 e12
  subst e1 e2 e3 e4 e5 e6 e7 e8 e9 e10 e11
  obtain ⟨rfl, rfl, rfl, rfl, rfl, rfl⟩ := e12
  rw [cCl] at s11
  exact ⟨⟨⟨x1, x2, x3, x4, x5, x6, x7, x8, x9, x10, cl.map (·.x), x12⟩, ⟨ca, cn, cc⟩, fs, ps⟩, rfl, ⟨⟨cl, s11, g11, rfl⟩, by show cn ≤ _; omega, g12⟩⟩
end Go.Proofs.YtjellhflalbbmaaGreat
namespace Go.Proofs.YtjellhflalbbmaaGreat
open Go Go.RowKit
set_option linter.all false
section
set_option maxRecDepth 100000
variable {R : VWP} {w w0 : World} {m : Nat} {i0 i1 i2 i3 i4 i5 i6 i7 i8 i9 j0 j1 j2 j3 j4 j5 j6 j7 j8 j9 k0 k1 k2 k3 k4 k5 k6 k7 k8 k9 l0 l1 l2 l3 l4 l5 l6 l7 l8 l9 : Int} {s0 s1 s2 s3 s4 s5 s6 s7 s8 s9 t0 t1 t2 t3 t4 t5 t6 t7 t8 t9 : BA} {n0 n1 n2 n3 n4 n5 n6 n7 n8 n9 o0 o1 o2 o3 o4 o5 o6 o7 o8 o9 p0 p1 p2 p3 p4 p5 p6 p7 p8 p9 : Nat} {q0 q1 q2 q3 q4 q5 q6 q7 q8 q9 r0 r1 r2 r3 r4 r5 r6 r7 r8 r9 : OA} {B0 B1 B2 B3 B4 B5 B6 B7 B8 B9 : Bool} {M0 M1 M2 M3 : Option Nat} {V0 V1 V2 V3 V4 V5 : Value} {A0 A1 A2 : Addr}
theorem yEL {a0 : BA} {a1 : BA} (h :
 ∀ b1, w.heap.size ≤ b1 →
 ∀ b2, w.heap.size ≤ b2 →
 slS a0 0 (if 80 < (a0.size : Int) then 80 else (a0.size : Int)) fun s3 =>
 slS a1 0 (if 600 < (a1.size : Int) then 600 else (a1.size : Int)) fun s4 =>
 ∀ w5, Adv [] [b2, b1] w w5 →
 R (.agg (Z7 B0 s3 B1 s4)) w5) :
 CR pP 110 #[(.agg (Z7 B0 a0 B1 a1))] w R :=
 yaA Tryz.wide_mixed (an := []) Tryz.func110 rfl rfl (by kernel_rfl) rfl (Eq.mpr (by kernel_rfl) h)
def yo8 : LA := ⟨[0, 0, 1, 0, 1, 1], [1, 2, 3, 4], [(1, 0, 0), (2, 1, 0), (3, 2, 0)], 3, []⟩
def yrC : List LA := [yo8]
abbrev yEM := dnF pP yrC (code Tryz.f74)
abbrev yGI := yaW pP yrC (code Tryz.f74)
abbrev yEN (p : List Nat) (K : List Kh) (R : VWP) := yaW pP yrC (code Tryz.f74) p K (ybI pP Tryz.f74 [] R)
def ykG (bm0 : Nat) (a6 a7 a8 : Int) (a0 : OA) (a4 a2 bm1 bm2 : Nat) (a9 b0 b1 : Int) : Int × (Option Addr) × Nat × Nat → List Value × List TB := fun (b2, a1, a5, a3) => ([(.pointer (some ⟨bm0, 0, none⟩)), (.pointer (some ⟨bm1, 0, none⟩)), (.pointer (some ⟨bm2, 0, none⟩)), .int .i64 b2], [⟨bm0, 45, [.int .i64 a6, .int .i64 a7, .int .i64 a8, .slice a0 a4 a2], false⟩, ⟨bm1, 45, [.int .i64 0, .int .i64 0, .int .i64 0, .slice none 0 0], false⟩, ⟨bm2, 45, [.int .i64 a9, .int .i64 b0, .int .i64 b1, .slice a1 a5 a3], false⟩])
abbrev yAL (bm0 : Nat) (a3 a4 a5 : Int) (a0 : OA) (a2 a1 bm1 bm2 : Nat) (a6 a7 a8 : Int) (I : Nat → Int → Option Addr → Nat → Nat → World → Prop) (m : Nat) : Kh := KG (ykG bm0 a3 a4 a5 a0 a2 a1 bm1 bm2 a6 a7 a8) (U4 I) m
theorem ywP {I : Nat → Int → Option Addr → Nat → Nat → World → Prop} (m' : Nat) (h1 : m' < m) (h2 : I m' i6 q1 n5 n6 w) : KS (yAL n0 i0 i1 i2 q0 n1 n2 n3 n4 i3 i4 i5 I m) (ykG n0 i0 i1 i2 q0 n1 n2 n3 n4 i3 i4 i5 (i6, q1, n5, n6)) w := ⟨m', h1, _, rfl, rfl, h2⟩
theorem ywQ {a7 : OA} {b3 : OA} (I : Nat → Int → Option Addr → Nat → Nat → World → Prop) (m0 : Nat) (h0 : I m0 i6 b3 n5 n6 w0)
 (hr : ∀ m b2 a0 a2 a1 w, I m b2 a0 a2 a1 w →
 brB (decide (b2 < (n1 : Int))) (
 brB (decide (b2 < 20)) (
 ixA a7 n1 b2 4 fun q4 =>
 ∀ w5, Adv [] [] w w5 →
 ya1 w5 q4 fun t6 => yaY w5 (Addr.add q4 1) fun s7 => ya1 w5 (Addr.add q4 2) fun t8 => yaY w5 (Addr.add q4 3) fun s9 =>
 Calls pP 110 #[(.agg (Z7 t6 s7 t8 s9))] w5 fun e c1 => ∃ b9 b7 c0 b8, e = .returned (.agg (Z7 b9 b7 c0 b8)) ∧ yaH [n0, n3, n4] w5 c1 ∧ (((.slice a0 a2 a1) : Value) = (.slice a0 a2 a1)) ∧
 al c1 (.cells (Z7 b9 b7 c0 b8) 99) fun c8 c2 =>
 ycZ pP (Builtin.append_ #[43, 43] 43 #[.slice a0 a2 a1, (.slice (some ⟨c8, 0, none⟩) 1 1)]) c2 fun c7 d0 c9 c3 => yaH [n0, n3, n4] c2 c3 ∧
 ∀ c4, Adv [n4] [] c3 c4 →
 KS (yAL n0 i0 i1 i2 a7 n1 n2 n3 n4 i3 i4 i5 I m) (ykG n0 i0 i1 i2 a7 n1 n2 n3 n4 i3 i4 i5 ((IntKind.wrap .i64 (b2 + 1)), c7, d0, c9)) c4)
 (
 ∀ c5, Adv [n3] [] w c5 →
 R (.agg (Z8 i3 i4 i5 a0 a2 a1)) c5))
 (
 ∀ c6, Adv [n3] [] w c6 →
 R (.agg (Z8 i3 i4 i5 a0 a2 a1)) c6)) :
 yaL yo8 (yEM 396 [0, 0, 1, 0, 1, 1]) (yEN [1, 1, 0, 1, 0] [] R) (ykG n0 i0 i1 i2 a7 n1 n2 n3 n4 i3 i4 i5 (i6, b3, n5, n6)) w0 :=
 lrule (ykG n0 i0 i1 i2 a7 n1 n2 n3 n4 i3 i4 i5) (U4 I) h0 (by rintro m ⟨b2, a0, a2, a1⟩ w h; exact ⟨by kernel_rfl, by kernel_rfl, fun js => Eq.mpr (by kernel_rfl) (hr m b2 a0 a2 a1 w h)⟩)
theorem yEO (h :
 ∀ b1, w.heap.size ≤ b1 →
 ∀ b2, w.heap.size ≤ b2 →
 ∀ b3, w.heap.size ≤ b3 →
 ∀ a6, Adv [] [b3, b2, b1] w a6 →
 yaL yo8 (yEM 396 [0, 0, 1, 0, 1, 1]) (yEN [1, 1, 0, 1, 0] [] R) (ykG b1 i0 i1 i2 q0 n0 n1 b2 b3 i0 i1 i2 (0, none, 0, 0)) a6) :
 CR pP 74 #[(.agg (Z8 i0 i1 i2 q0 n0 n1))] w R :=
 yaA Tryz.wide_mixed (an := yrC) Tryz.func74 rfl rfl (by kernel_rfl) rfl (Eq.mpr (by kernel_rfl) h)
def yo9 : LA := ⟨[0, 0, 1, 0, 1, 1, 1, 1, 1, 1, 1], [1, 2, 3, 4], [(1, 0, 0), (2, 1, 0), (3, 2, 0)], 3, []⟩
def yrD : List LA := [yo9]
abbrev yEP := dnF pP yrD (code Tryz.f48)
abbrev yGJ := yaW pP yrD (code Tryz.f48)
abbrev yEQ (p : List Nat) (K : List Kh) (R : VWP) := yaW pP yrD (code Tryz.f48) p K (ybI pP Tryz.f48 [] R)
def ykH (bm0 : Nat) (c2 : Int) (b8 : BA) (c3 c4 c5 c6 c7 c8 : Int) (b2 : OA) (b6 b4 : Nat) (b9 a6 : BA) (b0 : Int) (a8 : Bool) (a0 : OA) (a4 a2 bm1 bm2 : Nat) (c9 : Int) (c0 : BA) (d0 d1 d2 d3 d4 d5 : Int) (b3 : OA) (b7 b5 : Nat) (c1 a7 : BA) (b1 : Int) (a9 : Bool) : Int × (Option Addr) × Nat × Nat → List Value × List TB := fun (d6, a1, a5, a3) => ([(.pointer (some ⟨bm0, 0, none⟩)), (.pointer (some ⟨bm1, 0, none⟩)), (.pointer (some ⟨bm2, 0, none⟩)), .int .i64 d6], [⟨bm0, 48, [.int .i64 c2, .string b8, .int .i64 c3, .int .i64 c4, .int .i64 c5, .int .i64 c6, .int .i64 c7, .int .i64 c8, .slice b2 b6 b4, .string b9, .string a6, .int .i64 b0, .bool a8, .slice a0 a4 a2], false⟩, ⟨bm1, 48, [.int .i64 0, .string ByteArray.empty, .int .i64 0, .int .i64 0, .int .i64 0, .int .i64 0, .int .i64 0, .int .i64 0, .slice none 0 0, .string ByteArray.empty, .string ByteArray.empty, .int .i64 0, .bool false, .slice none 0 0], false⟩, ⟨bm2, 48, [.int .i64 c9, .string c0, .int .i64 d0, .int .i64 d1, .int .i64 d2, .int .i64 d3, .int .i64 d4, .int .i64 d5, .slice b3 b7 b5, .string c1, .string a7, .int .i64 b1, .bool a9, .slice a1 a5 a3], false⟩])
abbrev yAM (bm0 : Nat) (b9 : Int) (b5 : BA) (c0 c1 c2 c3 c4 c5 : Int) (a9 : OA) (b3 b1 : Nat) (b6 a3 : BA) (a7 : Int) (a5 : Bool) (a0 : OA) (a2 a1 bm1 bm2 : Nat) (c6 : Int) (b7 : BA) (c7 c8 c9 d0 d1 d2 : Int) (b0 : OA) (b4 b2 : Nat) (b8 a4 : BA) (a8 : Int) (a6 : Bool) (I : Nat → Int → Option Addr → Nat → Nat → World → Prop) (m : Nat) : Kh := KG (ykH bm0 b9 b5 c0 c1 c2 c3 c4 c5 a9 b3 b1 b6 a3 a7 a5 a0 a2 a1 bm1 bm2 c6 b7 c7 c8 c9 d0 d1 d2 b0 b4 b2 b8 a4 a8 a6) (U4 I) m
theorem ywR {I : Nat → Int → Option Addr → Nat → Nat → World → Prop} (m' : Nat) (h1 : m' < m) (h2 : I m' j6 q3 n9 o0 w) : KS (yAM n0 i0 s0 i1 i2 i3 i4 i5 i6 q0 n1 n2 s1 s2 i7 B0 q1 n3 n4 n5 n6 i8 s3 i9 j0 j1 j2 j3 j4 q2 n7 n8 s4 s5 j5 B1 I m) (ykH n0 i0 s0 i1 i2 i3 i4 i5 i6 q0 n1 n2 s1 s2 i7 B0 q1 n3 n4 n5 n6 i8 s3 i9 j0 j1 j2 j3 j4 q2 n7 n8 s4 s5 j5 B1 (j6, q3, n9, o0)) w := ⟨m', h1, _, rfl, rfl, h2⟩
theorem ywS (I : Nat → Int → Option Addr → Nat → Nat → World → Prop) (m0 : Nat) (h0 : I m0 j6 q3 n9 o0 w0)
 (hr : ∀ m d6 a2 a4 a3 w, I m d6 a2 a4 a3 w →
 brB (decide (d6 < (n3 : Int))) (
 brB (decide (d6 < 12)) (
 ixA q1 n3 d6 1 fun f2 =>
 ∀ e0, Adv [] [] w e0 →
 yaY e0 f2 fun f4 =>
 ixA q1 n3 d6 1 fun f3 =>
 yaY e0 f3 fun e2 =>
 slS f4 0 (if 40 < (e2.size : Int) then 40 else (e2.size : Int)) fun f5 =>
 al e0 (.cells #[.string f5] 9) fun e9 e3 =>
 ycZ pP (Builtin.append_ #[46, 46] 46 #[.slice a2 a4 a3, (.slice (some ⟨e9, 0, none⟩) 1 1)]) e3 fun e8 f1 f0 e4 => yaH [n0, n5, n6] e3 e4 ∧
 ∀ e5, Adv [n6] [] e4 e5 →
 KS (yAM n0 i0 s0 i1 i2 i3 i4 i5 i6 q0 n1 n2 s1 s2 i7 B0 q1 n3 n4 n5 n6 i8 s3 i9 j0 j1 j2 j3 j4 q2 n7 n8 s4 s5 j5 B1 I m) (ykH n0 i0 s0 i1 i2 i3 i4 i5 i6 q0 n1 n2 s1 s2 i7 B0 q1 n3 n4 n5 n6 i8 s3 i9 j0 j1 j2 j3 j4 q2 n7 n8 s4 s5 j5 B1 ((IntKind.wrap .i64 (d6 + 1)), e8, f1, f0)) e5)
 (
 ∀ e6, Adv [n5] [] w e6 →
 R (.agg (Z1 i8 s3 i9 j0 j1 j2 j3 j4 q2 n7 n8 s4 s5 j5 B1 a2 a4 a3)) e6))
 (
 ∀ e7, Adv [n5] [] w e7 →
 R (.agg (Z1 i8 s3 i9 j0 j1 j2 j3 j4 q2 n7 n8 s4 s5 j5 B1 a2 a4 a3)) e7)) :
 yaL yo9 (yEP 391 [0, 0, 1, 0, 1, 1, 1, 1, 1, 1, 1]) (yEQ [1, 1, 1, 1, 1, 1, 1, 0, 1, 0] [] R) (ykH n0 i0 s0 i1 i2 i3 i4 i5 i6 q0 n1 n2 s1 s2 i7 B0 q1 n3 n4 n5 n6 i8 s3 i9 j0 j1 j2 j3 j4 q2 n7 n8 s4 s5 j5 B1 (j6, q3, n9, o0)) w0 :=
 lrule (ykH n0 i0 s0 i1 i2 i3 i4 i5 i6 q0 n1 n2 s1 s2 i7 B0 q1 n3 n4 n5 n6 i8 s3 i9 j0 j1 j2 j3 j4 q2 n7 n8 s4 s5 j5 B1) (U4 I) h0 (by rintro m ⟨d6, a2, a4, a3⟩ w h; exact ⟨by kernel_rfl, by kernel_rfl, fun js => Eq.mpr (by kernel_rfl) (hr m d6 a2 a4 a3 w h)⟩)
theorem yER {a1 : BA} {a2 a0 : BA} (h :
 ∀ b1, w.heap.size ≤ b1 →
 ∀ b2, w.heap.size ≤ b2 →
 ∀ b3, w.heap.size ≤ b3 →
 slS a1 0 (if 40 < (a1.size : Int) then 40 else (a1.size : Int)) fun s4 =>
 slS a2 0 (if 40 < (a2.size : Int) then 40 else (a2.size : Int)) fun s5 =>
 slS a0 0 (if 40 < (a0.size : Int) then 40 else (a0.size : Int)) fun s6 =>
 ∀ w7, Adv [] [b3, b2, b1] w w7 →
 Calls pP 74 #[(.agg (Z8 i4 i5 i6 q0 n0 n1))] w7 fun e w8 => ∃ x9 c5 c6 c1 c3 c2, e = .returned (.agg (Z8 x9 c5 c6 c1 c3 c2)) ∧ yaH [b1, b2, b3] w7 w8 ∧
 ∀ c4, Adv [b3] [] w8 c4 →
 yaL yo9 (yEP 391 [0, 0, 1, 0, 1, 1, 1, 1, 1, 1, 1]) (yEQ [1, 1, 1, 1, 1, 1, 1, 0, 1, 0] [] R) (ykH b1 i0 a1 i1 i2 i3 i4 i5 i6 q0 n0 n1 a2 a0 i7 B0 q1 n2 n3 b2 b3 i0 s4 i1 i2 i3 x9 c5 c6 c1 c3 c2 s5 s6 i7 B0 (0, none, 0, 0)) c4) :
 CR pP 48 #[(.agg (Z1 i0 a1 i1 i2 i3 i4 i5 i6 q0 n0 n1 a2 a0 i7 B0 q1 n2 n3))] w R :=
 yaA Tryz.wide_mixed (an := yrD) Tryz.func48 rfl rfl (by kernel_rfl) rfl (Eq.mpr (by kernel_rfl) h)
end
section
set_option maxRecDepth 100000
variable {R : VWP} {w w0 : World} {m : Nat} {i0 i1 i2 i3 i4 i5 i6 i7 i8 i9 j0 j1 j2 j3 j4 j5 j6 j7 j8 j9 k0 k1 k2 k3 k4 k5 k6 k7 k8 k9 l0 l1 l2 l3 l4 l5 l6 l7 l8 l9 : Int} {s0 s1 s2 s3 s4 s5 s6 s7 s8 s9 t0 t1 t2 t3 t4 t5 t6 t7 t8 t9 : BA} {n0 n1 n2 n3 n4 n5 n6 n7 n8 n9 o0 o1 o2 o3 o4 o5 o6 o7 o8 o9 p0 p1 p2 p3 p4 p5 p6 p7 p8 p9 : Nat} {q0 q1 q2 q3 q4 q5 q6 q7 q8 q9 r0 r1 r2 r3 r4 r5 r6 r7 r8 r9 : OA} {B0 B1 B2 B3 B4 B5 B6 B7 B8 B9 : Bool} {M0 M1 M2 M3 : Option Nat} {V0 V1 V2 V3 V4 V5 : Value} {A0 A1 A2 : Addr}
def ypA : LA := ⟨[0, 0, 1, 0, 1, 1], [0, 3, 4], [], 0, []⟩
def yrE : List LA := [ypA]
abbrev yES := dnF pP yrE (code Tryz.f33)
abbrev yGK := yaW pP yrE (code Tryz.f33)
abbrev yET (p : List Nat) (K : List Kh) (R : VWP) := yaW pP yrE (code Tryz.f33) p K (ybI pP Tryz.f33 [] R)
def ykI (a0 : OA) (a4 a2 : Nat) : (Option Addr) × Nat × Nat × Int → List Value × List TB := fun (a1, a5, a3, a6) => ([.slice a0 a4 a2, .slice a1 a5 a3, .int .i64 a6], [])
abbrev yAN (a0 : OA) (a2 a1 : Nat) (I : Nat → Option Addr → Nat → Nat → Int → World → Prop) (m : Nat) : Kh := KG (ykI a0 a2 a1) (U4 I) m
theorem ywT {I : Nat → Option Addr → Nat → Nat → Int → World → Prop} (m' : Nat) (h1 : m' < m) (h2 : I m' q1 n2 n3 i0 w) : KS (yAN q0 n0 n1 I m) (ykI q0 n0 n1 (q1, n2, n3, i0)) w := ⟨m', h1, _, rfl, rfl, h2⟩
theorem ywU {a2 : OA} {a7 : OA} (I : Nat → Option Addr → Nat → Nat → Int → World → Prop) (m0 : Nat) (h0 : I m0 a7 n2 n3 i0 w0)
 (hr : ∀ m a3 a5 a4 a0 w, I m a3 a5 a4 a0 w →
 brB (decide (a0 < (n0 : Int))) (
 brB (decide (a0 < 12)) (
 ixA a2 n0 a0 16 fun q3 =>
 ∀ w4, Adv [] [] w w4 →
 yaD .i64 w4 q3 fun x5 =>
 ixA a2 n0 a0 16 fun q6 =>
 yaD .i64 w4 (Addr.add q6 1) fun x7 =>
 ixA a2 n0 a0 16 fun q8 =>
 yaD .i64 w4 (Addr.add q8 2) fun x9 => yaY w4 (Addr.add (Addr.add q8 2) 1) fun e0 => yaD .i64 w4 (Addr.add (Addr.add q8 2) 2) fun e6 => yaD .i64 w4 (Addr.add (Addr.add q8 2) 3) fun e7 => yaD .i64 w4 (Addr.add (Addr.add q8 2) 4) fun e8 => yaD .i64 w4 (Addr.add (Addr.add q8 2) 5) fun e9 => yaD .i64 w4 (Addr.add (Addr.add q8 2) 6) fun f0 => yaD .i64 w4 (Addr.add (Addr.add q8 2) 7) fun f1 => yaN w4 (Addr.add (Addr.add q8 2) 8) fun d0 d7 d4 => yaY w4 (Addr.add (Addr.add q8 2) 9) fun e1 => yaY w4 (Addr.add (Addr.add q8 2) 10) fun e2 => yaD .i64 w4 (Addr.add (Addr.add q8 2) 11) fun f2 => ya1 w4 (Addr.add (Addr.add q8 2) 12) fun e3 => yaN w4 (Addr.add (Addr.add q8 2) 13) fun d1 d8 d5 =>
 Calls pP 48 #[(.agg (Z1 x9 e0 e6 e7 e8 e9 f0 f1 d0 d7 d4 e1 e2 f2 e3 d1 d8 d5))] w4 fun e b0 => ∃ c2 b8 c3 c4 c5 c6 c7 c8 b2 b6 b4 b9 c0 c9 c1 b3 b7 b5, e = .returned (.agg (Z1 c2 b8 c3 c4 c5 c6 c7 c8 b2 b6 b4 b9 c0 c9 c1 b3 b7 b5)) ∧ (yaD .i64 b0 (Addr.add q6 1) fun f3 => ((.int .i64 f3) : Value) = (.int .i64 x7)) ∧ (yaD .i64 b0 q3 fun f4 => ((.int .i64 f4) : Value) = (.int .i64 x5)) ∧
 al b0 (.cells (Z5 x5 x7 c2 b8 c3 c4 c5 c6 c7 c8 b2 b6 b4 b9 c0 c9 c1 b3 b7 b5) 50) fun d3 e4 =>
 ycZ pP (Builtin.append_ #[31, 31] 31 #[.slice a3 a5 a4, (.slice (some ⟨d3, 0, none⟩) 1 1)]) e4 fun d2 d9 d6 e5 =>
 KS (yAN a2 n0 n1 I m) (ykI a2 n0 n1 (d2, d9, d6, (IntKind.wrap .i64 (a0 + 1)))) e5)
 (
 R (.slice a3 a5 a4) w))
 (
 R (.slice a3 a5 a4) w)) :
 yaL ypA (yES 396 [0, 0, 1, 0, 1, 1]) (yET [1, 1, 0, 1, 0] [] R) (ykI a2 n0 n1 (a7, n2, n3, i0)) w0 :=
 lrule (ykI a2 n0 n1) (U4 I) h0 (by rintro m ⟨a3, a5, a4, a0⟩ w h; exact ⟨by kernel_rfl, by kernel_rfl, fun js => Eq.mpr (by kernel_rfl) (hr m a3 a5 a4 a0 w h)⟩)
theorem yEU (h :
 al w (.cells #[] 50) fun b1 w2 =>
 yaL ypA (yES 396 [0, 0, 1, 0, 1, 1]) (yET [1, 1, 0, 1, 0] [] R) (ykI q0 n0 n1 ((some ⟨b1, 0, none⟩), 0, 0, 0)) w2) :
 CR pP 33 #[.slice q0 n0 n1] w R :=
 yaA Tryz.wide_mixed (an := yrE) Tryz.func33 rfl rfl (by kernel_rfl) rfl (Eq.mpr (by kernel_rfl) h)
end
theorem ysM {x m : Int} (h0 : 0 ≤ m) (h1 : m ≤ 9223372036854775807) : 0 ≤ yiV .i64 x m ∧ yiV .i64 x m ≤ m := by
 unfold yiV
 have e : (BitVec.ofInt IntKind.i64.bits m).toNat = m.toNat := by
  show (BitVec.ofInt 64 m).toNat = _
  rw [BitVec.toNat_ofInt]
  have : m % ((2 ^ 64 : Nat) : Int) = m := Int.emod_eq_of_lt h0 (by omega)
  rw [this]
 have h : (BitVec.ofInt IntKind.i64.bits x &&& BitVec.ofInt IntKind.i64.bits m).toNat ≤ m.toNat := by
  rw [BitVec.toNat_and, ← e]; exact Nat.and_le_right
 rw [yaF (by omega) (by omega)]
 omega
theorem ywV {x : Int} (h0 : 0 ≤ x) (h1 : x ≤ 1099511627776) : num x = true := by simp [num]; omega
def yd8 (m : PMail) : Int := if m.kind < 0 ∨ m.kind ≥ 12 then 180 else if ((yaX m).all num) = false then 1 else if ydA m.calls ≠ 0 then ydA m.calls else yi2 m.r
theorem ycD {m : PMail} (h : yd8 m = 0) : (0 ≤ m.kind ∧ m.kind < 12) ∧ (yaX m).all num = true ∧ ydA m.calls = 0 ∧ yi2 m.r = 0 := by
 unfold yd8 at h
 split at h
 ·omega
 ·split at h
  ·omega
  ·split at h
   ·rename_i h3; exact absurd h h3
   ·rename_i h1 h2 h3; exact ⟨by omega, by simpa using h2, by simpa using h3, h⟩
structure MailW (w : World) (m : PMail) (s f p : Sl) : Prop where
 calls : yeM w s m.calls
 lc : m.calls.length ≤ 100000
 rep : RepAtW w m.r f p
theorem MailAt.w {w : World} {m : PMail} {s f p : Sl} (h : MailAt w m s f p) (hl : m.calls.length ≤ 100000) : MailW w m s f p := ⟨h.calls, hl, h.rep.wide⟩
theorem ypB {w : World} {m : PMail} {s f p : Sl} (h : MailW w m s f p) :
  Calls pP 49 #[m.v s f p] w fun e w' => e = .returned (.int .i64 (yd8 m)) ∧ Mod [] w w' := by
 obtain ⟨ll, hll, hop, hcs⟩ := h.calls
 have hl : ll.length ≤ 1000000 := by have := congrArg List.length hcs; have := h.lc; simp at *; omega
 refine yaS (yDL ?_)
 intro b1 f1
 refine yaC (fun g1 => fun w2 A2 => ⟨by rw [yd8, if_pos (.inl g1)], A2.mod⟩) fun g1 => ?_
 refine yaC (fun g2 => fun w2 A2 => ⟨by rw [yd8, if_pos (.inr g2)], A2.mod⟩) fun g2 => ?_
 have hE : yd8 m = if ((yaX m).all num) = false then 1 else if ydA m.calls ≠ 0 then ydA m.calls else yi2 m.r := by rw [yd8, if_neg (by omega)]
 intro w4 A4 h4
 refine (yvR b1 w4).mono ?_
 rintro e w5 ⟨rfl, M5⟩
 have N5 := A4.mod.go0 M5 (by simp)
 have h5 := M5.keep0 h4
 refine ⟨_, _, _, _, _, _, _, _, _, _, rfl, _, _, _, _, _, _, _, _, _, _, _, _, _, _, _, _, _, _, _, _, _, _, _, h5, ?_⟩
 refine yvF (fun mm x w' => ∃ k : Nat, x = k ∧ k ≤ 10 ∧ ((yaX m).take k).all num = true ∧ mm = 10 - k ∧ w' = w5) 10 ⟨0, rfl, by omega, by simp, rfl, rfl⟩ ?_
 rintro mm x w6 ⟨k, rfl, hk, hal, rfl, rfl⟩ h6
 refine yaC (fun hlt => ?_) fun hge => ?_
 ·have hk' : k < 10 := by omega
  obtain ⟨x, hx⟩ : ∃ x, (yaX m)[k]? = some x := ⟨_, List.getElem?_eq_getElem (by simpa [yaX] using hk')⟩
  have hc := ygJ (s := s) (f := f) (p := p) h6 hx
  have bad : ¬ (0 ≤ x ∧ x ≤ 1099511627776) → yd8 m = 1 := fun hn => by
   rw [hE, if_pos]
   apply Bool.eq_false_iff.2
   intro hh
   have := List.all_eq_true.1 hh x (List.mem_of_getElem? hx)
   exact hn (by simpa [num] using this)
  refine ⟨_, yBC b1 hk', yaE hc ?_⟩
  refine yaC (fun g3 => ⟨by rw [bad (by omega)], N5⟩) fun g3 => ?_
  refine yaE hc ?_
  refine yaC (fun g4 => ⟨by rw [bad (by omega)], N5⟩) fun g4 => ?_
  refine yvE (10 - (k + 1)) (by omega) ⟨k + 1, by rw [yaF (by omega) (by omega)]; omega, by omega, ?_, rfl, rfl⟩
  rw [yd5 hx, hal]; simp [num]; omega
 ·have hk' : k = 10 := by omega
  subst hk'
  rw [List.take_of_length_le (by simp [yaX])] at hal
  rw [hal, if_neg (by decide)] at hE
  refine (yo5 (s := s) (ll := ll) ⟨hll.keep0 N5, fun q hq => (hop q hq).keep0 N5⟩ hl).mono ?_
  rw [hcs]
  rintro e w7 ⟨rfl, M7⟩
  refine ⟨_, _, rfl, _, _, _, _, _, _, _, _, _, _, _, _, _, _, _, _, _, _, _, _, _, _, _, M7.keep0 h6, ?_⟩
  have N7 := N5.go0 M7 (by simp)
  refine yaB (fun g => ?_) fun g => ?_
  ·have g : ydA m.calls ≠ 0 := by simpa using g
   exact ⟨by rw [hE, if_pos g], N7⟩
  have g : ydA m.calls = 0 := by simpa using g
  rw [if_neg (by simpa using g)] at hE
  refine (ymZ (h.rep.keep0 N7)).mono ?_
  rintro e w8 ⟨rfl, M8⟩
  refine ⟨_, _, rfl, _, _, _, _, _, _, _, _, _, _, _, _, _, _, _, _, _, _, _, _, _, _, _, (M7.go0 M8 (by simp)).keep0 h6, ?_⟩
  exact ⟨by rw [hE], N7.go0 M8 (by simp)⟩
section
set_option maxRecDepth 100000
variable {R : VWP} {w w0 : World} {m : Nat} {i0 i1 i2 i3 i4 i5 i6 i7 i8 i9 j0 j1 j2 j3 j4 j5 j6 j7 j8 j9 k0 k1 k2 k3 k4 k5 k6 k7 k8 k9 l0 l1 l2 l3 l4 l5 l6 l7 l8 l9 : Int} {s0 s1 s2 s3 s4 s5 s6 s7 s8 s9 t0 t1 t2 t3 t4 t5 t6 t7 t8 t9 : BA} {n0 n1 n2 n3 n4 n5 n6 n7 n8 n9 o0 o1 o2 o3 o4 o5 o6 o7 o8 o9 p0 p1 p2 p3 p4 p5 p6 p7 p8 p9 : Nat} {q0 q1 q2 q3 q4 q5 q6 q7 q8 q9 r0 r1 r2 r3 r4 r5 r6 r7 r8 r9 : OA} {B0 B1 B2 B3 B4 B5 B6 B7 B8 B9 : Bool} {M0 M1 M2 M3 : Option Nat} {V0 V1 V2 V3 V4 V5 : Value} {A0 A1 A2 : Addr}
def ypC : LA := ⟨[0, 0, 1, 0, 1, 1, 1], [1, 5, 18, 19], [(1, 0, 0), (5, 1, 0)], 2, [0, 1]⟩
def yrF : List LA := [ypC]
abbrev yEV := dnF pP yrF (code Tryz.f35)
abbrev yGL := yaW pP yrF (code Tryz.f35)
abbrev yEW (p : List Nat) (K : List Kh) (R : VWP) := yaW pP yrF (code Tryz.f35) p K (ybI pP Tryz.f35 [] R)
def ykJ (b6 b7 b8 b9 c0 c1 c2 c3 c4 c5 : OA) (bm0 bm1 : Nat) : Int × Int × Int × Int × Int × Int × Int × Int × Int × Int × Int × (Option Addr) × Nat × Nat × Int × Int × Int × Int × (Option Addr) × Nat × Nat × (Option Addr) × Nat × Nat × (Option Addr) × (Option Addr) × Nat × Nat → List Value × List TB := fun (d7, c7, c8, c9, d0, d1, d2, d3, d4, d5, d6, a0, a6, a3, a9, b0, b1, b2, a1, a7, a4, a2, a8, a5, c6, b3, b5, b4) => ([(.pointer (some ⟨bm0, 0, none⟩)), (.pointer (some ⟨bm1, 0, none⟩)), (.agg (Z6 b6 b7 b8 b9 c0 c1 c2 c3 c4 c5)), .int .i64 d7], [⟨bm0, 37, [.int .i64 c7, .int .i64 c8, .int .i64 c9, .int .i64 d0, .int .i64 d1, .int .i64 d2, .int .i64 d3, .int .i64 d4, .int .i64 d5, .int .i64 d6, .slice a0 a6 a3, .int .i64 a9, .int .i64 b0, .int .i64 b1, .int .i64 b2, .slice a1 a7 a4, .slice a2 a8 a5], true⟩, ⟨bm1, 106, [.pointer c6, .slice b3 b5 b4], true⟩])
abbrev yAO (a0 a1 a2 a3 a4 a5 a6 a7 a8 a9 : OA) (bm0 bm1 : Nat) (I : Nat → Int → Int → Int → Int → Int → Int → Int → Int → Int → Int → Int → Option Addr → Nat → Nat → Int → Int → Int → Int → Option Addr → Nat → Nat → Option Addr → Nat → Nat → Option Addr → Option Addr → Nat → Nat → World → Prop) (m : Nat) : Kh := KG (ykJ a0 a1 a2 a3 a4 a5 a6 a7 a8 a9 bm0 bm1) (U28 I) m
theorem ywW {I : Nat → Int → Int → Int → Int → Int → Int → Int → Int → Int → Int → Int → Option Addr → Nat → Nat → Int → Int → Int → Int → Option Addr → Nat → Nat → Option Addr → Nat → Nat → Option Addr → Option Addr → Nat → Nat → World → Prop} (m' : Nat) (h1 : m' < m) (h2 : I m' i0 i1 i2 i3 i4 i5 i6 i7 i8 i9 j0 r0 n2 n3 j1 j2 j3 j4 r1 n4 n5 r2 n6 n7 r3 r4 n8 n9 w) : KS (yAO q0 q1 q2 q3 q4 q5 q6 q7 q8 q9 n0 n1 I m) (ykJ q0 q1 q2 q3 q4 q5 q6 q7 q8 q9 n0 n1 (i0, i1, i2, i3, i4, i5, i6, i7, i8, i9, j0, r0, n2, n3, j1, j2, j3, j4, r1, n4, n5, r2, n6, n7, r3, r4, n8, n9)) w := ⟨m', h1, _, rfl, rfl, h2⟩
theorem ywX (I : Nat → Int → Int → Int → Int → Int → Int → Int → Int → Int → Int → Int → Option Addr → Nat → Nat → Int → Int → Int → Int → Option Addr → Nat → Nat → Option Addr → Nat → Nat → Option Addr → Option Addr → Nat → Nat → World → Prop) (m0 : Nat) (h0 : I m0 i0 i1 i2 i3 i4 i5 i6 i7 i8 i9 j0 r0 n2 n3 j1 j2 j3 j4 r1 n4 n5 r2 n6 n7 r3 r4 n8 n9 w0)
 (hr : ∀ m d7 c7 c8 c9 d0 d1 d2 d3 d4 d5 d6 a0 a2 a1 b9 c0 c1 c2 b3 b7 b5 b4 b8 b6 c6 c3 c5 c4 w, I m d7 c7 c8 c9 d0 d1 d2 d3 d4 d5 d6 a0 a2 a1 b9 c0 c1 c2 b3 b7 b5 b4 b8 b6 c6 c3 c5 c4 w →
 w.heap[n0]? = some (.cells (Z0 c7 c8 c9 d0 d1 d2 d3 d4 d5 d6 a0 a2 a1 b9 c0 c1 c2 b3 b7 b5 b4 b8 b6) 37) →
 w.heap[n1]? = some (.cells #[.pointer c6, .slice c3 c5 c4] 106) →
 brB (decide (d7 < 10)) (
 ∃ w6, (∀ w' : World, (Instr.index 108 (.agg (Z6 q0 q1 q2 q3 q4 q5 q6 q7 q8 q9)) (.int .i64 d7)).run pP w' = .ok (.pointer w6) w') ∧
 ynK w6 fun ge =>
 yaD .i64 w ge fun gg =>
 Calls pP 52 #[(.int .u64 (IntKind.wrap .u64 gg))] w fun e v0 => ∃ w8, e = .returned (.string w8) ∧ ∃ gh gi gj gk gl gm gn go gp gq fr fz fv gr gs gt gu fs ga fw ft gb fx, v0.heap[n0]? = some (.cells (Z0 gh gi gj gk gl gm gn go gp gq fr fz fv gr gs gt gu fs ga fw ft gb fx) 37) ∧ ∃ gd fu gc fy, v0.heap[n1]? = some (.cells #[.pointer gd, .slice fu gc fy] 106) ∧
 Calls pP 51 #[(.pointer (some ⟨n1, 0, none⟩)), .string w8] v0 fun e v1 => ∃ gv gf, e = .returned (.tuple #[.int .i64 gv, gf]) ∧ ∃ w9 x0 x1 x2 x3 x4 x5 x6 x7 x8 v6 w3 v9 x9 y0 y1 y2 v7 w4 w1 v8 w5 w2, v1.heap[n0]? = some (.cells (Z0 w9 x0 x1 x2 x3 x4 x5 x6 x7 x8 v6 w3 v9 x9 y0 y1 y2 v7 w4 w1 v8 w5 w2) 37) ∧ ∃ w7 h3 h9 h6, v1.heap[n1]? = some (.cells #[.pointer w7, .slice h3 h9 h6] 106) ∧
 KS (yAO q0 q1 q2 q3 q4 q5 q6 q7 q8 q9 n0 n1 I m) (ykJ q0 q1 q2 q3 q4 q5 q6 q7 q8 q9 n0 n1 ((IntKind.wrap .i64 (d7 + 1)), w9, x0, x1, x2, x3, x4, x5, x6, x7, x8, v6, w3, v9, x9, y0, y1, y2, v7, w4, w1, v8, w5, w2, w7, h3, h9, h6)) v1)
 (
 Calls pP 53 #[.slice a0 a2 a1] w fun e g6 => ∃ u2 ck, e = .returned (.tuple #[.string u2, .int .i64 ck]) ∧ ∃ cl cm cn co cp cq cr cs ct cu y3 be af v2 v3 v4 v5 h4 u0 h7 h5 u1 h8, g6.heap[n0]? = some (.cells (Z0 cl cm cn co cp cq cr cs ct cu y3 be af v2 v3 v4 v5 h4 u0 h7 h5 u1 h8) 37) ∧ ∃ cc y4 bf ag, g6.heap[n1]? = some (.cells #[.pointer cc, .slice y4 bf ag] 106) ∧
 Calls pP 54 #[(.agg (Z3 v2 v3 v4 v5 h4 u0 h7 h5 u1 h8))] g6 fun e g7 => ∃ u3 cv, e = .returned (.tuple #[.string u3, .int .i64 cv]) ∧ ∃ cw cx cy cz da db dc dd de df y5 bg ah dg dh di dj y6 bh ai y7 bi aj, g7.heap[n0]? = some (.cells (Z0 cw cx cy cz da db dc dd de df y5 bg ah dg dh di dj y6 bh ai y7 bi aj) 37) ∧ ∃ cd y8 bj ak, g7.heap[n1]? = some (.cells #[.pointer cd, .slice y8 bj ak] 106) ∧
 Calls pP 55 #[(.pointer (some ⟨n1, 0, none⟩))] g7 fun e g8 => ∃ u4, e = .returned (.string u4) ∧ ∃ dk dl dm dn dp dq dr ds dt du y9 bk am dv dw dx dy z0 bl an z1 bm ao, g8.heap[n0]? = some (.cells (Z0 dk dl dm dn dp dq dr ds dt du y9 bk am dv dw dx dy z0 bl an z1 bm ao) 37) ∧ ∃ ce z2 bn ap, g8.heap[n1]? = some (.cells #[.pointer ce, .slice z2 bn ap] 106) ∧
 Calls pP 56 #[.string u2] g8 fun e g9 => ∃ u5, e = .returned (.string u5) ∧ ∃ dz ea eb ec ed ee ef eg eh ei z3 bo aq ej ek el em z4 bp ar z5 bq au, g9.heap[n0]? = some (.cells (Z0 dz ea eb ec ed ee ef eg eh ei z3 bo aq ej ek el em z4 bp ar z5 bq au) 37) ∧ ∃ cf z6 br av, g9.heap[n1]? = some (.cells #[.pointer cf, .slice z6 br av] 106) ∧
 yx0 u4 u5 fun cj =>
 Calls pP 56 #[.string u3] g9 fun e g5 => ∃ u6, e = .returned (.string u6) ∧ ∃ en eo ep eq er et eu ew ex ey z7 bt aw ez fa fb fc z8 bu ax z9 bv ay, g5.heap[n0]? = some (.cells (Z0 en eo ep eq er et eu ew ex ey z7 bt aw ez fa fb fc z8 bu ax z9 bv ay) 37) ∧ ∃ ch aa bw az, g5.heap[n1]? = some (.cells #[.pointer ch, .slice aa bw az] 106) ∧
 yx0 cj u6 fun u7 =>
 brB (decide ((u7.size : Int) > 1048576)) (
 R (.tuple #[(.string (⟨#[]⟩ : BA)), .int .i64 2]) g5)
 (
 Calls pP 57 #[.string u7] g5 fun e h1 => ∃ u9, e = .returned (.string u9) ∧ ∃ fd fe ff fg fh fi fj fk fl fm ab bx ba fn fo fp fq ac bz bb ad ca bc, h1.heap[n0]? = some (.cells (Z0 fd fe ff fg fh fi fj fk fl fm ab bx ba fn fo fp fq ac bz bb ad ca bc) 37) ∧ ∃ ci ae cb bd, h1.heap[n1]? = some (.cells #[.pointer ci, .slice ae cb bd] 106) ∧
 R (.tuple #[.string u9, .int .i64 0]) h1))) :
 yaL ypC (yEV 395 [0, 0, 1, 0, 1, 1, 1]) (yEW [1, 1, 1, 0, 1, 0] [] R) (ykJ q0 q1 q2 q3 q4 q5 q6 q7 q8 q9 n0 n1 (i0, i1, i2, i3, i4, i5, i6, i7, i8, i9, j0, r0, n2, n3, j1, j2, j3, j4, r1, n4, n5, r2, n6, n7, r3, r4, n8, n9)) w0 :=
 lrule (ykJ q0 q1 q2 q3 q4 q5 q6 q7 q8 q9 n0 n1) (U28 I) h0 (by rintro m ⟨d7, c7, c8, c9, d0, d1, d2, d3, d4, d5, d6, a0, a2, a1, b9, c0, c1, c2, b3, b7, b5, b4, b8, b6, c6, c3, c5, c4⟩ w h; exact ⟨by kernel_rfl, by kernel_rfl, fun js => Eq.mpr (by kernel_rfl) (hr m d7 c7 c8 c9 d0 d1 d2 d3 d4 d5 d6 a0 a2 a1 b9 c0 c1 c2 b3 b7 b5 b4 b8 b6 c6 c3 c5 c4 w h)⟩)
theorem yEX {a2 a1 : Nat} {a5 a4 : Nat} {a8 a7 : Nat} (h :
 ∀ b1, w.heap.size ≤ b1 →
 ∀ w2, Adv [] [b1] w w2 →
 Calls pP 49 #[(.agg (Z0 i0 i1 i2 i3 i4 i5 i6 i7 i8 i9 q0 a2 a1 j0 j1 j2 j3 q1 a5 a4 q2 a8 a7))] w2 fun e w3 => ∃ x4, e = .returned (.int .i64 x4) ∧ yaH [b1] w2 w3 ∧
 brB (x4 != 0) (
 R (.tuple #[(.string (⟨#[]⟩ : BA)), .int .i64 x4]) w3)
 (
 ∀ b5, w3.heap.size ≤ b5 →
 ∀ w6, Adv [] [b5] w3 w6 → w6.heap[b1]? = some (.cells (Z0 i0 i1 i2 i3 i4 i5 i6 i7 i8 i9 q0 a2 a1 j0 j1 j2 j3 q1 a5 a4 q2 a8 a7) 37) →
 Calls pP 50 #[(.pointer (some ⟨b1, 0, none⟩))] w6 fun e w7 => ∃ p8 p9 e9 f0 f1 f2 f3 f4 f5 f6, e = .returned (.agg (Z6 p8 p9 e9 f0 f1 f2 f3 f4 f5 f6)) ∧ yaZ [b1] [(b5, 106)] [b5] w6 w7 ∧ ∃ d5 d6 d7 d8 d9 e0 e1 e2 e3 e4 c6 d2 c9 e5 e6 e7 e8 c7 d3 d0 c8 d4 d1, w7.heap[b1]? = some (.cells (Z0 d5 d6 d7 d8 d9 e0 e1 e2 e3 e4 c6 d2 c9 e5 e6 e7 e8 c7 d3 d0 c8 d4 d1) 37) ∧
 ∀ c5, Adv [] [] w7 c5 → c5.heap[b1]? = some (.cells (Z0 d5 d6 d7 d8 d9 e0 e1 e2 e3 e4 c6 d2 c9 e5 e6 e7 e8 c7 d3 d0 c8 d4 d1) 37) →
 c5.heap[b5]? = some (.cells #[.pointer none, .slice none 0 0] 106) →
 yaL ypC (yEV 395 [0, 0, 1, 0, 1, 1, 1]) (yEW [1, 1, 1, 0, 1, 0] [] R) (ykJ p8 p9 e9 f0 f1 f2 f3 f4 f5 f6 b1 b5 (0, d5, d6, d7, d8, d9, e0, e1, e2, e3, e4, c6, d2, c9, e5, e6, e7, e8, c7, d3, d0, c8, d4, d1, none, none, 0, 0)) c5)) :
 CR pP 35 #[(.agg (Z0 i0 i1 i2 i3 i4 i5 i6 i7 i8 i9 q0 a2 a1 j0 j1 j2 j3 q1 a5 a4 q2 a8 a7))] w R :=
 yaA Tryz.wide_mixed (an := yrF) Tryz.func35 rfl rfl (by kernel_rfl) rfl (Eq.mpr (by kernel_rfl) h)
theorem yEY {a2 a1 : Nat} {a5 a4 : Nat} {a9 a8 : Nat} (h :
 ∀ b1, w.heap.size ≤ b1 →
 ∀ b2, w.heap.size ≤ b2 →
 ∀ b3, w.heap.size ≤ b3 →
 ∀ w4, Adv [] [b3, b2, b1] w w4 →
 Calls pP 33 #[.slice q0 a2 a1] w4 fun e w5 => ∃ a6 n7 c8, e = .returned (.slice a6 n7 c8) ∧ yaH [b1, b2, b3] w4 w5 ∧
 ∀ w9, Adv [b3] [] w5 w9 →
 Calls pP 34 #[(.agg (Z3 j0 j1 j2 j3 q1 a5 a4 q2 a9 a8))] w9 fun e d4 => ∃ d6 d7 d8 d9 c7 d2 d0 c9 d3 d1, e = .returned (.agg (Z3 d6 d7 d8 d9 c7 d2 d0 c9 d3 d1)) ∧ yaH [b1, b2, b3] w9 d4 ∧
 ∀ d5, Adv [b2, b3] [] d4 d5 →
 R (.agg (Z0 i0 i1 i2 i3 i4 i5 i6 i7 i8 i9 a6 n7 c8 d6 d7 d8 d9 c7 d2 d0 c9 d3 d1)) d5) :
 CR pP 11 #[(.agg (Z0 i0 i1 i2 i3 i4 i5 i6 i7 i8 i9 q0 a2 a1 j0 j1 j2 j3 q1 a5 a4 q2 a9 a8))] w R :=
 yaA Tryz.wide_mixed (an := []) Tryz.func11 rfl rfl (by kernel_rfl) rfl (Eq.mpr (by kernel_rfl) h)
end
theorem ylK {x : Int} (h0 : 0 ≤ x) (h : x.toNat ≤ 1099511627776) : num x = true := ywV h0 (by omega)
def yl2 (n : Int) : List UInt8 := yaM n.toNat
def ybR (m : PMail) : List UInt8 := (yaX m).flatMap yl2 ++ ybU (bs (ybP m.calls)) ++ ybU (bs (ydO m.r))
def ybS (m : PMail) : Int := if yd8 m ≠ 0 then yd8 m else if (ybR m).length > 1048576 then 2 else 0
def ycN (m : PMail) : ByteArray := bs (yeB (bs (ybR m)))
theorem ybY {m : PMail} (h : ybS m = 0) : yd8 m = 0 ∧ (ybR m).length ≤ 1048576 := by
 unfold ybS at h
 split at h
 ·rename_i g; exact absurd h g
 ·rename_i g
  split at h
  ·omega
  ·exact ⟨by simpa using g, by omega⟩
theorem ym6 {xs : List PCall} (h : ydA xs = 0) : (ybP xs).length ≤ 200000000 := by
 obtain ⟨h1, h2⟩ := yf4 h
 have h3 := yc7 (f := ye6) (c := 40000) (l := xs) fun x hx => (yf3 (h2 x hx).1 (h2 x hx).2).1
 have h4 := (yaO xs.length (by omega)).2
 unfold ybP; rw [List.length_append]; omega
theorem yeO (m : PMail) : (yaX m).length = 10 := rfl
theorem yf5 {n : Int} (h : num n = true) : n.toNat < 18446744073709551616 ∧ (yl2 n).length ≤ 10 := by
 have := yeC h
 exact ⟨by omega, (yaO n.toNat (by omega)).2⟩
theorem ye1 {m : PMail} (h : (yaX m).all num = true) {k : Nat} {n : Int} (hn : (yaX m)[k]? = some n) : num n = true := List.all_eq_true.1 h n (List.mem_of_getElem? hn)
theorem yeP {m : PMail} (h : (yaX m).all num = true) (k : Nat) : (((yaX m).take k).flatMap yl2).length ≤ 100 := by
 have := yc7 (f := yl2) (c := 10) (l := (yaX m).take k) fun x hx => (yf5 (List.all_eq_true.1 h x (List.mem_of_mem_take hx))).2
 have e : ((yaX m).take k).length ≤ 10 := by rw [List.length_take, yeO]; omega
 omega
theorem ywY {m : PMail} (h : yd8 m = 0) : (ybR m).length ≤ 300000000 := by
 obtain ⟨_, h1, h2, h3⟩ := ycD h
 have l1 := yeP h1 10
 rw [List.take_of_length_le (by rw [yeO]; omega)] at l1
 have l2 := ym6 h2
 have l3 := (RepGood.of h3).len3 m.r.parts.length
 have l3 : (ydO m.r).length ≤ 60000 := l3
 have p2 := (ya4 (bs (ybP m.calls)) (by rw [yaK]; omega)).2
 have p3 := (ya4 (bs (ydO m.r)) (by rw [yaK]; omega)).2
 rw [yaK] at p2 p3
 unfold ybR; rw [List.length_append, List.length_append]; omega
def yhA (m : PMail) (k : Nat) : Nat := (((yaX m).take k).flatMap yl2).length
theorem yzK {m : PMail} (h : (yaX m).all num = true) {k : Nat} {n : Int} (hn : (yaX m)[k]? = some n) : yeF (ybR m) (yhA m k) = some (n.toNat, yhA m (k + 1)) := by
 have hs := yf5 (ye1 h hn)
 have hk := (List.getElem?_eq_some_iff.1 hn).1
 have e : yaX m = (yaX m).take k ++ n :: (yaX m).drop (k + 1) := by
  have h2 := List.drop_eq_getElem_cons hk
  have h3 : (yaX m)[k] = n := (List.getElem?_eq_some_iff.1 hn).2
  rw [h3] at h2
  rw [← h2, List.take_append_drop]
 have hd : (ybR m).drop (yhA m k) = yl2 n ++ (((yaX m).drop (k + 1)).flatMap yl2 ++ ybU (bs (ybP m.calls)) ++ ybU (bs (ydO m.r))) := by
  have e2 : (yaX m).flatMap yl2 = ((yaX m).take k).flatMap yl2 ++ (yl2 n ++ ((yaX m).drop (k + 1)).flatMap yl2) := by
   conv => lhs; rw [e]
   rw [List.flatMap_append, List.flatMap_cons]
  unfold ybR yhA
  rw [e2]
  simp only [List.append_assoc]
  rw [List.drop_left']
  rfl
 rw [yeZ (n := n.toNat) hs.1 hd]
 congr 2
 unfold yhA
 rw [ybO hn, List.length_append]; rfl
theorem yzL {m : PMail} (h : ybS m = 0) : yj9 1048576 (ybR m) (yhA m 10) = some (bs (ybP m.calls), yhA m 10 + (ybU (bs (ybP m.calls))).length) ∧
  yj9 1048576 (ybR m) (yhA m 10 + (ybU (bs (ybP m.calls))).length) = some (bs (ydO m.r), (ybR m).length) := by
 obtain ⟨_, hl⟩ := ybY h
 have e10 : yhA m 10 = ((yaX m).flatMap yl2).length := by unfold yhA; rw [List.take_of_length_le (by rw [yeO]; omega)]
 have hd1 : (ybR m).drop (yhA m 10) = ybU (bs (ybP m.calls)) ++ ybU (bs (ydO m.r)) := by
  rw [e10]; unfold ybR; rw [List.append_assoc, List.drop_left']; rfl
 have hd2 : (ybR m).drop (yhA m 10 + (ybU (bs (ybP m.calls))).length) = ybU (bs (ydO m.r)) ++ [] := by
  rw [List.append_nil, yaQ hd1]
 have hlen : (ybR m).length = yhA m 10 + (ybU (bs (ybP m.calls))).length + (ybU (bs (ydO m.r))).length := by
  rw [e10]; unfold ybR; rw [List.length_append, List.length_append]
 have z1 : (bs (ybP m.calls)).size ≤ (ybU (bs (ybP m.calls))).length := by unfold ybU; rw [List.length_append]; simp
 have z2 : (bs (ydO m.r)).size ≤ (ybU (bs (ydO m.r))).length := by unfold ybU; rw [List.length_append]; simp
 refine ⟨yd7 (by omega) (by omega) hd1, ?_⟩
 rw [yd7 (by omega) (by omega) hd2, hlen]
theorem ywZ {x y : PMail} (hx : ybS x = 0) (hy : ybS y = 0) (h : ycN x = ycN y) : ybR x = ybR y := by
 have h := ymR h
 obtain ⟨_, l1⟩ := ybY hx
 obtain ⟨_, l2⟩ := ybY hy
 have c1 := yqC (lim := 1048576) (bs (ybR x)) [] (by rw [yaK]; omega) (by rw [yaK]; omega)
 have c2 := yqC (lim := 1048576) (bs (ybR y)) [] (by rw [yaK]; omega) (by rw [yaK]; omega)
 rw [h, c2] at c1
 have := (Prod.mk.inj (Option.some.inj c1)).1
 exact (ymR this).symm
theorem yBK {x : PMail} (hx : ybS x = 0) : cg 1048576 (ycN x).data.toList = some (bs (ybR x), (yeB (bs (ybR x))).length) := by
 obtain ⟨_, l1⟩ := ybY hx
 have := yqC (lim := 1048576) (bs (ybR x)) [] (by rw [yaK]; omega) (by rw [yaK]; omega)
 rw [List.append_nil] at this
 rw [ycN, ydL]; exact this
theorem ygN {α : Type} {f : α → List UInt8} {l : List α} {k : Nat} {x : α} (h : l[k]? = some x) : l.flatMap f = (l.take k).flatMap f ++ (f x ++ (l.drop (k + 1)).flatMap f) := by
 have hk := (List.getElem?_eq_some_iff.1 h).1
 have h2 := List.drop_eq_getElem_cons hk
 have h3 : l[k] = x := (List.getElem?_eq_some_iff.1 h).2
 rw [h3] at h2
 conv => lhs; rw [← List.take_append_drop k l, h2]
 rw [List.flatMap_append, List.flatMap_cons]
theorem ylL {p q l : List UInt8} (h : l = p ++ q) : l.drop p.length = q := by
 rw [h, List.drop_left']; rfl
theorem yEZ {r : PRep} {k n : Nat} (h : (hdL r)[k]? = some n) : ∃ t, (ydO r).drop (yg9 r k).length = yaM n ++ t :=
 ⟨_, ylL (p := yg9 r k) (by unfold ydO yfB yg9; rw [ygN h]; simp only [List.append_assoc]; rfl)⟩
theorem yFX {r : PRep} {k : Nat} {y : PFound} (h : r.found[k]? = some y) : ∃ t, (ydO r).drop (ydH r k).length = yaM y.off.toNat ++ (ygZ y.r ++ t) :=
 ⟨_, ylL (p := ydH r k) (by unfold ydO yfB ydH; rw [ygN h, yfA]; simp only [List.append_assoc]; rfl)⟩
theorem yE0 (r : PRep) : ∃ t, (ydO r).drop (ydH r r.found.length).length = yaM r.parts.length ++ t :=
 ⟨_, ylL (p := ydH r r.found.length) (by unfold ydO yfB ydH; simp only [List.take_length, List.append_assoc]; rfl)⟩
theorem yFY {r : PRep} {k : Nat} {y : PPart} (h : r.parts[k]? = some y) : ∃ t, (ydO r).drop (yfB r k).length = ycM y ++ t :=
 ⟨_, ylL (p := yfB r k) (by unfold ydO; rw [yfB, yfB, List.take_length, ygN h]; simp only [List.append_assoc]; rfl)⟩
theorem yw0 (r : PRep) : yg9 r 5 = ydH r 0 := by rw [yg9, ydH, List.take_of_length_le (by simp [hdL])]; simp
theorem yE1 (r : PRep) : yfB r 0 = ydH r r.found.length ++ yaM r.parts.length := by rw [ydH, yfB, List.take_length]; simp
theorem yw1 {r : PRep} {k n : Nat} (h : (hdL r)[k]? = some n) : (yg9 r (k + 1)).length = (yg9 r k).length + (yaM n).length := by rw [yg9, ybO h, List.length_append]; rfl
theorem yw2 {r : PRep} {k : Nat} {y : PFound} (h : r.found[k]? = some y) : (ydH r (k + 1)).length = (ydH r k).length + (yaM y.off.toNat).length + (ygZ y.r).length := by
 have e : ydH r (k + 1) = ydH r k ++ yfA y := by rw [ydH, ydH, ybO h, ← List.append_assoc]
 rw [e, List.length_append, yfA, List.length_append]; omega
theorem yw3 {r : PRep} {k : Nat} {y : PPart} (h : r.parts[k]? = some y) : (yfB r (k + 1)).length = (yfB r k).length + (ycM y).length := by
 rw [yfB, yfB, ybO h, ← List.append_assoc, List.length_append]
def hdI (r : PRep) : List Int := [r.e, r.off, r.n, r.gen, r.found.length]
theorem yE2 {r : PRep} (G : RepGood r) {k : Nat} {n : Int} (h : (hdI r)[k]? = some n) : num n = true ∧ (hdL r)[k]? = some n.toNat := by
 obtain ⟨n0, n1, n2, n3⟩ := G.nn
 have lf := G.lf
 have d0 := G.hd r.e.toNat (by simp [hdL])
 have d1 := G.hd r.off.toNat (by simp [hdL])
 have d2 := G.hd r.n.toNat (by simp [hdL])
 have d3 := G.hd r.gen.toNat (by simp [hdL])
 have hk := (List.getElem?_eq_some_iff.1 h).1
 simp [hdI] at hk
 match k, hk, h with
 | 0, _, h => simp [hdI] at h; subst h; exact ⟨ylK n0 d0, rfl⟩
 | 1, _, h => simp [hdI] at h; subst h; exact ⟨ylK n1 d1, rfl⟩
 | 2, _, h => simp [hdI] at h; subst h; exact ⟨ylK n2 d2, rfl⟩
 | 3, _, h => simp [hdI] at h; subst h; exact ⟨ylK n3 d3, rfl⟩
 | 4, _, h => simp [hdI] at h; subst h; exact ⟨ywV (by omega) (by omega), by simp [hdL]⟩
def ye2 (s : ByteArray) (x : PRep) : Prop := yi2 x = 0 ∧ s.data.toList = ydO x
theorem ye2.eq {s : ByteArray} {x : PRep} (h : ye2 s x) : s = bs (ydO x) := by
 have := h.2; rw [← this, ymQ]
theorem ye2.of {s : ByteArray} {x : PRep} (h : yi2 x = 0) (hs : s = bs (ydO x)) : ye2 s x := ⟨h, by rw [hs, ydL]⟩
theorem ye2.hd {s : ByteArray} {x : PRep} (h : ye2 s x) {k : Nat} {n : Int} (hn : (hdI x)[k]? = some n) : ybC s.data.toList (some (yg9 x k).length) 0 = (some (yg9 x (k + 1)).length, n) := by
 obtain ⟨h1, h2⟩ := yE2 (RepGood.of h.1) hn
 obtain ⟨t, ht⟩ := yEZ h2
 rw [h.2, ybF h1 ht, yw1 h2]
theorem ye2.f {s : ByteArray} {x : PRep} (h : ye2 s x) {k : Nat} {y : PFound} (hy : x.found[k]? = some y) :
  ybC s.data.toList (some (ydH x k).length) 0 = (some ((ydH x k).length + (yaM y.off.toNat).length), y.off) ∧ ym1 s.data.toList ((ydH x k).length + (yaM y.off.toNat).length) = some (y.r, (ydH x (k + 1)).length) := by
 obtain ⟨h1, h2⟩ := (RepGood.of h.1).f y (List.mem_of_getElem? hy)
 obtain ⟨t, ht⟩ := yFX hy
 rw [h.2, ybF h1 ht]
 refine ⟨rfl, ?_⟩
 rw [yq0 h2 (yaQ ht), yw2 hy]
theorem ye2.np {s : ByteArray} {x : PRep} (h : ye2 s x) : ybC s.data.toList (some (ydH x x.found.length).length) 0 = (some (yfB x 0).length, ((x.parts.length : Nat) : Int)) := by
 obtain ⟨t, ht⟩ := yE0 x
 have lp := (RepGood.of h.1).lp
 rw [h.2, ybF (n := (x.parts.length : Nat)) (ywV (by omega) (by omega)) (by simpa using ht), yE1, List.length_append]
 rfl
theorem ye2.p {s : ByteArray} {x : PRep} (h : ye2 s x) {k : Nat} {y : PPart} (hy : x.parts[k]? = some y) : ycJ s.data.toList (some (yfB x k).length) = (some (yfB x (k + 1)).length, y) := by
 obtain ⟨h1, h2⟩ := (RepGood.of h.1).p y (List.mem_of_getElem? hy)
 have h3 := (RepGood.of h.1).lenP (List.mem_of_getElem? hy)
 obtain ⟨t, ht⟩ := yFY hy
 rw [h.2, yc9 h3.2 h1 ht, yw3 hy]
theorem yrG {x y : PRep} (hx : yi2 x = 0) (hy : yi2 y = 0) (h : ydO x = ydO y) : x = y := by
 have X : ye2 (bs (ydO x)) x := ⟨hx, ydL _⟩
 have Y : ye2 (bs (ydO x)) y := ⟨hy, by rw [ydL, h]⟩
 have hd : ∀ k, k ≤ 5 → (yg9 x k).length = (yg9 y k).length ∧ (hdI x).take k = (hdI y).take k := by
  intro k
  induction k with
  | zero => intro _; exact ⟨rfl, rfl⟩
  | succ k ih =>
   intro hk
   obtain ⟨i1, i2⟩ := ih (by omega)
   obtain ⟨a, ha⟩ : ∃ a, (hdI x)[k]? = some a := ⟨_, List.getElem?_eq_getElem (by simp [hdI]; omega)⟩
   obtain ⟨b, hb⟩ : ∃ b, (hdI y)[k]? = some b := ⟨_, List.getElem?_eq_getElem (by simp [hdI]; omega)⟩
   have h1 := X.hd ha
   have h2 := Y.hd hb
   rw [i1, h2] at h1
   simp only [Prod.mk.injEq, Option.some.injEq] at h1
   exact ⟨h1.1.symm, by rw [List.take_add_one, List.take_add_one, ha, hb, i2, h1.2]⟩
 obtain ⟨h5, hI⟩ := hd 5 (Nat.le_refl _)
 rw [List.take_of_length_le (by simp [hdI]), List.take_of_length_le (by simp [hdI])] at hI
 simp only [hdI, List.cons.injEq, and_true] at hI
 obtain ⟨e1, e2, e3, e4, e5⟩ := hI
 have e5 : x.found.length = y.found.length := by omega
 rw [yw0, yw0] at h5
 have hf : ∀ k, k ≤ x.found.length → (ydH x k).length = (ydH y k).length ∧ x.found.take k = y.found.take k := by
  intro k
  induction k with
  | zero => intro _; exact ⟨h5, rfl⟩
  | succ k ih =>
   intro hk
   obtain ⟨i1, i2⟩ := ih (by omega)
   obtain ⟨a, ha⟩ : ∃ a, x.found[k]? = some a := ⟨_, List.getElem?_eq_getElem (by omega)⟩
   obtain ⟨b, hb⟩ : ∃ b, y.found[k]? = some b := ⟨_, List.getElem?_eq_getElem (by omega)⟩
   obtain ⟨h1, h2⟩ := X.f ha
   obtain ⟨h3, h4⟩ := Y.f hb
   rw [i1, h3] at h1
   simp only [Prod.mk.injEq, Option.some.injEq] at h1
   rw [i1, ← h1.1, h4] at h2
   simp only [Prod.mk.injEq, Option.some.injEq] at h2
   have : a = b := by
    obtain ⟨o1, q1⟩ := a
    obtain ⟨o2, q2⟩ := b
    simp only [PFound.mk.injEq]
    exact ⟨h1.2.symm, h2.1.symm⟩
   exact ⟨h2.2.symm, by rw [List.take_add_one, List.take_add_one, ha, hb, i2, this]⟩
 obtain ⟨h6, e6⟩ := hf _ (Nat.le_refl _)
 rw [List.take_length, e5, List.take_length] at e6
 have h7 := X.np
 have h8 := Y.np
 rw [h6, e5, h8] at h7
 simp only [Prod.mk.injEq, Option.some.injEq] at h7
 have e7 : x.parts.length = y.parts.length := by omega
 have hp : ∀ k, k ≤ x.parts.length → (yfB x k).length = (yfB y k).length ∧ x.parts.take k = y.parts.take k := by
  intro k
  induction k with
  | zero => intro _; exact ⟨h7.1.symm, rfl⟩
  | succ k ih =>
   intro hk
   obtain ⟨i1, i2⟩ := ih (by omega)
   obtain ⟨a, ha⟩ : ∃ a, x.parts[k]? = some a := ⟨_, List.getElem?_eq_getElem (by omega)⟩
   obtain ⟨b, hb⟩ : ∃ b, y.parts[k]? = some b := ⟨_, List.getElem?_eq_getElem (by omega)⟩
   have h1 := X.p ha
   have h2 := Y.p hb
   rw [i1, h2] at h1
   simp only [Prod.mk.injEq, Option.some.injEq] at h1
   exact ⟨h1.1.symm, by rw [List.take_add_one, List.take_add_one, ha, hb, i2, h1.2]⟩
 obtain ⟨_, e8⟩ := hp _ (Nat.le_refl _)
 rw [List.take_length, e7, List.take_length] at e8
 obtain ⟨x1, x2, x3, x4, x5, x6⟩ := x
 obtain ⟨y1, y2, y3, y4, y5, y6⟩ := y
 simp only [PRep.mk.injEq]
 exact ⟨e1, e2, e3, e4, e6, e8⟩
section
set_option maxRecDepth 100000
variable {R : VWP} {w w0 : World} {m : Nat} {i0 i1 i2 i3 i4 i5 i6 i7 i8 i9 j0 j1 j2 j3 j4 j5 j6 j7 j8 j9 k0 k1 k2 k3 k4 k5 k6 k7 k8 k9 l0 l1 l2 l3 l4 l5 l6 l7 l8 l9 : Int} {s0 s1 s2 s3 s4 s5 s6 s7 s8 s9 t0 t1 t2 t3 t4 t5 t6 t7 t8 t9 : BA} {n0 n1 n2 n3 n4 n5 n6 n7 n8 n9 o0 o1 o2 o3 o4 o5 o6 o7 o8 o9 p0 p1 p2 p3 p4 p5 p6 p7 p8 p9 : Nat} {q0 q1 q2 q3 q4 q5 q6 q7 q8 q9 r0 r1 r2 r3 r4 r5 r6 r7 r8 r9 : OA} {B0 B1 B2 B3 B4 B5 B6 B7 B8 B9 : Bool} {M0 M1 M2 M3 : Option Nat} {V0 V1 V2 V3 V4 V5 : Value} {A0 A1 A2 : Addr}
def ypD : LA := ⟨[0, 0, 1, 0, 1, 1, 1, 1], [0, 2, 4, 5, 6, 7, 8, 26, 27, 28], [(2, 0, 0), (4, 1, 0), (5, 2, 0), (6, 3, 0), (7, 4, 0), (8, 5, 0)], 6, [1, 2, 3, 4]⟩
def ypE : LA := ⟨[0, 0, 1, 0, 1, 1, 1, 1, 1, 1], [0, 2, 4, 5, 7, 8, 11], [(2, 0, 0), (4, 1, 0), (5, 2, 0), (7, 4, 0), (8, 5, 0)], 6, [1, 2, 3, 4]⟩
def yiQ : LA := ⟨[0, 0, 1, 0, 1, 1, 1, 1, 1, 1, 1, 1], [0, 2, 4, 5, 8, 16], [(2, 0, 0), (4, 1, 0), (5, 2, 0), (8, 5, 0)], 6, [1, 2, 3, 4, 5]⟩
def yrH : List LA := [ypD, ypE, yiQ]
abbrev ym7 := dnF pP yrH (code Tryz.f88)
abbrev yFZ := yaW pP yrH (code Tryz.f88)
abbrev ypF (p : List Nat) (K : List Kh) (R : VWP) := yaW pP yrH (code Tryz.f88) p K (ybI pP Tryz.f88 [] R)
def ykK (b9 : BA) (b5 : OA) (b7 b6 bm0 bm1 bm2 bm3 bm4 bm5 : Nat) : Int × ByteArray × Int × Int × Int × Int × Int × Int × (Option Addr) × Nat × Nat × (Option Addr) × Nat × Nat × Int × Int → List Value × List TB := fun (b8, a6, a7, a8, a9, b0, b1, b2, a0, a4, a2, a1, a5, a3, b3, b4) => ([.string b9, (.pointer (some ⟨bm0, 0, none⟩)), (.pointer (some ⟨bm1, 0, none⟩)), (.pointer (some ⟨bm2, 0, none⟩)), (.pointer (some ⟨bm3, 0, none⟩)), (.pointer (some ⟨bm4, 0, none⟩)), (.pointer (some ⟨bm5, 0, none⟩)), .slice b5 b7 b6, (.int .i64 (5 : Int)), .int .i64 b8], [⟨bm0, 35, [.int .i64 0, .int .i64 0, .int .i64 0, .int .i64 0, .slice none 0 0, .slice none 0 0], false⟩, ⟨bm1, 191, [.string a6, .int .i64 a7, .int .i64 a8], true⟩, ⟨bm2, 35, [.int .i64 a9, .int .i64 b0, .int .i64 b1, .int .i64 b2, .slice a0 a4 a2, .slice a1 a5 a3], true⟩, ⟨bm3, 3, [.int .i64 b3], true⟩, ⟨bm4, 3, [.int .i64 b4], true⟩, ⟨bm5, 3, [.int .i64 0], false⟩])
def yf6 (b6 : BA) (bm0 bm1 bm2 bm3 bm4 bm5 : Nat) : Int × ByteArray × Int × Int × Int × Int × Int × Int × (Option Addr) × Nat × Nat × (Option Addr) × Nat × Nat × Int × Int → List Value × List TB := fun (b5, a6, a7, a8, a9, b0, b1, b2, a0, a4, a2, a1, a5, a3, b3, b4) => ([.string b6, (.pointer (some ⟨bm0, 0, none⟩)), (.pointer (some ⟨bm1, 0, none⟩)), (.pointer (some ⟨bm2, 0, none⟩)), (.pointer (some ⟨bm4, 0, none⟩)), (.pointer (some ⟨bm5, 0, none⟩)), .int .i64 b5], [⟨bm0, 35, [.int .i64 0, .int .i64 0, .int .i64 0, .int .i64 0, .slice none 0 0, .slice none 0 0], false⟩, ⟨bm1, 191, [.string a6, .int .i64 a7, .int .i64 a8], true⟩, ⟨bm2, 35, [.int .i64 a9, .int .i64 b0, .int .i64 b1, .int .i64 b2, .slice a0 a4 a2, .slice a1 a5 a3], true⟩, ⟨bm3, 3, [.int .i64 b3], true⟩, ⟨bm4, 3, [.int .i64 b4], true⟩, ⟨bm5, 3, [.int .i64 0], false⟩])
def yg2 (b7 : BA) (bm0 bm1 bm2 bm3 bm4 bm5 : Nat) : Int × ByteArray × Int × Int × Int × Int × Int × Int × (Option Addr) × Nat × Nat × (Option Addr) × Nat × Nat × Int × Int × Int → List Value × List TB := fun (b6, a6, a7, a8, a9, b0, b1, b2, a0, a4, a2, a1, a5, a3, b3, b4, b5) => ([.string b7, (.pointer (some ⟨bm0, 0, none⟩)), (.pointer (some ⟨bm1, 0, none⟩)), (.pointer (some ⟨bm2, 0, none⟩)), (.pointer (some ⟨bm5, 0, none⟩)), .int .i64 b6], [⟨bm0, 35, [.int .i64 0, .int .i64 0, .int .i64 0, .int .i64 0, .slice none 0 0, .slice none 0 0], false⟩, ⟨bm1, 191, [.string a6, .int .i64 a7, .int .i64 a8], true⟩, ⟨bm2, 35, [.int .i64 a9, .int .i64 b0, .int .i64 b1, .int .i64 b2, .slice a0 a4 a2, .slice a1 a5 a3], true⟩, ⟨bm3, 3, [.int .i64 b3], true⟩, ⟨bm4, 3, [.int .i64 b4], true⟩, ⟨bm5, 3, [.int .i64 b5], true⟩])
abbrev yAP (a3 : BA) (a0 : OA) (a2 a1 bm0 bm1 bm2 bm3 bm4 bm5 : Nat) (I : Nat → Int → ByteArray → Int → Int → Int → Int → Int → Int → Option Addr → Nat → Nat → Option Addr → Nat → Nat → Int → Int → World → Prop) (m : Nat) : Kh := KG (ykK a3 a0 a2 a1 bm0 bm1 bm2 bm3 bm4 bm5) (U16 I) m
theorem yeQ {I : Nat → Int → ByteArray → Int → Int → Int → Int → Int → Int → Option Addr → Nat → Nat → Option Addr → Nat → Nat → Int → Int → World → Prop} (m' : Nat) (h1 : m' < m) (h2 : I m' i0 s1 i1 i2 i3 i4 i5 i6 q1 n8 n9 q2 o0 o1 i7 i8 w) : KS (yAP s0 q0 n0 n1 n2 n3 n4 n5 n6 n7 I m) (ykK s0 q0 n0 n1 n2 n3 n4 n5 n6 n7 (i0, s1, i1, i2, i3, i4, i5, i6, q1, n8, n9, q2, o0, o1, i7, i8)) w := ⟨m', h1, _, rfl, rfl, h2⟩
theorem yw4 (I : Nat → Int → ByteArray → Int → Int → Int → Int → Int → Int → Option Addr → Nat → Nat → Option Addr → Nat → Nat → Int → Int → World → Prop) (m0 : Nat) (h0 : I m0 i0 s1 i1 i2 i3 i4 i5 i6 q1 n8 n9 q2 o0 o1 i7 i8 w0)
 (hr : ∀ m b6 a7 a8 a9 b4 b0 b1 b2 a1 a5 a3 a2 a6 a4 a0 b3 w, I m b6 a7 a8 a9 b4 b0 b1 b2 a1 a5 a3 a2 a6 a4 a0 b3 w →
 w.heap[n3]? = some (.cells (Z2 a7 a8 a9) 191) →
 w.heap[n4]? = some (.cells (Z3 b4 b0 b1 b2 a1 a5 a3 a2 a6 a4) 35) →
 w.heap[n5]? = some (.cells #[.int .i64 a0] 3) →
 w.heap[n6]? = some (.cells #[.int .i64 b3] 3) →
 brB (decide (b6 < (5 : Int))) (
 ixA q0 n0 b6 1 fun f4 =>
 yrO w f4 fun f3 =>
 Calls pP 125 #[(.pointer (some ⟨n3, 0, none⟩)), .pointer f3] w fun e c6 => e = .returned (.tuple #[]) ∧ yaZ [n3, n4, n5, n6] [(n2, 35), (n7, 3)] [n2, n7] w c6 ∧ ∃ e4 e5 e6, c6.heap[n3]? = some (.cells (Z2 e4 e5 e6) 191) ∧ ∃ e7 e8 e9 f0 d8 e2 e0 d9 e3 e1, c6.heap[n4]? = some (.cells (Z3 e7 e8 e9 f0 d8 e2 e0 d9 e3 e1) 35) ∧ ∃ f1, c6.heap[n5]? = some (.cells #[.int .i64 f1] 3) ∧ ∃ f2, c6.heap[n6]? = some (.cells #[.int .i64 f2] 3) ∧
 KS (yAP s0 q0 n0 n1 n2 n3 n4 n5 n6 n7 I m) (ykK s0 q0 n0 n1 n2 n3 n4 n5 n6 n7 ((IntKind.wrap .i64 (b6 + 1)), e4, e5, e6, e7, e8, e9, f0, d8, e2, e0, d9, e3, e1, f1, f2)) c6)
 (
 ∀ b5, Adv [n4] [] w b5 → b5.heap[n3]? = some (.cells (Z2 a7 a8 a9) 191) →
 b5.heap[n4]? = some (.cells (Z3 a0 b0 b1 b2 a1 a5 a3 a2 a6 a4) 35) →
 b5.heap[n5]? = some (.cells #[.int .i64 a0] 3) →
 b5.heap[n6]? = some (.cells #[.int .i64 b3] 3) →
 yaL ypE (ym7 392 [0, 0, 1, 0, 1, 1, 1, 1, 1, 1]) (ypF [1, 1, 1, 1, 1, 1, 0, 1, 0] [] R) (yf6 s0 n2 n3 n4 n5 n6 n7 (0, a7, a8, a9, a0, b0, b1, b2, a1, a5, a3, a2, a6, a4, a0, b3)) b5)) :
 yaL ypD (ym7 394 [0, 0, 1, 0, 1, 1, 1, 1]) (ypF [1, 1, 1, 1, 0, 1, 0] [] R) (ykK s0 q0 n0 n1 n2 n3 n4 n5 n6 n7 (i0, s1, i1, i2, i3, i4, i5, i6, q1, n8, n9, q2, o0, o1, i7, i8)) w0 :=
 lrule (ykK s0 q0 n0 n1 n2 n3 n4 n5 n6 n7) (U16 I) h0 (by rintro m ⟨b6, a7, a8, a9, b4, b0, b1, b2, a1, a5, a3, a2, a6, a4, a0, b3⟩ w h; exact ⟨by kernel_rfl, by kernel_rfl, fun js => Eq.mpr (by kernel_rfl) (hr m b6 a7 a8 a9 b4 b0 b1 b2 a1 a5 a3 a2 a6 a4 a0 b3 w h)⟩)
abbrev ym8 (a0 : BA) (bm0 bm1 bm2 bm3 bm4 bm5 : Nat) (I : Nat → Int → ByteArray → Int → Int → Int → Int → Int → Int → Option Addr → Nat → Nat → Option Addr → Nat → Nat → Int → Int → World → Prop) (m : Nat) : Kh := KG (yf6 a0 bm0 bm1 bm2 bm3 bm4 bm5) (U16 I) m
theorem yf7 {I : Nat → Int → ByteArray → Int → Int → Int → Int → Int → Int → Option Addr → Nat → Nat → Option Addr → Nat → Nat → Int → Int → World → Prop} (m' : Nat) (h1 : m' < m) (h2 : I m' i0 s1 i1 i2 i3 i4 i5 i6 q0 n6 n7 q1 n8 n9 i7 i8 w) : KS (ym8 s0 n0 n1 n2 n3 n4 n5 I m) (yf6 s0 n0 n1 n2 n3 n4 n5 (i0, s1, i1, i2, i3, i4, i5, i6, q0, n6, n7, q1, n8, n9, i7, i8)) w := ⟨m', h1, _, rfl, rfl, h2⟩
theorem yw5 (I : Nat → Int → ByteArray → Int → Int → Int → Int → Int → Int → Option Addr → Nat → Nat → Option Addr → Nat → Nat → Int → Int → World → Prop) (m0 : Nat) (h0 : I m0 i0 s1 i1 i2 i3 i4 i5 i6 q0 n6 n7 q1 n8 n9 i7 i8 w0)
 (hr : ∀ m c3 a9 b0 a1 b1 b2 b3 b4 a3 a7 a5 a4 a8 a6 b5 a2 w, I m c3 a9 b0 a1 b1 b2 b3 b4 a3 a7 a5 a4 a8 a6 b5 a2 w →
 w.heap[n1]? = some (.cells (Z2 a9 b0 a1) 191) →
 w.heap[n2]? = some (.cells (Z3 b1 b2 b3 b4 a3 a7 a5 a4 a8 a6) 35) →
 w.heap[n3]? = some (.cells #[.int .i64 b5] 3) →
 w.heap[n4]? = some (.cells #[.int .i64 a2] 3) →
 brB (decide (c3 < a2)) (
 brB (a1 == 0) (
 ∀ a0, w.heap.size ≤ a0 →
 ∀ e8, Adv [] [a0] w e8 → e8.heap[n1]? = some (.cells (Z2 a9 b0 a1) 191) →
 e8.heap[n2]? = some (.cells (Z3 b1 b2 b3 b4 a3 a7 a5 a4 a8 a6) 35) →
 e8.heap[n3]? = some (.cells #[.int .i64 b5] 3) →
 e8.heap[n4]? = some (.cells #[.int .i64 a2] 3) →
 e8.heap[a0]? = some (.cells (Z4 0 false ByteArray.empty false ByteArray.empty) 101) →
 Calls pP 125 #[(.pointer (some ⟨n1, 0, none⟩)), (.pointer (some ⟨a0, 0, none⟩))] e8 fun e d3 => e = .returned (.tuple #[]) ∧ yaZ [n1, n2, n3, n4, a0] [(n0, 35), (n5, 3)] [n0, n5] e8 d3 ∧ ∃ v0 v1 ci, d3.heap[n1]? = some (.cells (Z2 v0 v1 ci) 191) ∧ ∃ cj ck cl cm x8 ac z0 x9 ad z1, d3.heap[n2]? = some (.cells (Z3 cj ck cl cm x8 ac z0 x9 ad z1) 35) ∧ ∃ cn, d3.heap[n3]? = some (.cells #[.int .i64 cn] 3) ∧ ∃ co, d3.heap[n4]? = some (.cells #[.int .i64 co] 3) ∧ ∃ cp ap aj aq ak, d3.heap[a0]? = some (.cells (Z4 cp ap aj aq ak) 101) ∧
 ((
 ∀ d2, d3.heap.size ≤ d2 →
 ∀ e9, Adv [] [d2] d3 e9 → e9.heap[n1]? = some (.cells (Z2 v0 v1 ci) 191) →
 e9.heap[n2]? = some (.cells (Z3 cj ck cl cm x8 ac z0 x9 ad z1) 35) →
 e9.heap[n3]? = some (.cells #[.int .i64 cn] 3) →
 e9.heap[n4]? = some (.cells #[.int .i64 co] 3) →
 e9.heap[a0]? = some (.cells (Z4 cp ap aj aq ak) 101) →
 Calls pP 126 #[.string v0, .int .i64 v1] e9 fun e f2 => ∃ w5 w3 w6 w4 dc dd, e = .returned (.tuple #[(.agg (Z7 w5 w3 w6 w4)), .int .i64 dc, .int .i64 dd]) ∧ yaZ [n1, n2, n3, n4, a0] [(n0, 35), (n5, 3), (d2, 99)] [n0, n5, d2] e9 f2 ∧ ∃ cw de df, f2.heap[n1]? = some (.cells (Z2 cw de df) 191) ∧ ∃ dg dh di dj cq cu cs cr cv ct, f2.heap[n2]? = some (.cells (Z3 dg dh di dj cq cu cs cr cv ct) 35) ∧ ∃ dk, f2.heap[n3]? = some (.cells #[.int .i64 dk] 3) ∧ ∃ dl, f2.heap[n4]? = some (.cells #[.int .i64 dl] 3) ∧ ∃ dm cz cx da cy, f2.heap[a0]? = some (.cells (Z4 dm cz cx da cy) 101) ∧
 ∀ f0, Adv [d2] [] f2 f0 → f0.heap[n1]? = some (.cells (Z2 cw de df) 191) →
 f0.heap[n2]? = some (.cells (Z3 dg dh di dj cq cu cs cr cv ct) 35) →
 f0.heap[n3]? = some (.cells #[.int .i64 dk] 3) →
 f0.heap[n4]? = some (.cells #[.int .i64 dl] 3) →
 f0.heap[a0]? = some (.cells (Z4 dm cz cx da cy) 101) →
 Calls pP 127 (Z10 (some ⟨n1, 0, none⟩) dc dd) f0 fun e f1 => ∃ db, e = .returned (.bool db) ∧ yaZ [n1, n2, n3, n4, a0] [(n0, 35), (n5, 3), (d2, 99)] [n0, n5, d2] f0 f1 ∧ ∃ g2 g4 g5, f1.heap[n1]? = some (.cells (Z2 g2 g4 g5) 191) ∧ ∃ g6 g7 g8 g9 v9 w2 w1 f3 f9 f6, f1.heap[n2]? = some (.cells (Z3 g6 g7 g8 g9 v9 w2 w1 f3 f9 f6) 35) ∧ ∃ h1, f1.heap[n3]? = some (.cells #[.int .i64 h1] 3) ∧ ∃ h2, f1.heap[n4]? = some (.cells #[.int .i64 h2] 3) ∧ ∃ h3 ar v2 v6 v3, f1.heap[a0]? = some (.cells (Z4 h3 ar v2 v6 v3) 101) ∧
 brB db (
 ∀ c4, Adv [a0] [] f1 c4 → c4.heap[n1]? = some (.cells (Z2 g2 g4 g5) 191) →
 c4.heap[n2]? = some (.cells (Z3 g6 g7 g8 g9 v9 w2 w1 f3 f9 f6) 35) →
 c4.heap[n3]? = some (.cells #[.int .i64 h1] 3) →
 c4.heap[n4]? = some (.cells #[.int .i64 h2] 3) →
 c4.heap[a0]? = some (.cells (Z4 h3 w5 w3 w6 w4) 101) →
 al c4 (.cells (Z4 h3 w5 w3 w6 w4) 101) fun dn au =>
 ycZ pP (Builtin.append_ #[32, 32] 32 #[.slice v9 w2 w1, (.slice (some ⟨dn, 0, none⟩) 1 1)]) au fun w8 z2 y0 av => yaH [n0, n1, n2, n3, n4, n5, a0, d2] au av ∧
 ∀ c5, Adv [n2] [] av c5 → c5.heap[n1]? = some (.cells (Z2 g2 g4 g5) 191) →
 c5.heap[n2]? = some (.cells (Z3 g6 g7 g8 g9 w8 z2 y0 f3 f9 f6) 35) →
 c5.heap[n3]? = some (.cells #[.int .i64 h1] 3) →
 c5.heap[n4]? = some (.cells #[.int .i64 h2] 3) →
 c5.heap[a0]? = some (.cells (Z4 h3 w5 w3 w6 w4) 101) →
 KS (ym8 s0 n0 n1 n2 n3 n4 n5 I m) (yf6 s0 n0 n1 n2 n3 n4 n5 ((IntKind.wrap .i64 (c3 + 1)), g2, g4, g5, g6, g7, g8, g9, w8, z2, y0, f3, f9, f6, h1, h2)) c5)
 (
 al f1 (.cells (Z4 h3 ar v2 v6 v3) 101) fun dp aw =>
 ycZ pP (Builtin.append_ #[32, 32] 32 #[.slice v9 w2 w1, (.slice (some ⟨dp, 0, none⟩) 1 1)]) aw fun w9 z3 y1 ax => yaH [n0, n1, n2, n3, n4, n5, a0, d2] aw ax ∧
 ∀ c6, Adv [n2] [] ax c6 → c6.heap[n1]? = some (.cells (Z2 g2 g4 g5) 191) →
 c6.heap[n2]? = some (.cells (Z3 g6 g7 g8 g9 w9 z3 y1 f3 f9 f6) 35) →
 c6.heap[n3]? = some (.cells #[.int .i64 h1] 3) →
 c6.heap[n4]? = some (.cells #[.int .i64 h2] 3) →
 c6.heap[a0]? = some (.cells (Z4 h3 ar v2 v6 v3) 101) →
 KS (ym8 s0 n0 n1 n2 n3 n4 n5 I m) (yf6 s0 n0 n1 n2 n3 n4 n5 ((IntKind.wrap .i64 (c3 + 1)), g2, g4, g5, g6, g7, g8, g9, w9, z3, y1, f3, f9, f6, h1, h2)) c6)) ∧
 (
 ∀ b7, Adv [] [] d3 b7 → b7.heap[n1]? = some (.cells (Z2 v0 v1 ci) 191) →
 b7.heap[n2]? = some (.cells (Z3 cj ck cl cm x8 ac z0 x9 ad z1) 35) →
 b7.heap[n3]? = some (.cells #[.int .i64 cn] 3) →
 b7.heap[n4]? = some (.cells #[.int .i64 co] 3) →
 b7.heap[a0]? = some (.cells (Z4 cp ap aj aq ak) 101) →
 Calls pP 126 #[.string v0, .int .i64 v1] b7 fun e b8 => ∃ u7 u5 u9 u6 bc bd, e = .returned (.tuple #[(.agg (Z7 u7 u5 u9 u6)), .int .i64 bc, .int .i64 bd]) ∧ yaZ [n1, n2, n3, n4, a0] [(n0, 35), (n5, 3)] [n0, n5] b7 b8 ∧ ∃ ae be bf, b8.heap[n1]? = some (.cells (Z2 ae be bf) 191) ∧ ∃ bg bh bi bj x0 z4 y2 x1 z5 y3, b8.heap[n2]? = some (.cells (Z3 bg bh bi bj x0 z4 y2 x1 z5 y3) 35) ∧ ∃ bk, b8.heap[n3]? = some (.cells #[.int .i64 bk] 3) ∧ ∃ bl, b8.heap[n4]? = some (.cells #[.int .i64 bl] 3) ∧ ∃ bm am af an ag, b8.heap[a0]? = some (.cells (Z4 bm am af an ag) 101) ∧
 ∀ d5, b8.heap.size ≤ d5 →
 ∀ b9, Adv [] [d5] b8 b9 → b9.heap[n1]? = some (.cells (Z2 ae be bf) 191) →
 b9.heap[n2]? = some (.cells (Z3 bg bh bi bj x0 z4 y2 x1 z5 y3) 35) →
 b9.heap[n3]? = some (.cells #[.int .i64 bk] 3) →
 b9.heap[n4]? = some (.cells #[.int .i64 bl] 3) →
 b9.heap[a0]? = some (.cells (Z4 bm am af an ag) 101) →
 Calls pP 127 (Z10 (some ⟨n1, 0, none⟩) bc bd) b9 fun e c0 => ∃ ao, e = .returned (.bool ao) ∧ yaZ [n1, n2, n3, n4, a0] [(n0, 35), (n5, 3), (d5, 99)] [n0, n5, d5] b9 c0 ∧ ∃ d8 d9 e0, c0.heap[n1]? = some (.cells (Z2 d8 d9 e0) 191) ∧ ∃ e1 e2 e3 e4 u2 u4 u3 d4 d7 d6, c0.heap[n2]? = some (.cells (Z3 e1 e2 e3 e4 u2 u4 u3 d4 d7 d6) 35) ∧ ∃ e5, c0.heap[n3]? = some (.cells #[.int .i64 e5] 3) ∧ ∃ e6, c0.heap[n4]? = some (.cells #[.int .i64 e6] 3) ∧ ∃ e7 v7 v4 v8 v5, c0.heap[a0]? = some (.cells (Z4 e7 v7 v4 v8 v5) 101) ∧
 brB ao (
 ∀ c7, Adv [a0] [] c0 c7 → c7.heap[n1]? = some (.cells (Z2 d8 d9 e0) 191) →
 c7.heap[n2]? = some (.cells (Z3 e1 e2 e3 e4 u2 u4 u3 d4 d7 d6) 35) →
 c7.heap[n3]? = some (.cells #[.int .i64 e5] 3) →
 c7.heap[n4]? = some (.cells #[.int .i64 e6] 3) →
 c7.heap[a0]? = some (.cells (Z4 e7 u7 u5 u9 u6) 101) →
 al c7 (.cells (Z4 e7 u7 u5 u9 u6) 101) fun dq ay =>
 ycZ pP (Builtin.append_ #[32, 32] 32 #[.slice u2 u4 u3, (.slice (some ⟨dq, 0, none⟩) 1 1)]) ay fun x2 z6 y4 az => yaH [n0, n1, n2, n3, n4, n5, a0, d5] ay az ∧
 ∀ c8, Adv [n2] [] az c8 → c8.heap[n1]? = some (.cells (Z2 d8 d9 e0) 191) →
 c8.heap[n2]? = some (.cells (Z3 e1 e2 e3 e4 x2 z6 y4 d4 d7 d6) 35) →
 c8.heap[n3]? = some (.cells #[.int .i64 e5] 3) →
 c8.heap[n4]? = some (.cells #[.int .i64 e6] 3) →
 c8.heap[a0]? = some (.cells (Z4 e7 u7 u5 u9 u6) 101) →
 KS (ym8 s0 n0 n1 n2 n3 n4 n5 I m) (yf6 s0 n0 n1 n2 n3 n4 n5 ((IntKind.wrap .i64 (c3 + 1)), d8, d9, e0, e1, e2, e3, e4, x2, z6, y4, d4, d7, d6, e5, e6)) c8)
 (
 al c0 (.cells (Z4 e7 v7 v4 v8 v5) 101) fun dr ba =>
 ycZ pP (Builtin.append_ #[32, 32] 32 #[.slice u2 u4 u3, (.slice (some ⟨dr, 0, none⟩) 1 1)]) ba fun x3 z7 y5 bb => yaH [n0, n1, n2, n3, n4, n5, a0, d5] ba bb ∧
 ∀ c9, Adv [n2] [] bb c9 → c9.heap[n1]? = some (.cells (Z2 d8 d9 e0) 191) →
 c9.heap[n2]? = some (.cells (Z3 e1 e2 e3 e4 x3 z7 y5 d4 d7 d6) 35) →
 c9.heap[n3]? = some (.cells #[.int .i64 e5] 3) →
 c9.heap[n4]? = some (.cells #[.int .i64 e6] 3) →
 c9.heap[a0]? = some (.cells (Z4 e7 v7 v4 v8 v5) 101) →
 KS (ym8 s0 n0 n1 n2 n3 n4 n5 I m) (yf6 s0 n0 n1 n2 n3 n4 n5 ((IntKind.wrap .i64 (c3 + 1)), d8, d9, e0, e1, e2, e3, e4, x3, z7, y5, d4, d7, d6, e5, e6)) c9))))
 (
 ∀ c1, Adv [] [] w c1 → c1.heap[n1]? = some (.cells (Z2 a9 b0 a1) 191) →
 c1.heap[n2]? = some (.cells (Z3 b1 b2 b3 b4 a3 a7 a5 a4 a8 a6) 35) →
 c1.heap[n3]? = some (.cells #[.int .i64 b5] 3) →
 c1.heap[n4]? = some (.cells #[.int .i64 a2] 3) →
 c1.heap[n5]? = some (.cells #[.int .i64 0] 3) →
 Calls pP 125 #[(.pointer (some ⟨n1, 0, none⟩)), (.pointer (some ⟨n5, 0, none⟩))] c1 fun e d0 => e = .returned (.tuple #[]) ∧ yaZ [n1, n2, n3, n4, n5] [(n0, 35)] [n0] c1 d0 ∧ ∃ ah bn bo, d0.heap[n1]? = some (.cells (Z2 ah bn bo) 191) ∧ ∃ bp bq br bt x4 z8 y6 x5 z9 y7, d0.heap[n2]? = some (.cells (Z3 bp bq br bt x4 z8 y6 x5 z9 y7) 35) ∧ ∃ bu, d0.heap[n3]? = some (.cells #[.int .i64 bu] 3) ∧ ∃ bv, d0.heap[n4]? = some (.cells #[.int .i64 bv] 3) ∧ ∃ bw, d0.heap[n5]? = some (.cells #[.int .i64 bw] 3) ∧
 yaL yiQ (ym7 390 [0, 0, 1, 0, 1, 1, 1, 1, 1, 1, 1, 1]) (ypF [1, 1, 1, 1, 1, 1, 1, 1, 0, 1, 0] [] R) (yg2 s0 n0 n1 n2 n3 n4 n5 (0, ah, bn, bo, bp, bq, br, bt, x4, z8, y6, x5, z9, y7, bu, bv, bw)) d0))
 (
 ∀ c2, Adv [] [] w c2 → c2.heap[n1]? = some (.cells (Z2 a9 b0 a1) 191) →
 c2.heap[n2]? = some (.cells (Z3 b1 b2 b3 b4 a3 a7 a5 a4 a8 a6) 35) →
 c2.heap[n3]? = some (.cells #[.int .i64 b5] 3) →
 c2.heap[n4]? = some (.cells #[.int .i64 a2] 3) →
 c2.heap[n5]? = some (.cells #[.int .i64 0] 3) →
 Calls pP 125 #[(.pointer (some ⟨n1, 0, none⟩)), (.pointer (some ⟨n5, 0, none⟩))] c2 fun e d1 => e = .returned (.tuple #[]) ∧ yaZ [n1, n2, n3, n4, n5] [(n0, 35)] [n0] c2 d1 ∧ ∃ ai bx bz, d1.heap[n1]? = some (.cells (Z2 ai bx bz) 191) ∧ ∃ ca cb cc cd x6 aa y8 x7 ab y9, d1.heap[n2]? = some (.cells (Z3 ca cb cc cd x6 aa y8 x7 ab y9) 35) ∧ ∃ ce, d1.heap[n3]? = some (.cells #[.int .i64 ce] 3) ∧ ∃ cf, d1.heap[n4]? = some (.cells #[.int .i64 cf] 3) ∧ ∃ ch, d1.heap[n5]? = some (.cells #[.int .i64 ch] 3) ∧
 yaL yiQ (ym7 390 [0, 0, 1, 0, 1, 1, 1, 1, 1, 1, 1, 1]) (ypF [1, 1, 1, 1, 1, 1, 1, 1, 0, 1, 0] [] R) (yg2 s0 n0 n1 n2 n3 n4 n5 (0, ai, bx, bz, ca, cb, cc, cd, x6, aa, y8, x7, ab, y9, ce, cf, ch)) d1)) :
 yaL ypE (ym7 392 [0, 0, 1, 0, 1, 1, 1, 1, 1, 1]) (ypF [1, 1, 1, 1, 1, 1, 0, 1, 0] [] R) (yf6 s0 n0 n1 n2 n3 n4 n5 (i0, s1, i1, i2, i3, i4, i5, i6, q0, n6, n7, q1, n8, n9, i7, i8)) w0 :=
 lrule (yf6 s0 n0 n1 n2 n3 n4 n5) (U16 I) h0 (by rintro m ⟨c3, a9, b0, a1, b1, b2, b3, b4, a3, a7, a5, a4, a8, a6, b5, a2⟩ w h; exact ⟨by kernel_rfl, by kernel_rfl, fun js => Eq.mpr (by kernel_rfl) (hr m c3 a9 b0 a1 b1 b2 b3 b4 a3 a7 a5 a4 a8 a6 b5 a2 w h)⟩)
abbrev yAQ (a0 : BA) (bm0 bm1 bm2 bm3 bm4 bm5 : Nat) (I : Nat → Int → ByteArray → Int → Int → Int → Int → Int → Int → Option Addr → Nat → Nat → Option Addr → Nat → Nat → Int → Int → Int → World → Prop) (m : Nat) : Kh := KG (yg2 a0 bm0 bm1 bm2 bm3 bm4 bm5) (U17 I) m
theorem yw6 {I : Nat → Int → ByteArray → Int → Int → Int → Int → Int → Int → Option Addr → Nat → Nat → Option Addr → Nat → Nat → Int → Int → Int → World → Prop} (m' : Nat) (h1 : m' < m) (h2 : I m' i0 s1 i1 i2 i3 i4 i5 i6 q0 n6 n7 q1 n8 n9 i7 i8 i9 w) : KS (yAQ s0 n0 n1 n2 n3 n4 n5 I m) (yg2 s0 n0 n1 n2 n3 n4 n5 (i0, s1, i1, i2, i3, i4, i5, i6, q0, n6, n7, q1, n8, n9, i7, i8, i9)) w := ⟨m', h1, _, rfl, rfl, h2⟩
theorem yw7 (I : Nat → Int → ByteArray → Int → Int → Int → Int → Int → Int → Option Addr → Nat → Nat → Option Addr → Nat → Nat → Int → Int → Int → World → Prop) (m0 : Nat) (h0 : I m0 i0 s1 i1 i2 i3 i4 i5 i6 q0 n6 n7 q1 n8 n9 i7 i8 i9 w0)
 (hr : ∀ m g2 b6 b9 b2 a6 a7 a8 a9 a0 a4 a2 a1 a5 a3 c0 c1 b3 w, I m g2 b6 b9 b2 a6 a7 a8 a9 a0 a4 a2 a1 a5 a3 c0 c1 b3 w →
 w.heap[n1]? = some (.cells (Z2 b6 b9 b2) 191) →
 w.heap[n2]? = some (.cells (Z3 a6 a7 a8 a9 a0 a4 a2 a1 a5 a3) 35) →
 w.heap[n3]? = some (.cells #[.int .i64 c0] 3) →
 w.heap[n4]? = some (.cells #[.int .i64 c1] 3) →
 w.heap[n5]? = some (.cells #[.int .i64 b3] 3) →
 brB (decide (g2 < b3)) (
 brB (b2 == 0) (
 ∀ b5, w.heap.size ≤ b5 →
 ∀ b4, Adv [] [b5] w b4 → b4.heap[n1]? = some (.cells (Z2 b6 b9 b2) 191) →
 b4.heap[n2]? = some (.cells (Z3 a6 a7 a8 a9 a0 a4 a2 a1 a5 a3) 35) →
 b4.heap[n3]? = some (.cells #[.int .i64 c0] 3) →
 b4.heap[n4]? = some (.cells #[.int .i64 c1] 3) →
 b4.heap[n5]? = some (.cells #[.int .i64 b3] 3) →
 b4.heap[b5]? = some (.cells #[.string ByteArray.empty, .int .i64 0] 42) →
 Calls pP 82 #[(.iface 189 (.pointer (some ⟨n1, 0, none⟩))), (.pointer (some ⟨b5, 0, none⟩))] b4 fun e b7 => e = .returned (.tuple #[]) ∧ yaZ [n1, n2, n3, n4, n5, b5] [(n0, 35)] [n0] b4 b7 ∧ ∃ u4 u6 u7, b7.heap[n1]? = some (.cells (Z2 u4 u6 u7) 191) ∧ ∃ u9 v0 v1 v2 u1 u3 u2 v8 w3 w1, b7.heap[n2]? = some (.cells (Z3 u9 v0 v1 v2 u1 u3 u2 v8 w3 w1) 35) ∧ ∃ v3, b7.heap[n3]? = some (.cells #[.int .i64 v3] 3) ∧ ∃ v4, b7.heap[n4]? = some (.cells #[.int .i64 v4] 3) ∧ ∃ v5, b7.heap[n5]? = some (.cells #[.int .i64 v5] 3) ∧ ∃ u5 v6, b7.heap[b5]? = some (.cells #[.string u5, .int .i64 v6] 42) ∧
 al b7 (.cells #[.string u5, .int .i64 v6] 42) fun x1 w7 =>
 ycZ pP (Builtin.append_ #[33, 33] 33 #[.slice v8 w3 w1, (.slice (some ⟨x1, 0, none⟩) 1 1)]) w7 fun v9 w4 w2 w8 => yaH [n0, n1, n2, n3, n4, n5, b5] w7 w8 ∧
 ∀ b8, Adv [n2] [] w8 b8 → b8.heap[n1]? = some (.cells (Z2 u4 u6 u7) 191) →
 b8.heap[n2]? = some (.cells (Z3 u9 v0 v1 v2 u1 u3 u2 v9 w4 w2) 35) →
 b8.heap[n3]? = some (.cells #[.int .i64 v3] 3) →
 b8.heap[n4]? = some (.cells #[.int .i64 v4] 3) →
 b8.heap[n5]? = some (.cells #[.int .i64 v5] 3) →
 b8.heap[b5]? = some (.cells #[.string u5, .int .i64 v6] 42) →
 KS (yAQ s0 n0 n1 n2 n3 n4 n5 I m) (yg2 s0 n0 n1 n2 n3 n4 n5 ((IntKind.wrap .i64 (g2 + 1)), u4, u6, u7, u9, v0, v1, v2, u1, u3, u2, v9, w4, w2, v3, v4, v5)) b8)
 (
 Calls pP 54 #[(.agg (Z3 a6 a7 a8 a9 a0 a4 a2 a1 a5 a3))] w fun e b0 => ∃ w5 w9, e = .returned (.tuple #[.string w5, .int .i64 w9]) ∧ yaZ [n1, n2, n3, n4, n5] [(n0, 35)] [n0] w b0 ∧ ∃ f2 f4 e2, b0.heap[n1]? = some (.cells (Z2 f2 f4 e2) 191) ∧ ∃ e3 e4 e5 e6 d0 d8 d4 d1 d9 d5, b0.heap[n2]? = some (.cells (Z3 e3 e4 e5 e6 d0 d8 d4 d1 d9 d5) 35) ∧ ∃ f5, b0.heap[n3]? = some (.cells #[.int .i64 f5] 3) ∧ ∃ f6, b0.heap[n4]? = some (.cells #[.int .i64 f6] 3) ∧ ∃ f7, b0.heap[n5]? = some (.cells #[.int .i64 f7] 3) ∧
 brB (e2 != 0) (
 ∀ c2, Adv [n0] [] b0 c2 → c2.heap[n1]? = some (.cells (Z2 f2 f4 e2) 191) →
 c2.heap[n2]? = some (.cells (Z3 e3 e4 e5 e6 d0 d8 d4 d1 d9 d5) 35) →
 c2.heap[n3]? = some (.cells #[.int .i64 f5] 3) →
 c2.heap[n4]? = some (.cells #[.int .i64 f6] 3) →
 c2.heap[n5]? = some (.cells #[.int .i64 f7] 3) →
 R (.tuple #[(.agg (Z3 0 0 0 0 none 0 0 none 0 0)), .int .i64 40]) c2)
 (
 brB (w9 != 0) (
 ∀ c3, Adv [n0] [] b0 c3 → c3.heap[n1]? = some (.cells (Z2 f2 f4 e2) 191) →
 c3.heap[n2]? = some (.cells (Z3 e3 e4 e5 e6 d0 d8 d4 d1 d9 d5) 35) →
 c3.heap[n3]? = some (.cells #[.int .i64 f5] 3) →
 c3.heap[n4]? = some (.cells #[.int .i64 f6] 3) →
 c3.heap[n5]? = some (.cells #[.int .i64 f7] 3) →
 R (.tuple #[(.agg (Z3 0 0 0 0 none 0 0 none 0 0)), .int .i64 40]) c3)
 (
 brB (!(w5.toList == s0.toList)) (
 ∀ c4, Adv [n0] [] b0 c4 → c4.heap[n1]? = some (.cells (Z2 f2 f4 e2) 191) →
 c4.heap[n2]? = some (.cells (Z3 e3 e4 e5 e6 d0 d8 d4 d1 d9 d5) 35) →
 c4.heap[n3]? = some (.cells #[.int .i64 f5] 3) →
 c4.heap[n4]? = some (.cells #[.int .i64 f6] 3) →
 c4.heap[n5]? = some (.cells #[.int .i64 f7] 3) →
 R (.tuple #[(.agg (Z3 0 0 0 0 none 0 0 none 0 0)), .int .i64 40]) c4)
 (
 ∀ c5, Adv [n0] [] b0 c5 → c5.heap[n1]? = some (.cells (Z2 f2 f4 e2) 191) →
 c5.heap[n2]? = some (.cells (Z3 e3 e4 e5 e6 d0 d8 d4 d1 d9 d5) 35) →
 c5.heap[n3]? = some (.cells #[.int .i64 f5] 3) →
 c5.heap[n4]? = some (.cells #[.int .i64 f6] 3) →
 c5.heap[n5]? = some (.cells #[.int .i64 f7] 3) →
 R (.tuple #[(.agg (Z3 e3 e4 e5 e6 d0 d8 d4 d1 d9 d5)), .int .i64 0]) c5)))))
 (
 Calls pP 54 #[(.agg (Z3 a6 a7 a8 a9 a0 a4 a2 a1 a5 a3))] w fun e b1 => ∃ w6 x0, e = .returned (.tuple #[.string w6, .int .i64 x0]) ∧ yaZ [n1, n2, n3, n4, n5] [(n0, 35)] [n0] w b1 ∧ ∃ f3 f8 e7, b1.heap[n1]? = some (.cells (Z2 f3 f8 e7) 191) ∧ ∃ e8 e9 f0 f1 d2 e0 d6 d3 e1 d7, b1.heap[n2]? = some (.cells (Z3 e8 e9 f0 f1 d2 e0 d6 d3 e1 d7) 35) ∧ ∃ f9, b1.heap[n3]? = some (.cells #[.int .i64 f9] 3) ∧ ∃ g0, b1.heap[n4]? = some (.cells #[.int .i64 g0] 3) ∧ ∃ g1, b1.heap[n5]? = some (.cells #[.int .i64 g1] 3) ∧
 brB (e7 != 0) (
 ∀ c6, Adv [n0] [] b1 c6 → c6.heap[n1]? = some (.cells (Z2 f3 f8 e7) 191) →
 c6.heap[n2]? = some (.cells (Z3 e8 e9 f0 f1 d2 e0 d6 d3 e1 d7) 35) →
 c6.heap[n3]? = some (.cells #[.int .i64 f9] 3) →
 c6.heap[n4]? = some (.cells #[.int .i64 g0] 3) →
 c6.heap[n5]? = some (.cells #[.int .i64 g1] 3) →
 R (.tuple #[(.agg (Z3 0 0 0 0 none 0 0 none 0 0)), .int .i64 40]) c6)
 (
 brB (x0 != 0) (
 ∀ c7, Adv [n0] [] b1 c7 → c7.heap[n1]? = some (.cells (Z2 f3 f8 e7) 191) →
 c7.heap[n2]? = some (.cells (Z3 e8 e9 f0 f1 d2 e0 d6 d3 e1 d7) 35) →
 c7.heap[n3]? = some (.cells #[.int .i64 f9] 3) →
 c7.heap[n4]? = some (.cells #[.int .i64 g0] 3) →
 c7.heap[n5]? = some (.cells #[.int .i64 g1] 3) →
 R (.tuple #[(.agg (Z3 0 0 0 0 none 0 0 none 0 0)), .int .i64 40]) c7)
 (
 brB (!(w6.toList == s0.toList)) (
 ∀ c8, Adv [n0] [] b1 c8 → c8.heap[n1]? = some (.cells (Z2 f3 f8 e7) 191) →
 c8.heap[n2]? = some (.cells (Z3 e8 e9 f0 f1 d2 e0 d6 d3 e1 d7) 35) →
 c8.heap[n3]? = some (.cells #[.int .i64 f9] 3) →
 c8.heap[n4]? = some (.cells #[.int .i64 g0] 3) →
 c8.heap[n5]? = some (.cells #[.int .i64 g1] 3) →
 R (.tuple #[(.agg (Z3 0 0 0 0 none 0 0 none 0 0)), .int .i64 40]) c8)
 (
 ∀ c9, Adv [n0] [] b1 c9 → c9.heap[n1]? = some (.cells (Z2 f3 f8 e7) 191) →
 c9.heap[n2]? = some (.cells (Z3 e8 e9 f0 f1 d2 e0 d6 d3 e1 d7) 35) →
 c9.heap[n3]? = some (.cells #[.int .i64 f9] 3) →
 c9.heap[n4]? = some (.cells #[.int .i64 g0] 3) →
 c9.heap[n5]? = some (.cells #[.int .i64 g1] 3) →
 R (.tuple #[(.agg (Z3 e8 e9 f0 f1 d2 e0 d6 d3 e1 d7)), .int .i64 0]) c9))))) :
 yaL yiQ (ym7 390 [0, 0, 1, 0, 1, 1, 1, 1, 1, 1, 1, 1]) (ypF [1, 1, 1, 1, 1, 1, 1, 1, 0, 1, 0] [] R) (yg2 s0 n0 n1 n2 n3 n4 n5 (i0, s1, i1, i2, i3, i4, i5, i6, q0, n6, n7, q1, n8, n9, i7, i8, i9)) w0 :=
 lrule (yg2 s0 n0 n1 n2 n3 n4 n5) (U17 I) h0 (by rintro m ⟨g2, b6, b9, b2, a6, a7, a8, a9, a0, a4, a2, a1, a5, a3, c0, c1, b3⟩ w h; exact ⟨by kernel_rfl, by kernel_rfl, fun js => Eq.mpr (by kernel_rfl) (hr m g2 b6 b9 b2 a6 a7 a8 a9 a0 a4 a2 a1 a5 a3 c0 c1 b3 w h)⟩)
theorem yE3 (h :
 ∀ b1, w.heap.size ≤ b1 →
 ∀ b2, w.heap.size ≤ b2 →
 ∀ b3, w.heap.size ≤ b3 →
 ∀ b4, w.heap.size ≤ b4 →
 ∀ b5, w.heap.size ≤ b5 →
 ∀ b6, w.heap.size ≤ b6 →
 ∀ w7, Adv [] [b6, b5, b4, b3, b2, b1] w w7 → w7.heap[b3]? = some (.cells (Z3 0 0 0 0 none 0 0 none 0 0) 35) →
 w7.heap[b4]? = some (.cells #[.int .i64 0] 3) →
 w7.heap[b5]? = some (.cells #[.int .i64 0] 3) →
 al w7 (.cells #[(.pointer (some ⟨b4, 0, none⟩)), (.pointer (some ⟨b3, 1, none⟩)), (.pointer (some ⟨b3, 2, none⟩)), (.pointer (some ⟨b3, 3, none⟩)), (.pointer (some ⟨b5, 0, none⟩))] 107) fun b8 w9 =>
 ∀ a0, Adv [] [] w9 a0 → a0.heap[b2]? = some (.cells (Z2 s0 0 0) 191) →
 a0.heap[b3]? = some (.cells (Z3 0 0 0 0 none 0 0 none 0 0) 35) →
 a0.heap[b4]? = some (.cells #[.int .i64 0] 3) →
 a0.heap[b5]? = some (.cells #[.int .i64 0] 3) →
 yaL ypD (ym7 394 [0, 0, 1, 0, 1, 1, 1, 1]) (ypF [1, 1, 1, 1, 0, 1, 0] [] R) (ykK s0 (some ⟨b8, 0, none⟩) 5 5 b1 b2 b3 b4 b5 b6 (0, s0, 0, 0, 0, 0, 0, 0, none, 0, 0, none, 0, 0, 0, 0)) a0) :
 CR pP 88 #[.string s0] w R :=
 yaA Tryz.wide_mixed (an := yrH) Tryz.func88 rfl rfl (by kernel_rfl) rfl (Eq.mpr (by kernel_rfl) h)
def ypG : LA := ⟨[0, 0, 1, 0, 1, 1, 1], [0, 2, 3, 4, 15, 16], [(2, 0, 0), (3, 1, 0)], 2, [1]⟩
def yrI : List LA := [ypG]
abbrev yE4 := dnF pP yrI (code Tryz.f59)
abbrev yGM := yaW pP yrI (code Tryz.f59)
abbrev yE5 (p : List Nat) (K : List Kh) (R : VWP) := yaW pP yrI (code Tryz.f59) p K (ybI pP Tryz.f59 [] R)
def ykL (d4 : BA) (b3 b4 b5 b6 b7 b8 b9 c0 c1 c2 : OA) (bm0 bm1 : Nat) : Int × Int × Int × Int × Int × Int × Int × Int × Int × Int × Int × Int × (Option Addr) × Nat × Nat × Int × Int × Int × Int × (Option Addr) × Nat × Nat × (Option Addr) × Nat × Nat → List Value × List TB := fun (d5, d3, c3, c4, c5, c6, c7, c8, c9, d0, d1, d2, a0, a6, a3, a9, b0, b1, b2, a1, a7, a4, a2, a8, a5) => ([.string d4, (.pointer (some ⟨bm0, 0, none⟩)), (.pointer (some ⟨bm1, 0, none⟩)), .int .i64 d5, (.agg (Z6 b3 b4 b5 b6 b7 b8 b9 c0 c1 c2)), .int .i64 d3], [⟨bm0, 37, [.int .i64 0, .int .i64 0, .int .i64 0, .int .i64 0, .int .i64 0, .int .i64 0, .int .i64 0, .int .i64 0, .int .i64 0, .int .i64 0, .slice none 0 0, .int .i64 0, .int .i64 0, .int .i64 0, .int .i64 0, .slice none 0 0, .slice none 0 0], false⟩, ⟨bm1, 37, [.int .i64 c3, .int .i64 c4, .int .i64 c5, .int .i64 c6, .int .i64 c7, .int .i64 c8, .int .i64 c9, .int .i64 d0, .int .i64 d1, .int .i64 d2, .slice a0 a6 a3, .int .i64 a9, .int .i64 b0, .int .i64 b1, .int .i64 b2, .slice a1 a7 a4, .slice a2 a8 a5], true⟩])
abbrev yAR (b0 : BA) (a0 a1 a2 a3 a4 a5 a6 a7 a8 a9 : OA) (bm0 bm1 : Nat) (I : Nat → Int → Int → Int → Int → Int → Int → Int → Int → Int → Int → Int → Int → Option Addr → Nat → Nat → Int → Int → Int → Int → Option Addr → Nat → Nat → Option Addr → Nat → Nat → World → Prop) (m : Nat) : Kh := KG (ykL b0 a0 a1 a2 a3 a4 a5 a6 a7 a8 a9 bm0 bm1) (U25 I) m
theorem yw8 {I : Nat → Int → Int → Int → Int → Int → Int → Int → Int → Int → Int → Int → Int → Option Addr → Nat → Nat → Int → Int → Int → Int → Option Addr → Nat → Nat → Option Addr → Nat → Nat → World → Prop} (m' : Nat) (h1 : m' < m) (h2 : I m' i0 i1 i2 i3 i4 i5 i6 i7 i8 i9 j0 j1 r0 n2 n3 j2 j3 j4 j5 r1 n4 n5 r2 n6 n7 w) : KS (yAR s0 q0 q1 q2 q3 q4 q5 q6 q7 q8 q9 n0 n1 I m) (ykL s0 q0 q1 q2 q3 q4 q5 q6 q7 q8 q9 n0 n1 (i0, i1, i2, i3, i4, i5, i6, i7, i8, i9, j0, j1, r0, n2, n3, j2, j3, j4, j5, r1, n4, n5, r2, n6, n7)) w := ⟨m', h1, _, rfl, rfl, h2⟩
theorem yw9 (I : Nat → Int → Int → Int → Int → Int → Int → Int → Int → Int → Int → Int → Int → Option Addr → Nat → Nat → Int → Int → Int → Int → Option Addr → Nat → Nat → Option Addr → Nat → Nat → World → Prop) (m0 : Nat) (h0 : I m0 i0 i1 i2 i3 i4 i5 i6 i7 i8 i9 j0 j1 r0 n2 n3 j2 j3 j4 j5 r1 n4 n5 r2 n6 n7 w0)
 (hr : ∀ m g2 d3 c3 c4 c5 c6 c7 c8 c9 d0 d1 d2 b0 b6 b3 b9 c0 c1 c2 b1 b7 b4 b2 b8 b5 w, I m g2 d3 c3 c4 c5 c6 c7 c8 c9 d0 d1 d2 b0 b6 b3 b9 c0 c1 c2 b1 b7 b4 b2 b8 b5 w →
 w.heap[n1]? = some (.cells (Z0 c3 c4 c5 c6 c7 c8 c9 d0 d1 d2 b0 b6 b3 b9 c0 c1 c2 b1 b7 b4 b2 b8 b5) 37) →
 brB (decide (d3 < 10)) (
 ∃ co, (∀ w' : World, (Instr.index 108 (.agg (Z6 q0 q1 q2 q3 q4 q5 q6 q7 q8 q9)) (.int .i64 d3)).run pP w' = .ok (.pointer co) w') ∧
 Calls pP 86 #[.string s0, .int .i64 g2] w fun e e9 => ∃ bm cq cr, e = .returned (.tuple #[.int .u64 bm, .int .i64 cq, .int .i64 cr]) ∧ yaZ [n1] [(n0, 37)] [n0] w e9 ∧ ∃ bn bo bp bq br bt bu bv bw bx w4 y8 x6 bz ca cb cc w5 y9 x7 w6 z0 x8, e9.heap[n1]? = some (.cells (Z0 bn bo bp bq br bt bu bv bw bx w4 y8 x6 bz ca cb cc w5 y9 x7 w6 z0 x8) 37) ∧
 brB (cr != 0) (
 ∀ z2, Adv [n0] [] e9 z2 → z2.heap[n1]? = some (.cells (Z0 bn bo bp bq br bt bu bv bw bx w4 y8 x6 bz ca cb cc w5 y9 x7 w6 z0 x8) 37) →
 R (.agg (Z0 0 0 0 0 0 0 0 0 0 0 none 0 0 0 0 0 0 none 0 0 none 0 0)) z2)
 (
 brB (decide (bm > 1099511627776)) (
 ∀ z3, Adv [n0] [] e9 z3 → z3.heap[n1]? = some (.cells (Z0 bn bo bp bq br bt bu bv bw bx w4 y8 x6 bz ca cb cc w5 y9 x7 w6 z0 x8) 37) →
 R (.agg (Z0 0 0 0 0 0 0 0 0 0 0 none 0 0 0 0 0 0 none 0 0 none 0 0)) z3)
 (
 ynK co fun ec =>
 st e9 ec [(.int .i64 (IntKind.wrap .i64 bm))] fun z4 => yaZ [n1] [(n0, 37)] [n0] e9 z4 ∧ ∃ cs ct cu cv cw cx cy cz da db ce cl ci dc dd de df cf cm cj ch cn ck, z4.heap[n1]? = some (.cells (Z0 cs ct cu cv cw cx cy cz da db ce cl ci dc dd de df cf cm cj ch cn ck) 37) ∧
 KS (yAR s0 q0 q1 q2 q3 q4 q5 q6 q7 q8 q9 n0 n1 I m) (ykL s0 q0 q1 q2 q3 q4 q5 q6 q7 q8 q9 n0 n1 (cq, (IntKind.wrap .i64 (d3 + 1)), cs, ct, cu, cv, cw, cx, cy, cz, da, db, ce, cl, ci, dc, dd, de, df, cf, cm, cj, ch, cn, ck)) z4)))
 (
 Calls pP 85 (Z2 s0 g2 1048576) w fun e g1 => ∃ cp dg dh, e = .returned (.tuple (Z2 cp dg dh)) ∧ yaZ [n1] [(n0, 37)] [n0] w g1 ∧ ∃ di dj dk z5 z6 z7 z8 z9 aa ab v4 x9 w7 ac ad ae af v5 y0 w8 v6 y1 w9, g1.heap[n1]? = some (.cells (Z0 di dj dk z5 z6 z7 z8 z9 aa ab v4 x9 w7 ac ad ae af v5 y0 w8 v6 y1 w9) 37) ∧
 brB (dh != 0) (
 ∀ h3, Adv [n0] [] g1 h3 → h3.heap[n1]? = some (.cells (Z0 di dj dk z5 z6 z7 z8 z9 aa ab v4 x9 w7 ac ad ae af v5 y0 w8 v6 y1 w9) 37) →
 R (.agg (Z0 0 0 0 0 0 0 0 0 0 0 none 0 0 0 0 0 0 none 0 0 none 0 0)) h3)
 (
 Calls pP 85 (Z2 s0 dg 1048576) g1 fun e e4 => ∃ z1 dv ag, e = .returned (.tuple (Z2 z1 dv ag)) ∧ yaZ [n1] [(n0, 37)] [n0] g1 e4 ∧ ∃ ah ai aj ak am an ao ap aq ar v7 y2 x0 au av aw ax v8 y3 x1 v9 y4 x2, e4.heap[n1]? = some (.cells (Z0 ah ai aj ak am an ao ap aq ar v7 y2 x0 au av aw ax v8 y3 x1 v9 y4 x2) 37) ∧
 brB (ag != 0) (
 ∀ h4, Adv [n0] [] e4 h4 → h4.heap[n1]? = some (.cells (Z0 ah ai aj ak am an ao ap aq ar v7 y2 x0 au av aw ax v8 y3 x1 v9 y4 x2) 37) →
 R (.agg (Z0 0 0 0 0 0 0 0 0 0 0 none 0 0 0 0 0 0 none 0 0 none 0 0)) h4)
 (
 Calls pP 87 #[.string cp] e4 fun e h5 => ∃ w1 y5 x3 dw, e = .returned (.tuple #[.slice w1 y5 x3, .int .i64 dw]) ∧ yaZ [n1] [(n0, 37)] [n0] e4 h5 ∧ ∃ ay az ba bb bc bd be bf bg bh dl ds dp bi bj bk bl w2 y6 x4 w3 y7 x5, h5.heap[n1]? = some (.cells (Z0 ay az ba bb bc bd be bf bg bh dl ds dp bi bj bk bl w2 y6 x4 w3 y7 x5) 37) ∧
 ∀ g0, Adv [n1] [] h5 g0 → g0.heap[n1]? = some (.cells (Z0 ay az ba bb bc bd be bf bg bh w1 y5 x3 bi bj bk bl w2 y6 x4 w3 y7 x5) 37) →
 Calls pP 88 #[.string z1] g0 fun e h6 => ∃ h8 h9 u0 u1 g3 g9 g6 g4 h1 g7 dx, e = .returned (.tuple #[(.agg (Z3 h8 h9 u0 u1 g3 g9 g6 g4 h1 g7)), .int .i64 dx]) ∧ yaZ [n1] [(n0, 37)] [n0] g0 h6 ∧ ∃ u2 u3 u4 u5 u6 u7 u9 v0 v1 v2 g5 h2 g8 dy dz ea eb dm dt dq dn du dr, h6.heap[n1]? = some (.cells (Z0 u2 u3 u4 u5 u6 u7 u9 v0 v1 v2 g5 h2 g8 dy dz ea eb dm dt dq dn du dr) 37) ∧
 ∀ h7, Adv [n0, n1] [] h6 h7 → h7.heap[n1]? = some (.cells (Z0 u2 u3 u4 u5 u6 u7 u9 v0 v1 v2 g5 h2 g8 h8 h9 u0 u1 g3 g9 g6 g4 h1 g7) 37) →
 R (.agg (Z0 u2 u3 u4 u5 u6 u7 u9 v0 v1 v2 g5 h2 g8 h8 h9 u0 u1 g3 g9 g6 g4 h1 g7)) h7)))) :
 yaL ypG (yE4 395 [0, 0, 1, 0, 1, 1, 1]) (yE5 [1, 1, 1, 0, 1, 0] [] R) (ykL s0 q0 q1 q2 q3 q4 q5 q6 q7 q8 q9 n0 n1 (i0, i1, i2, i3, i4, i5, i6, i7, i8, i9, j0, j1, r0, n2, n3, j2, j3, j4, j5, r1, n4, n5, r2, n6, n7)) w0 :=
 lrule (ykL s0 q0 q1 q2 q3 q4 q5 q6 q7 q8 q9 n0 n1) (U25 I) h0 (by rintro m ⟨g2, d3, c3, c4, c5, c6, c7, c8, c9, d0, d1, d2, b0, b6, b3, b9, c0, c1, c2, b1, b7, b4, b2, b8, b5⟩ w h; exact ⟨by kernel_rfl, by kernel_rfl, fun js => Eq.mpr (by kernel_rfl) (hr m g2 d3 c3 c4 c5 c6 c7 c8 c9 d0 d1 d2 b0 b6 b3 b9 c0 c1 c2 b1 b7 b4 b2 b8 b5 w h)⟩)
theorem yE6 (h :
 ∀ b1, w.heap.size ≤ b1 →
 ∀ b2, w.heap.size ≤ b2 →
 ∀ w3, Adv [] [b2, b1] w w3 → w3.heap[b2]? = some (.cells (Z0 0 0 0 0 0 0 0 0 0 0 none 0 0 0 0 0 0 none 0 0 none 0 0) 37) →
 Calls pP 50 #[(.pointer (some ⟨b2, 0, none⟩))] w3 fun e w4 => ∃ p5 p6 p7 p8 p9 b0 b3 b4 b5 b6, e = .returned (.agg (Z6 p5 p6 p7 p8 p9 b0 b3 b4 b5 b6)) ∧ yaZ [b2] [(b1, 37)] [b1] w3 w4 ∧ ∃ b7 b8 b9 c0 c1 c2 c3 c4 c5 c6 a1 a7 a4 c7 c8 c9 d0 a2 a8 a5 a3 a9 a6, w4.heap[b2]? = some (.cells (Z0 b7 b8 b9 c0 c1 c2 c3 c4 c5 c6 a1 a7 a4 c7 c8 c9 d0 a2 a8 a5 a3 a9 a6) 37) ∧
 yaL ypG (yE4 395 [0, 0, 1, 0, 1, 1, 1]) (yE5 [1, 1, 1, 0, 1, 0] [] R) (ykL s0 p5 p6 p7 p8 p9 b0 b3 b4 b5 b6 b1 b2 (0, 0, b7, b8, b9, c0, c1, c2, c3, c4, c5, c6, a1, a7, a4, c7, c8, c9, d0, a2, a8, a5, a3, a9, a6)) w4) :
 CR pP 59 #[.string s0] w R :=
 yaA Tryz.wide_mixed (an := yrI) Tryz.func59 rfl rfl (by kernel_rfl) rfl (Eq.mpr (by kernel_rfl) h)
theorem yE7 {a1 : BA} (h :
 ∀ b1, w.heap.size ≤ b1 →
 ∀ w2, Adv [] [b1] w w2 →
 Calls pP 58 (Z2 a1 0 1048576) w2 fun e w3 => ∃ s4 x5 x6, e = .returned (.tuple (Z2 s4 x5 x6)) ∧ yaH [b1] w2 w3 ∧
 Calls pP 59 #[.string s4] w3 fun e w7 => ∃ x8 x9 b4 b5 b6 b7 b8 b9 c0 c1 a2 a9 a6 c2 c3 c4 c5 a3 b0 a7 a4 b2 a8, e = .returned (.agg (Z0 x8 x9 b4 b5 b6 b7 b8 b9 c0 c1 a2 a9 a6 c2 c3 c4 c5 a3 b0 a7 a4 b2 a8)) ∧ yaH [b1] w3 w7 ∧
 ∀ a5, w7.heap.size ≤ a5 →
 ∀ b3, Adv [] [a5] w7 b3 →
 Calls pP 35 #[(.agg (Z0 x8 x9 b4 b5 b6 b7 b8 b9 c0 c1 a2 a9 a6 c2 c3 c4 c5 a3 b0 a7 a4 b2 a8))] b3 fun e a0 => ∃ c6 d1, e = .returned (.tuple #[.string c6, .int .i64 d1]) ∧ yaH [b1, a5] b3 a0 ∧
 brB (x6 != 0) (
 ∀ c7, Adv [b1] [] a0 c7 →
 R (.tuple #[(.agg (Z0 0 0 0 0 0 0 0 0 0 0 none 0 0 0 0 0 0 none 0 0 none 0 0)), .int .i64 180]) c7)
 (
 brB (d1 != 0) (
 ∀ c8, Adv [b1] [] a0 c8 →
 R (.tuple #[(.agg (Z0 0 0 0 0 0 0 0 0 0 0 none 0 0 0 0 0 0 none 0 0 none 0 0)), .int .i64 180]) c8)
 (
 brB (!(c6.toList == a1.toList)) (
 ∀ c9, Adv [b1] [] a0 c9 →
 R (.tuple #[(.agg (Z0 0 0 0 0 0 0 0 0 0 0 none 0 0 0 0 0 0 none 0 0 none 0 0)), .int .i64 180]) c9)
 (
 ∀ d0, Adv [b1] [] a0 d0 →
 R (.tuple #[(.agg (Z0 x8 x9 b4 b5 b6 b7 b8 b9 c0 c1 a2 a9 a6 c2 c3 c4 c5 a3 b0 a7 a4 b2 a8)), .int .i64 0]) d0)))) :
 CR pP 36 #[.string a1] w R :=
 yaA Tryz.wide_mixed (an := []) Tryz.func36 rfl rfl (by kernel_rfl) rfl (Eq.mpr (by kernel_rfl) h)
end
def yF0 (o : Option (PRec × Nat)) (v : Value) : Prop := ∃ (x : PRec) (b : Nat) (e : Int), v = .tuple #[x.v, .int .i64 (b : Nat), .int .i64 e] ∧ ((e = 0 ∧ o = some (x, b)) ∨ (e ≠ 0 ∧ b = 0 ∧ o = none))
theorem ykM (s : ByteArray) (a : Nat) (hs : s.size ≤ 1000000000000) (ha : a ≤ s.size) (w : World) :
  Calls pP 126 #[.string s, .int .i64 (a : Nat)] w fun e w' => ∃ v, e = .returned v ∧ yF0 (ym1 s.data.toList a) v ∧ Mod [] w w' := by
 refine yEh ?_
 intro b1 f1 b2 f2 w3 A3 h3
 have s3 := A3.mod.size
 have l1 := A3.lt b1 (by simp)
 have hne : b1 ≠ b2 := by have := A3.nd; simp at this; exact fun h => this h.symm
 refine (ykA (st := some a) hs ⟨a, 0, h3, ha, rfl⟩).mono ?_
 rintro _ w4 ⟨_, rfl, x, rfl, M4, st, ⟨a4, e4, h4, ha4, he4⟩, q4⟩
 have s4 := M4.size
 refine ⟨_, _, _, _, rfl, yaH.ofE M4 fun k hk hl he => by simp at hk he ⊢; omega, _, _, _, h4, ?_⟩
 have q4 : ym1 s.data.toList a = st.map fun a => (x, a) := q4
 intro b12 f12
 have N : ∀ {w'}, Adv [b1] [b12] w4 w' → Mod [] w w' := fun A => (A3.mod.go0 M4 (by simpa using f2)).go0 A.mod (by simpa using f1)
 refine yaB (fun g => ⟨rfl, fun w5 A5 _ => ⟨?_, N A5⟩⟩) fun g => ⟨rfl, fun w5 A5 _ => ⟨?_, N A5⟩⟩
 ·have g : e4 ≠ 0 := by simpa using g
  rw [if_neg g] at he4
  refine ⟨⟨false, ⟨#[]⟩, false, ⟨#[]⟩⟩, 0, e4, rfl, .inr ⟨g, rfl, ?_⟩⟩
  rw [q4, he4]; rfl
 ·have g : e4 = 0 := by simpa using g
  rw [if_pos g] at he4
  refine ⟨x, a4, 0, rfl, .inl ⟨rfl, ?_⟩⟩
  rw [q4, he4]; rfl
theorem yzM {s : ByteArray} {br bp : Nat} {st : Option Nat} {w : World} (hs : s.size ≤ 1000000000000) (h : Rd QT s br st w) (hb : w.heap[bp]? = some (.cells #[.string ⟨#[]⟩, .int .i64 0] 42)) (hne : bp ≠ br) :
  Calls pP 82 #[.iface 189 (.pointer (some ⟨br, 0, none⟩)), .pointer (some ⟨bp, 0, none⟩)] w fun e w' => e = .returned (.tuple #[]) ∧ Rd QT s br (ycJ s.data.toList st).1 w' ∧ w'.heap[bp]? = some (.cells (yk6 (ycJ s.data.toList st).2).toArray 42) ∧ Mod [br, bp] w w' := by
 refine yaS (yAJ ?_)
 intro w1 A1
 refine (ylE hs (h.keep0 A1.mod) (off := 0) (x := ⟨#[]⟩) (A1.mod.keep0 hb) rfl hne).mono ?_
 rintro _ w2 ⟨rfl, h2, hb2, M2⟩
 refine ⟨rfl, ?_⟩
 intro w3 A3
 refine (ybL hs (h2.keep0 A3.mod) (off := 1) (x := 0) (A3.mod.keep0 hb2) rfl hne).mono ?_
 rintro _ w4 ⟨rfl, h4, hb4, M4⟩
 refine ⟨rfl, rfl, h4, ?_, ?_⟩
 ·rw [hb4]; rfl
 ·refine (((A1.mod.trans M2).trans A3.mod).trans M4).less fun k hk hl => ?_
  simp at hk ⊢; omega
theorem ylM {w : World} {B : Nat} {f : Sl} {l : List PFound} {y : PFound} {bs : List Nat} {F : Option Addr → Nat → Nat → World → Prop} (hR : Row w B 101 5 yi0 f.a f.n f.c l) (hl : l.length ≤ 1000000) (hB : B ≤ w.heap.size) (hbs : ∀ b ∈ bs, b ∉ yeL f.a)
  (hF : ∀ a' c' w', Row w' B 101 5 yi0 a' (f.n + 1) c' (l ++ [y]) → Mod (yeL f.a) w w' → F a' (f.n + 1) c' w') :
  al w (.cells (yi0 y).toArray 101) fun b w1 => ycZ pP (Builtin.append_ #[32, 32] 32 #[.slice f.a f.n f.c, .slice (some ⟨b, 0, none⟩) 1 1]) w1 fun a n c w2 => yaH bs w1 w2 ∧ F a n c w2 := by
 refine ycS fun b w1 c1 M1 f1 => ?_
 have s1 := M1.size
 obtain ⟨i0, hi0, hz0, hz1, hz2⟩ := info_parts yCC
 refine ybK (x := y) (hR.keep0 M1) Tryz.underlying32 hi0 hz0 hz1 hz2 rfl (by decide) c1 rfl (yp0 _) (by omega) (by unfold maxLen; omega) (by omega) fun a' c' w8 hR8 hM8 => ?_
 have M8 := hM8 _ (yb3 f.a)
 refine ⟨yaH.of M8 fun b hb _ => hbs b hb, hF a' c' w8 hR8 ?_⟩
 exact (M1.trans M8).less fun k hk _ => by simpa using hk
theorem yBL {w : World} {B : Nat} {f : Sl} {l : List PPart} {y : PPart} {bs : List Nat} {F : Option Addr → Nat → Nat → World → Prop} (hR : Row w B 42 2 yk6 f.a f.n f.c l) (hl : l.length ≤ 1000000) (hB : B ≤ w.heap.size) (hbs : ∀ b ∈ bs, b ∉ yeL f.a)
  (hF : ∀ a' c' w', Row w' B 42 2 yk6 a' (f.n + 1) c' (l ++ [y]) → Mod (yeL f.a) w w' → F a' (f.n + 1) c' w') :
  al w (.cells (yk6 y).toArray 42) fun b w1 => ycZ pP (Builtin.append_ #[33, 33] 33 #[.slice f.a f.n f.c, .slice (some ⟨b, 0, none⟩) 1 1]) w1 fun a n c w2 => yaH bs w1 w2 ∧ F a n c w2 := by
 refine ycS fun b w1 c1 M1 f1 => ?_
 have s1 := M1.size
 obtain ⟨i0, hi0, hz0, hz1, hz2⟩ := info_parts yBe
 refine ybK (x := y) (hR.keep0 M1) Tryz.underlying33 hi0 hz0 hz1 hz2 rfl (by decide) c1 rfl (yk9 _) (by omega) (by unfold maxLen; omega) (by omega) fun a' c' w8 hR8 hM8 => ?_
 have M8 := hM8 _ (yb3 f.a)
 refine ⟨yaH.of M8 fun b hb _ => hbs b hb, hF a' c' w8 hR8 ?_⟩
 exact (M1.trans M8).less fun k hk _ => by simpa using hk
theorem yzN {l : List UInt8} {st : Option Nat} {b : Nat} {n : Int} (h : ybC l st 0 = (some b, n)) (x : Int) : ybC l st x = (some b, n) := by
 unfold ybC at *
 split at h
 ·rename_i p hp; simpa [hp] using h
 ·simp at h
theorem yxA {l : List UInt8} {a b : Nat} {x : Int} (h : (ybC l (some a) x).1 = some b) : a < b ∧ b ≤ l.length := by
 unfold ybC at h
 split at h
 ·rename_i p hp
  have := yfK (n := p.1) (b := p.2) hp
  simp at h; omega
 ·simp at h
structure RPS (w0 w : World) (b0 b1 b2 b3 b4 b5 : Nat) (s : ByteArray) (a e : Int) (x : PRep) (f p : Sl) (ev fv : Int) : Prop where
 hr : w.heap[b1]? = some (.cells #[.string s, .int .i64 a, .int .i64 e] QT)
 hx : w.heap[b2]? = some (.cells #[.int .i64 x.e, .int .i64 x.off, .int .i64 x.n, .int .i64 x.gen, .slice f.a f.n f.c, .slice p.a p.n p.c] 35)
 he : w.heap[b3]? = some (.cells #[.int .i64 ev] 3)
 hn : w.heap[b4]? = some (.cells #[.int .i64 fv] 3)
 fr : Row w w0.heap.size 101 5 yi0 f.a f.n f.c x.found
 pr : Row w w0.heap.size 42 2 yk6 p.a p.n p.c x.parts
 m : Mod [b1, b2, b3, b4, b5] w0 w
 lt : b0 < w0.heap.size ∧ b1 < w0.heap.size ∧ b2 < w0.heap.size ∧ b3 < w0.heap.size ∧ b4 < w0.heap.size ∧ b5 < w0.heap.size
 nd : [b5, b4, b3, b2, b1, b0].Nodup
 pos : ∃ n : Nat, a = n ∧ n ≤ s.size
def ycE (a e : Int) : Option Nat := if e = 0 then some a.toNat else none
theorem RPS.rd {w0 w : World} {b0 b1 b2 b3 b4 b5 : Nat} {s : ByteArray} {a e : Int} {x : PRep} {f p : Sl} {ev fv : Int} (H : RPS w0 w b0 b1 b2 b3 b4 b5 s a e x f p ev fv) : Rd QT s b1 (ycE a e) w := by
 obtain ⟨n, h1, h2⟩ := H.pos
 have h3 := H.hr
 rw [h1] at h3
 refine ⟨n, e, h3, h2, ?_⟩
 unfold ycE; rw [h1, Int.toNat_natCast]
theorem RPS.go {w0 w w' : World} {b0 b1 b2 b3 b4 b5 : Nat} {s : ByteArray} {a e : Int} {x : PRep} {f p : Sl} {ev fv : Int} {st : Option Nat} (H : RPS w0 w b0 b1 b2 b3 b4 b5 s a e x f p ev fv) (M : Mod [b1] w w') (hr : Rd QT s b1 st w') :
  ∃ a' e', RPS w0 w' b0 b1 b2 b3 b4 b5 s a' e' x f p ev fv ∧ st = ycE a' e' := by
 obtain ⟨n, e', h1, h2, h3⟩ := hr
 have nd := H.nd
 have lt := H.lt
 simp at nd
 refine ⟨n, e', ⟨h1, M.keep H.hx (by simp; omega), M.keep H.he (by simp; omega), M.keep H.hn (by simp; omega), H.fr.keep M fun ad ha hk => ?_, H.pr.keep M fun ad ha hk => ?_, H.m.via M (by simp), H.lt, H.nd, n, rfl, h2⟩, ?_⟩
 ·have := H.fr.base ad ha; simp at hk; omega
 ·have := H.pr.base ad ha; simp at hk; omega
 ·rw [h3]; unfold ycE; rw [Int.toNat_natCast]
theorem RPS.keep0 {w0 w w' : World} {b0 b1 b2 b3 b4 b5 : Nat} {s : ByteArray} {a e : Int} {x : PRep} {f p : Sl} {ev fv : Int} (H : RPS w0 w b0 b1 b2 b3 b4 b5 s a e x f p ev fv) (M : Mod [] w w') : RPS w0 w' b0 b1 b2 b3 b4 b5 s a e x f p ev fv :=
 ⟨M.keep0 H.hr, M.keep0 H.hx, M.keep0 H.he, M.keep0 H.hn, H.fr.keep0 M, H.pr.keep0 M, H.m.via M (by simp), H.lt, H.nd, H.pos⟩
def yBM (w0 w : World) (s : ByteArray) (v : Value) : Prop :=
 (∃ (x : PRep) (f p : Sl), ye2 s x ∧ v = .tuple #[x.v f p, .int .i64 0] ∧ RepOwn w w0.heap.size x f p) ∨ ((∀ x, ¬ ye2 s x) ∧ v = .tuple #[ydW.v ybJ ybJ, .int .i64 40])
set_option maxHeartbeats 4000000 in
theorem yE8 {wS w0 wX : World} {b0 b1 b2 b3 b4 b5 : Nat} {s : ByteArray} {a e : Int} {x : PRep} {f p : Sl} {ev fv pv : Int} (H : RPS w0 wX b0 b1 b2 b3 b4 b5 s a e x f p ev fv) (h5 : wX.heap[b5]? = some (.cells #[.int .i64 pv] 3))
  (N : Mod [] wS wX) (hb : wS.heap.size ≤ b0) (hl : x.found.length ≤ 1000000 ∧ x.parts.length ≤ 1000000) (hB : wS.heap.size ≤ w0.heap.size) (hsp : ∀ y, ye2 s y → e = 0 ∧ x = y) :
  Calls pP 54 #[(.agg #[.int .i64 x.e, .int .i64 x.off, .int .i64 x.n, .int .i64 x.gen, .slice f.a f.n f.c, .slice p.a p.n p.c])] wX fun e w254 => ∃ (s255 : ByteArray) (x256 : Int), e = .returned (.tuple #[.string s255, .int .i64 x256]) ∧ yaZ [b1, b2, b3, b4, b5] [(b0, 35)] [b0] wX w254 ∧ ∃ (s257 : ByteArray) (x258 x259 : Int), w254.heap[b1]? = some (.cells #[.string s257, .int .i64 x258, .int .i64 x259] 191) ∧ ∃ (x260 x261 x262 x263 : Int) (a264 : Option Addr) (n265 c266 : Nat) (a267 : Option Addr) (n268 c269 : Nat), w254.heap[b2]? = some (.cells #[.int .i64 x260, .int .i64 x261, .int .i64 x262, .int .i64 x263, .slice a264 n265 c266, .slice a267 n268 c269] 35) ∧ ∃ x270 : Int, w254.heap[b3]? = some (.cells #[.int .i64 x270] 3) ∧ ∃ x271 : Int, w254.heap[b4]? = some (.cells #[.int .i64 x271] 3) ∧ ∃ x272 : Int, w254.heap[b5]? = some (.cells #[.int .i64 x272] 3) ∧ brB (x259 != 0) ( ∀ w273, Adv [b0] [] w254 w273 → w273.heap[b1]? = some (.cells #[.string s257, .int .i64 x258, .int .i64 x259] 191) → w273.heap[b2]? = some (.cells #[.int .i64 x260, .int .i64 x261, .int .i64 x262, .int .i64 x263, .slice a264 n265 c266, .slice a267 n268 c269] 35) → w273.heap[b3]? = some (.cells #[.int .i64 x270] 3) → w273.heap[b4]? = some (.cells #[.int .i64 x271] 3) → w273.heap[b5]? = some (.cells #[.int .i64 x272] 3) → (fun v w' => yBM wS w' s v ∧ Mod [] wS w') (.tuple #[(.agg #[.int .i64 0, .int .i64 0, .int .i64 0, .int .i64 0, .slice none 0 0, .slice none 0 0]), .int .i64 40]) w273) ( brB (x256 != 0) ( ∀ w274, Adv [b0] [] w254 w274 → w274.heap[b1]? = some (.cells #[.string s257, .int .i64 x258, .int .i64 x259] 191) → w274.heap[b2]? = some (.cells #[.int .i64 x260, .int .i64 x261, .int .i64 x262, .int .i64 x263, .slice a264 n265 c266, .slice a267 n268 c269] 35) → w274.heap[b3]? = some (.cells #[.int .i64 x270] 3) → w274.heap[b4]? = some (.cells #[.int .i64 x271] 3) → w274.heap[b5]? = some (.cells #[.int .i64 x272] 3) → (fun v w' => yBM wS w' s v ∧ Mod [] wS w') (.tuple #[(.agg #[.int .i64 0, .int .i64 0, .int .i64 0, .int .i64 0, .slice none 0 0, .slice none 0 0]), .int .i64 40]) w274) ( brB (!(s255.toList == s.toList)) ( ∀ w275, Adv [b0] [] w254 w275 → w275.heap[b1]? = some (.cells #[.string s257, .int .i64 x258, .int .i64 x259] 191) → w275.heap[b2]? = some (.cells #[.int .i64 x260, .int .i64 x261, .int .i64 x262, .int .i64 x263, .slice a264 n265 c266, .slice a267 n268 c269] 35) → w275.heap[b3]? = some (.cells #[.int .i64 x270] 3) → w275.heap[b4]? = some (.cells #[.int .i64 x271] 3) → w275.heap[b5]? = some (.cells #[.int .i64 x272] 3) → (fun v w' => yBM wS w' s v ∧ Mod [] wS w') (.tuple #[(.agg #[.int .i64 0, .int .i64 0, .int .i64 0, .int .i64 0, .slice none 0 0, .slice none 0 0]), .int .i64 40]) w275) ( ∀ w276, Adv [b0] [] w254 w276 → w276.heap[b1]? = some (.cells #[.string s257, .int .i64 x258, .int .i64 x259] 191) → w276.heap[b2]? = some (.cells #[.int .i64 x260, .int .i64 x261, .int .i64 x262, .int .i64 x263, .slice a264 n265 c266, .slice a267 n268 c269] 35) → w276.heap[b3]? = some (.cells #[.int .i64 x270] 3) → w276.heap[b4]? = some (.cells #[.int .i64 x271] 3) → w276.heap[b5]? = some (.cells #[.int .i64 x272] 3) → (fun v w' => yBM wS w' s v ∧ Mod [] wS w') (.tuple #[(.agg #[.int .i64 x260, .int .i64 x261, .int .i64 x262, .int .i64 x263, .slice a264 n265 c266, .slice a267 n268 c269]), .int .i64 0]) w276))) := by
 have hA : RepOwn wX w0.heap.size x f p := ⟨H.fr, H.pr, hl.1, hl.2⟩
 refine (yqU hA.at).mono ?_
 rintro _ w1 ⟨rfl, M1⟩
 have H1 := H.keep0 M1
 have lt := H.lt
 refine ⟨_, _, rfl, yaH.of0 M1, _, _, _, H1.hr, _, _, _, _, _, _, _, _, _, _, H1.hx, _, H1.he, _, H1.hn, _, M1.keep0 h5, ?_⟩
 have no : ∀ {w'}, Adv [b0] [] w1 w' → (∀ y, ¬ ye2 s y) → yBM wS w' s (.tuple #[ydW.v ybJ ybJ, .int .i64 40]) ∧ Mod [] wS w' := fun {w'} A h => ⟨.inr ⟨h, rfl⟩, (N.go0 M1 (by simp)).go0 A.mod (by simpa using hb)⟩
 refine yaB (fun g => fun w2 A2 _ _ _ _ _ => no A2 fun y hy => ?_) fun g => ?_
 ·have := (hsp y hy).1; simp [this] at g
 refine yaB (fun g2 => fun w2 A2 _ _ _ _ _ => no A2 fun y hy => ?_) fun g2 => ?_
 ·have := (hsp y hy).2; subst this; simp [hy.1] at g2
 have g2 : yi2 x = 0 := by simpa using g2
 rw [if_pos g2, ygE]
 refine yaB (fun g3 => fun w2 A2 _ _ _ _ _ => no A2 fun y hy => ?_) fun g3 => fun w2 A2 _ _ _ _ _ => ?_
 ·have := (hsp y hy).2; subst this; simp [hy.eq] at g3
 ·have g3 : bs (ydO x) = s := by simpa using g3
  exact ⟨.inl ⟨x, f, p, ye2.of g2 g3.symm, rfl, ((hA.keep0 M1).keepB A2.mod (by simpa using lt.1)).rebase hB⟩, (N.go0 M1 (by simp)).go0 A2.mod (by simpa using hb)⟩
set_option maxHeartbeats 4000000 in
theorem yE9 {wS w0 wX : World} {b0 b1 b2 b3 b4 b5 : Nat} {s : ByteArray} {a e : Int} {x : PRep} {f : Sl} {ev fv : Int} (H : RPS w0 wX b0 b1 b2 b3 b4 b5 s a e x f ybJ ev fv) (h5 : wX.heap[b5]? = some (.cells #[.int .i64 0] 3)) (hp0 : x.parts = [])
  (N : Mod [] wS w0) (hb : wS.heap.size ≤ b0 ∧ wS.heap.size ≤ b1 ∧ wS.heap.size ≤ b2 ∧ wS.heap.size ≤ b3 ∧ wS.heap.size ≤ b4 ∧ wS.heap.size ≤ b5) (hs : s.size ≤ 900000) (hl : x.found.length ≤ 1000000)
  (hsp : ∀ y, ye2 s y → e = 0 ∧ a = (ydH y y.found.length).length ∧ x = ⟨y.e, y.off, y.n, y.gen, y.found, []⟩) :
  Calls pP 125 #[(.pointer (some ⟨b1, 0, none⟩)), (.pointer (some ⟨b5, 0, none⟩))] wX fun e w278 => e = .returned (.tuple #[]) ∧ yaZ [b1, b2, b3, b4, b5] [(b0, 35)] [b0] wX w278 ∧ ∃ (s279 : ByteArray) (x280 x281 : Int), w278.heap[b1]? = some (.cells #[.string s279, .int .i64 x280, .int .i64 x281] 191) ∧ ∃ (x282 x283 x284 x285 : Int) (a286 : Option Addr) (n287 c288 : Nat) (a289 : Option Addr) (n290 c291 : Nat), w278.heap[b2]? = some (.cells #[.int .i64 x282, .int .i64 x283, .int .i64 x284, .int .i64 x285, .slice a286 n287 c288, .slice a289 n290 c291] 35) ∧ ∃ x292 : Int, w278.heap[b3]? = some (.cells #[.int .i64 x292] 3) ∧ ∃ x293 : Int, w278.heap[b4]? = some (.cells #[.int .i64 x293] 3) ∧ ∃ x294 : Int, w278.heap[b5]? = some (.cells #[.int .i64 x294] 3) ∧ yaL yiQ (ym7 390 [0, 0, 1, 0, 1, 1, 1, 1, 1, 1, 1, 1]) (yFZ [1, 1, 1, 1, 1, 1, 1, 1, 0, 1, 0] [] (ybI pP Tryz.f88 [] (fun v w' => yBM wS w' s v ∧ Mod [] wS w'))) (yg2 s b0 b1 b2 b3 b4 b5 (0, s279, x280, x281, x282, x283, x284, x285, a286, n287, c288, a289, n290, c291, x292, x293, x294)) w278 := by
 have sB := N.size
 have nd := H.nd
 simp at nd
 have lt := H.lt
 have hss : s.data.toList.length = s.size := by simp
 refine (ybL (by omega) H.rd (off := 0) (x := 0) h5 rfl (by omega)).mono ?_
 rintro _ w1 ⟨rfl, hr1, hb1, M1⟩
 obtain ⟨pv, hpv⟩ : ∃ pv, pv = (ybC s.data.toList (ycE a e) 0).2 := ⟨_, rfl⟩
 have hb1 : w1.heap[b5]? = some (.cells #[.int .i64 pv] 3) := by rw [hb1, hpv]; rfl
 obtain ⟨a1, e1, H1, hst1⟩ : ∃ a1 e1, RPS w0 w1 b0 b1 b2 b3 b4 b5 s a1 e1 x f ybJ ev fv ∧ (ybC s.data.toList (ycE a e) 0).1 = ycE a1 e1 := by
  obtain ⟨n, e', h1, h2, h3⟩ := hr1
  refine ⟨n, e', ⟨h1, M1.keep H.hx (by simp; omega), M1.keep H.he (by simp; omega), M1.keep H.hn (by simp; omega), H.fr.keep M1 fun ad ha hk => ?_, by rw [hp0]; exact Row.nil .., H.m.via M1 (by simp), H.lt, H.nd, n, rfl, h2⟩, ?_⟩
  ·have := H.fr.base ad ha; simp at hk; omega
  ·rw [h3]; unfold ycE; rw [Int.toNat_natCast]
 refine ⟨rfl, yaH.ofE M1 fun k hk hl he => by simp at hk he ⊢; omega, _, _, _, H1.hr, _, _, _, _, _, _, _, _, _, _, H1.hx, _, H1.he, _, H1.hn, _, hb1, ?_⟩
 have hsp1 : ∀ y, ye2 s y → e1 = 0 ∧ a1 = (yfB y 0).length ∧ x = ⟨y.e, y.off, y.n, y.gen, y.found, []⟩ ∧ pv = y.parts.length := fun y hy => by
  obtain ⟨h1, h2, h3⟩ := hsp y hy
  have h4 := hy.np
  have h5 : ycE a e = some (ydH y y.found.length).length := by unfold ycE; rw [if_pos h1, h2, Int.toNat_natCast]
  rw [h5, h4] at hst1 hpv
  obtain ⟨n, hn1, hn2⟩ := H1.pos
  unfold ycE at hst1
  by_cases he : e1 = 0
  ·rw [if_pos he] at hst1
   simp only [Option.some.injEq] at hst1
   exact ⟨he, by omega, h3, hpv⟩
  ·rw [if_neg he] at hst1; cases hst1
 obtain ⟨ve, voff, vn, vgen, lf, lp⟩ := x
 have hp0 : lp = [] := hp0
 subst hp0
 refine yw7 (fun mm x16 s1 a e y0 y1 y2 y3 fa fn fc pa pn pc ev' fv' pv' w' => ∃ (i : Nat) (l : List PPart), x16 = i ∧ l.length = i ∧ i ≤ s.size + 1 ∧ (e = 0 → (i : Int) ≤ a) ∧ s1 = s ∧ y0 = ve ∧ y1 = voff ∧ y2 = vn ∧ y3 = vgen ∧ fa = f.a ∧ fn = f.n ∧ fc = f.c ∧ ev' = ev ∧ fv' = fv ∧ pv' = pv ∧ RPS w0 w' b0 b1 b2 b3 b4 b5 s a e ⟨ve, voff, vn, vgen, lf, l⟩ f ⟨pa, pn, pc⟩ ev fv ∧
  (∀ y, ye2 s y → e = 0 ∧ a = (yfB y i).length ∧ l = y.parts.take i) ∧ mm = pv.toNat - i) pv.toNat
  ⟨0, [], rfl, rfl, by omega, fun h => by obtain ⟨n, h1, _⟩ := H1.pos; omega, rfl, rfl, rfl, rfl, rfl, rfl, rfl, rfl, rfl, rfl, rfl, H1, fun y hy => ⟨(hsp1 y hy).1, (hsp1 y hy).2.1, by simp⟩, by omega⟩ ?_
 rintro mm x16 s1 a2 e2 y0 y1 y2 y3 fa fn fc pa pn pc ev' fv' pv' w2 ⟨i, l, rfl, hli, his, hia, rfl, rfl, rfl, rfl, rfl, rfl, rfl, rfl, rfl, rfl, rfl, H2, hsp2, rfl⟩ _ _ _ _ h52
 have N2 : Mod [] wS w2 := (N.go0 H2.m (by simp; omega))
 have s2 := H2.m.size
 have ek : IntKind.wrap .i64 ((i : Int) + 1) = ((i + 1 : Nat) : Int) := by rw [yaF (by omega) (by omega)]; omega
 have fin : (∀ y, ye2 s1 y → l = y.parts) → _ := fun hd => yE8 (a := a2) (pv := pv') H2 h52 N2 hb.1 ⟨hl, by show l.length ≤ _; omega⟩ sB fun y hy => ⟨(hsp2 y hy).1, by rw [hd y hy]; obtain ⟨h1, h2, h3, h4⟩ := hsp1 y hy; cases h3; rfl⟩
 refine yaC (fun hlt => ?_) fun hge => fin fun y hy => ?_
 rotate_left
 ·have h1 := (hsp1 y hy).2.2.2
  have h2 := (hsp2 y hy).2.2
  rw [h2, List.take_of_length_le (by omega)]
 refine yaB (fun g => ?_) fun g => fin fun y hy => ?_
 rotate_left
 ·have := (hsp2 y hy).1; simp [this] at g
 have g : e2 = 0 := by simpa using g
 intro b6 f6 w3 A3 _ _ _ _ _ hp3
 have l6 := A3.lt b6 (by simp)
 have s3 := A3.mod.size
 refine (yzM (by omega) (H2.rd.keep0 A3.mod) hp3 (by omega)).mono ?_
 rintro _ w4 ⟨rfl, hr4, hp4, M4⟩
 have K4 : Mod [b1] w2 w4 := (A3.mod.trans M4).less fun k hk hl => by simp at hk ⊢; omega
 obtain ⟨a4, e4, H4, hst4⟩ := H2.go K4 hr4
 have s4 := M4.size
 generalize hyp : (ycJ s1.data.toList (ycE a2 e2)).2 = yp at hp4
 refine ⟨rfl, yaH.ofE M4 fun k hk hl he => by simp at hk he ⊢; omega, _, _, _, H4.hr, _, _, _, _, _, _, _, _, _, _, H4.hx, _, H4.he, _, H4.hn, _, K4.keep h52 (by simp; omega), _, _, hp4, ?_⟩
 have hrow : ∀ k ∈ yeL pa, w0.heap.size ≤ k ∧ k < w2.heap.size := fun k hk => by
  have := yaT H2.pr k hk; exact ⟨this.1, this.2.1⟩
 refine yBL (f := ⟨pa, pn, pc⟩) (y := yp) H4.pr (by show l.length ≤ _; omega) (by have := H4.m.size; exact this) (fun b hb' hk => by have := hrow b hk; simp at hb'; omega) fun a' c' w5 hR5 M5 => ?_
 intro w6 A6 hr6 hx6 he6 hn6 h56 _
 have H6 : RPS w0 w6 b0 b1 b2 b3 b4 b5 s1 a4 e4 ⟨y0, y1, y2, y3, lf, l ++ [yp]⟩ f ⟨a', pn + 1, c'⟩ ev' fv' := by
  refine ⟨hr6, hx6, he6, hn6, ?_, hR5.keep A6.mod fun ad ha hk => ?_, (H4.m.via (M5.trans A6.mod) fun k hk hl => ?_), H4.lt, H4.nd, H4.pos⟩
  ·refine (H4.fr.keep M5 fun ad ha hk => ?_).keep A6.mod fun ad ha hk => ?_
   ·obtain ⟨_, cur, hc⟩ := H4.fr.block ad ha
    obtain ⟨_, _, cur2, hc2⟩ := yaT H4.pr _ hk
    rw [hc2] at hc; cases hc
   ·have := H4.fr.base ad ha; simp at hk; omega
  ·have := hR5.base ad ha; simp at hk; omega
  ·rcases List.mem_append.1 hk with hk | hk
   ·have := hrow k hk; omega
   ·simp at hk ⊢; omega
 refine yw6 (pv'.toNat - (i + 1)) (by omega) ⟨i + 1, l ++ [yp], ek, by simp [hli], ?_, fun he => ?_, rfl, rfl, rfl, rfl, rfl, rfl, rfl, rfl, rfl, rfl, rfl, H6, fun y hy => ?_, by omega⟩
 ·have := hia g
  obtain ⟨n, hn1, hn2⟩ := H2.pos
  omega
 ·
  have hst : ycE a4 e4 = some a4.toNat := by unfold ycE; rw [if_pos he]
  obtain ⟨n, hn1, hn2⟩ := H2.pos
  have h2 : ycE a2 e2 = some n := by unfold ycE; rw [if_pos g, hn1, Int.toNat_natCast]
  rw [hst, h2] at hst4
  unfold ycJ at hst4
  simp only at hst4
  have := hia g
  cases hq : (yeG s1.data.toList (some n) ⟨#[]⟩).1 with
  | none => rw [hq] at hst4; simp [ybC] at hst4
  | some q =>
   have h5 := yv4 hq
   rw [hq] at hst4
   have h6 := yxA hst4
   obtain ⟨n4, hn4, _⟩ := H4.pos
   omega
 ·obtain ⟨h1, h2, h3⟩ := hsp2 y hy
  have h4 := (hsp1 y hy).2.2.2
  obtain ⟨y0', hy0⟩ : ∃ z, y.parts[i]? = some z := ⟨_, List.getElem?_eq_getElem (by omega)⟩
  have h5 := hy.p hy0
  have h6 : ycE a2 e2 = some (yfB y i).length := by unfold ycE; rw [if_pos h1, h2, Int.toNat_natCast]
  rw [h6, h5] at hst4 hyp
  obtain ⟨n4, hn4, _⟩ := H4.pos
  unfold ycE at hst4
  by_cases he : e4 = 0
  ·rw [if_pos he] at hst4
   simp only [Option.some.injEq] at hst4
   refine ⟨he, by omega, ?_⟩
   have hyp : y0' = yp := hyp
   rw [List.take_add_one, hy0, h3, hyp]; rfl
  ·rw [if_neg he] at hst4; cases hst4
theorem RPS.app {w0 w w1 w2 : World} {b0 b1 b2 b3 b4 b5 : Nat} {s : ByteArray} {a e : Int} {x : PRep} {f p : Sl} {ev fv : Int} {y : PFound} {a' : Option Addr} {n' c' : Nat} (H : RPS w0 w b0 b1 b2 b3 b4 b5 s a e x f p ev fv) (hp : p = ybJ) (hx0 : x.parts = []) (hR : Row w1 w0.heap.size 101 5 yi0 a' n' c' (x.found ++ [y])) (M : Mod (yeL f.a) w w1) (A : Mod [b2] w1 w2)
  (hr : w2.heap[b1]? = some (.cells #[.string s, .int .i64 a, .int .i64 e] QT)) (hx : w2.heap[b2]? = some (.cells #[.int .i64 x.e, .int .i64 x.off, .int .i64 x.n, .int .i64 x.gen, .slice a' n' c', .slice p.a p.n p.c] 35))
  (he : w2.heap[b3]? = some (.cells #[.int .i64 ev] 3)) (hn : w2.heap[b4]? = some (.cells #[.int .i64 fv] 3)) :
  RPS w0 w2 b0 b1 b2 b3 b4 b5 s a e ⟨x.e, x.off, x.n, x.gen, x.found ++ [y], x.parts⟩ ⟨a', n', c'⟩ p ev fv := by
 have lt := H.lt
 have hrow : ∀ k ∈ yeL f.a, w0.heap.size ≤ k := fun k hk => (yaT H.fr k hk).1
 refine ⟨hr, hx, he, hn, hR.keep A fun ad ha hk => ?_, by subst hp; rw [hx0]; exact Row.nil .., (H.m.via (M.trans A) fun k hk hl => ?_), H.lt, H.nd, H.pos⟩
 ·have := hR.base ad ha; simp at hk; omega
 ·rcases List.mem_append.1 hk with hk | hk
  ·have := hrow k hk; omega
  ·simp at hk ⊢; omega
set_option maxHeartbeats 8000000 in
theorem ypH {s : ByteArray} (hs : s.size ≤ 900000) (w : World) :
  Calls pP 88 #[.string s] w fun e w' => ∃ v, e = .returned v ∧ yBM w w' s v ∧ Mod [] w w' := by
 refine yE3 ?_
 intro b0 g0 b1 g1 b2 g2 b3 g3 b4 g4 b5 g5 w7 A7 h2 h3 h4
 have s7 := A7.mod.size
 have nd := A7.nd
 have lt : b0 < w7.heap.size ∧ b1 < w7.heap.size ∧ b2 < w7.heap.size ∧ b3 < w7.heap.size ∧ b4 < w7.heap.size ∧ b5 < w7.heap.size := ⟨A7.lt b0 (by simp), A7.lt b1 (by simp), A7.lt b2 (by simp), A7.lt b3 (by simp), A7.lt b4 (by simp), A7.lt b5 (by simp)⟩
 refine ycS fun b8 w9 c9 M9 f9 => ?_
 intro w10 A10 hr10 hx10 he10 hn10
 have s9 := M9.size
 have s10 := A10.mod.size
 have l8 := yaJ c9
 have c10 := A10.mod.keep0 c9
 have N10 : Mod [] w w10 := (A7.mod.go0 M9 (by simp)).go0 A10.mod (by simp)
 have H0 : RPS w10 w10 b0 b1 b2 b3 b4 b5 s 0 0 ydW ybJ ybJ 0 0 := ⟨hr10, hx10, he10, hn10, Row.nil .., Row.nil .., (Mod.refl _).less (by simp), by omega, nd, 0, rfl, by omega⟩
 refine yw4 (fun mm x28 s1 a e y0 y1 y2 y3 fa fn fc pa pn pc ev fv w' => ∃ k : Nat, x28 = k ∧ k ≤ 5 ∧ s1 = s ∧ y0 = 0 ∧ fa = none ∧ fn = 0 ∧ fc = 0 ∧ pa = none ∧ pn = 0 ∧ pc = 0 ∧ RPS w10 w' b0 b1 b2 b3 b4 b5 s a e ⟨y0, y1, y2, y3, [], []⟩ ybJ ybJ ev fv ∧
  (∀ x, ye2 s x → e = 0 ∧ a = (yg9 x k).length ∧ [ev, y1, y2, y3, fv].take k = (hdI x).take k) ∧ mm = 5 - k) 5
  ⟨0, rfl, by omega, rfl, rfl, rfl, rfl, rfl, rfl, rfl, rfl, H0, fun x _ => ⟨rfl, by simp [yg9], rfl⟩, rfl⟩ ?_
 rintro mm x28 s1 a e y0 y1 y2 y3 fa fn fc pa pn pc ev fv w11 ⟨k, rfl, hk, rfl, rfl, rfl, rfl, rfl, rfl, rfl, rfl, H, hsp, rfl⟩ _ _ _ _
 have nd' := nd
 simp at nd'
 have hss : s1.data.toList.length = s1.size := by simp
 refine yaC (fun hlt => ?_) fun hge => ?_
 ·have hk5 : k < 5 := by omega
  have c11 := H.m.keep c10 (show b8 ∉ [b1, b2, b3, b4, b5] by simp; omega)
  have ek : IntKind.wrap .i64 ((k : Int) + 1) = ((k + 1 : Nat) : Int) := by rw [yaF (by omega) (by omega)]; omega
  have step : ∀ (x0 : Int) (x : PRep), ye2 s1 x → ∃ n, (hdI x)[k]? = some n ∧ ybC s1.data.toList (ycE a e) x0 = (some (yg9 x (k + 1)).length, n) := fun x0 x hx => by
   obtain ⟨h1, h2, h3⟩ := hsp x hx
   obtain ⟨n, hn⟩ : ∃ n, (hdI x)[k]? = some n := ⟨_, List.getElem?_eq_getElem (by simpa [hdI] using hk5)⟩
   refine ⟨n, hn, ?_⟩
   have := hx.hd hn
   unfold ycE
   rw [if_pos h1, h2, Int.toNat_natCast]
   exact yzN this x0
  have done : ∀ {st : Option Nat} {v x0 : Int} {n : Nat} {e' z1 z2 z3 ev' fv' : Int}, ybC s1.data.toList (ycE a e) x0 = (st, v) → st = (if e' = 0 then some n else none) → ([ev', z1, z2, z3, fv'].take (k + 1) = [ev, y1, y2, y3, fv].take k ++ [v]) →
    ∀ x, ye2 s1 x → e' = 0 ∧ ((n : Nat) : Int) = (yg9 x (k + 1)).length ∧ [ev', z1, z2, z3, fv'].take (k + 1) = (hdI x).take (k + 1) := fun {st v x0 n e' z1 z2 z3 ev' fv'} hv hst ht x hx => by
   obtain ⟨m, hm, hm2⟩ := step x0 x hx
   obtain ⟨_, _, hm3⟩ := hsp x hx
   rw [hv] at hm2
   simp only [Prod.mk.injEq] at hm2
   obtain ⟨e1, e2⟩ := hm2
   rw [e1] at hst
   have he : e' = 0 := by
    by_cases he : e' = 0
    ·exact he
    ·rw [if_neg he] at hst; cases hst
   rw [if_pos he] at hst
   refine ⟨he, by simp only [Option.some.injEq] at hst; omega, ?_⟩
   rw [ht, hm3, e2, List.take_add_one, hm]; rfl
  rcases (by omega : k = 0 ∨ k = 1 ∨ k = 2 ∨ k = 3 ∨ k = 4) with rfl | rfl | rfl | rfl | rfl
  ·refine ⟨_, rfl, by omega, by omega, yfV (x := some ⟨b3, 0, none⟩) (by rw [ya0, yaU c11]; rfl) ?_⟩
   refine (ybL (by omega) H.rd (off := 0) (x := ev) H.he rfl (by omega)).mono ?_
   rintro _ w12 ⟨rfl, hr, hb, M12⟩
   obtain ⟨n, e', h1, h2', h3'⟩ := hr
   have hb : w12.heap[b3]? = some (.cells #[.int .i64 (ybC s1.data.toList (ycE a e) ev).2] 3) := by rw [hb]; rfl
   have H' : RPS w10 w12 b0 b1 b2 b3 b4 b5 s1 n e' ⟨0, y1, y2, y3, [], []⟩ ybJ ybJ (ybC s1.data.toList (ycE a e) ev).2 fv := ⟨h1, M12.keep H.hx (by simp; omega), hb, M12.keep H.hn (by simp; omega), Row.nil .., Row.nil .., H.m.via M12 (by simp), H.lt, H.nd, n, rfl, h2'⟩
   exact ⟨rfl, yaH.ofE M12 fun k hk hl he => by simp at hk he ⊢; omega, _, _, _, h1, _, _, _, _, _, _, _, _, _, _, H'.hx, _, H'.he, _, H'.hn, yeQ (5 - (0 + 1)) (by omega) ⟨0 + 1, ek, by omega, rfl, rfl, rfl, rfl, rfl, rfl, rfl, rfl, H', done rfl h3' rfl, rfl⟩⟩
  ·refine ⟨_, rfl, by omega, by omega, yfV (x := some ⟨b2, 1, none⟩) (by rw [ya0, yaU c11]; rfl) ?_⟩
   refine (ybL (by omega) H.rd (off := 1) (x := y1) H.hx rfl (by omega)).mono ?_
   rintro _ w12 ⟨rfl, hr, hb, M12⟩
   obtain ⟨n, e', h1, h2', h3'⟩ := hr
   have H' : RPS w10 w12 b0 b1 b2 b3 b4 b5 s1 n e' ⟨0, (ybC s1.data.toList (ycE a e) y1).2, y2, y3, [], []⟩ ybJ ybJ ev fv := ⟨h1, by rw [hb]; rfl, M12.keep H.he (by simp; omega), M12.keep H.hn (by simp; omega), Row.nil .., Row.nil .., H.m.via M12 (by simp), H.lt, H.nd, n, rfl, h2'⟩
   exact ⟨rfl, yaH.ofE M12 fun k hk hl he => by simp at hk he ⊢; omega, _, _, _, h1, _, _, _, _, _, _, _, _, _, _, H'.hx, _, H'.he, _, H'.hn, yeQ (5 - (1 + 1)) (by omega) ⟨1 + 1, ek, by omega, rfl, rfl, rfl, rfl, rfl, rfl, rfl, rfl, H', done rfl h3' rfl, rfl⟩⟩
  ·refine ⟨_, rfl, by omega, by omega, yfV (x := some ⟨b2, 2, none⟩) (by rw [ya0, yaU c11]; rfl) ?_⟩
   refine (ybL (by omega) H.rd (off := 2) (x := y2) H.hx rfl (by omega)).mono ?_
   rintro _ w12 ⟨rfl, hr, hb, M12⟩
   obtain ⟨n, e', h1, h2', h3'⟩ := hr
   have H' : RPS w10 w12 b0 b1 b2 b3 b4 b5 s1 n e' ⟨0, y1, (ybC s1.data.toList (ycE a e) y2).2, y3, [], []⟩ ybJ ybJ ev fv := ⟨h1, by rw [hb]; rfl, M12.keep H.he (by simp; omega), M12.keep H.hn (by simp; omega), Row.nil .., Row.nil .., H.m.via M12 (by simp), H.lt, H.nd, n, rfl, h2'⟩
   exact ⟨rfl, yaH.ofE M12 fun k hk hl he => by simp at hk he ⊢; omega, _, _, _, h1, _, _, _, _, _, _, _, _, _, _, H'.hx, _, H'.he, _, H'.hn, yeQ (5 - (2 + 1)) (by omega) ⟨2 + 1, ek, by omega, rfl, rfl, rfl, rfl, rfl, rfl, rfl, rfl, H', done rfl h3' rfl, rfl⟩⟩
  ·refine ⟨_, rfl, by omega, by omega, yfV (x := some ⟨b2, 3, none⟩) (by rw [ya0, yaU c11]; rfl) ?_⟩
   refine (ybL (by omega) H.rd (off := 3) (x := y3) H.hx rfl (by omega)).mono ?_
   rintro _ w12 ⟨rfl, hr, hb, M12⟩
   obtain ⟨n, e', h1, h2', h3'⟩ := hr
   have H' : RPS w10 w12 b0 b1 b2 b3 b4 b5 s1 n e' ⟨0, y1, y2, (ybC s1.data.toList (ycE a e) y3).2, [], []⟩ ybJ ybJ ev fv := ⟨h1, by rw [hb]; rfl, M12.keep H.he (by simp; omega), M12.keep H.hn (by simp; omega), Row.nil .., Row.nil .., H.m.via M12 (by simp), H.lt, H.nd, n, rfl, h2'⟩
   exact ⟨rfl, yaH.ofE M12 fun k hk hl he => by simp at hk he ⊢; omega, _, _, _, h1, _, _, _, _, _, _, _, _, _, _, H'.hx, _, H'.he, _, H'.hn, yeQ (5 - (3 + 1)) (by omega) ⟨3 + 1, ek, by omega, rfl, rfl, rfl, rfl, rfl, rfl, rfl, rfl, H', done rfl h3' rfl, rfl⟩⟩
  ·refine ⟨_, rfl, by omega, by omega, yfV (x := some ⟨b4, 0, none⟩) (by rw [ya0, yaU c11]; rfl) ?_⟩
   refine (ybL (by omega) H.rd (off := 0) (x := fv) H.hn rfl (by omega)).mono ?_
   rintro _ w12 ⟨rfl, hr, hb, M12⟩
   obtain ⟨n, e', h1, h2', h3'⟩ := hr
   have hb : w12.heap[b4]? = some (.cells #[.int .i64 (ybC s1.data.toList (ycE a e) fv).2] 3) := by rw [hb]; rfl
   have H' : RPS w10 w12 b0 b1 b2 b3 b4 b5 s1 n e' ⟨0, y1, y2, y3, [], []⟩ ybJ ybJ ev (ybC s1.data.toList (ycE a e) fv).2 := ⟨h1, M12.keep H.hx (by simp; omega), M12.keep H.he (by simp; omega), hb, Row.nil .., Row.nil .., H.m.via M12 (by simp), H.lt, H.nd, n, rfl, h2'⟩
   exact ⟨rfl, yaH.ofE M12 fun k hk hl he => by simp at hk he ⊢; omega, _, _, _, h1, _, _, _, _, _, _, _, _, _, _, H'.hx, _, H'.he, _, H'.hn, yeQ (5 - (4 + 1)) (by omega) ⟨4 + 1, ek, by omega, rfl, rfl, rfl, rfl, rfl, rfl, rfl, rfl, H', done rfl h3' rfl, rfl⟩⟩
 have hk5 : k = 5 := by omega
 subst hk5
 intro w13 A13 hr13 hx13 he13 hn13
 have hb0 : w.heap.size ≤ b0 ∧ w.heap.size ≤ b1 ∧ w.heap.size ≤ b2 ∧ w.heap.size ≤ b3 ∧ w.heap.size ≤ b4 ∧ w.heap.size ≤ b5 := ⟨g0, g1, g2, g3, g4, g5⟩
 have H13 : RPS w10 w13 b0 b1 b2 b3 b4 b5 s1 a e ⟨ev, y1, y2, y3, [], []⟩ ybJ ybJ ev fv := ⟨hr13, hx13, he13, hn13, Row.nil .., Row.nil .., H.m.via A13.mod (by simp), H.lt, H.nd, H.pos⟩
 have hsp13 : ∀ x, ye2 s1 x → e = 0 ∧ a = (ydH x 0).length ∧ [ev, y1, y2, y3, fv] = hdI x := fun x hx => by
  obtain ⟨h1, h2, h3⟩ := hsp x hx
  rw [yw0] at h2
  exact ⟨h1, h2, by simpa [hdI] using h3⟩
 clear hsp H
 refine yw5 (fun mm x11 s2 a e z0 z1 z2 z3 fa fn fc pa pn pc ev' fv' w' => ∃ (i : Nat) (l : List PFound), x11 = i ∧ l.length = i ∧ i ≤ s1.size + 1 ∧ (e = 0 → (i : Int) ≤ a) ∧ s2 = s1 ∧ z0 = ev ∧ z1 = y1 ∧ z2 = y2 ∧ z3 = y3 ∧ pa = none ∧ pn = 0 ∧ pc = 0 ∧ ev' = ev ∧ fv' = fv ∧ RPS w10 w' b0 b1 b2 b3 b4 b5 s1 a e ⟨ev, y1, y2, y3, l, []⟩ ⟨fa, fn, fc⟩ ybJ ev fv ∧
  (∀ x, ye2 s1 x → e = 0 ∧ a = (ydH x i).length ∧ l = x.found.take i) ∧ mm = fv.toNat - i) fv.toNat
  ⟨0, [], rfl, rfl, by omega, fun h => by obtain ⟨n, h1, _⟩ := H13.pos; omega, rfl, rfl, rfl, rfl, rfl, rfl, rfl, rfl, rfl, rfl, H13, fun x hx => ⟨(hsp13 x hx).1, (hsp13 x hx).2.1, by simp⟩, by omega⟩ ?_
 rintro mm x11 s2 a2 e2 z0 z1 z2 z3 fa fn fc pa pn pc ev' fv' w14 ⟨i, l, rfl, hli, his, hia, rfl, rfl, rfl, rfl, rfl, rfl, rfl, rfl, rfl, rfl, H, hsp, rfl⟩ _ _ _ _
 have s14 := H.m.size
 have hd13 : ∀ x, ye2 s2 x → ev' = x.e ∧ z1 = x.off ∧ z2 = x.n ∧ z3 = x.gen ∧ fv' = x.found.length := fun x hx => by
  have := (hsp13 x hx).2.2
  simpa [hdI] using this
 have ek : IntKind.wrap .i64 ((i : Int) + 1) = ((i + 1 : Nat) : Int) := by rw [yaF (by omega) (by omega)]; omega
 have out : ∀ {w15}, Adv [] [] w14 w15 → w15.heap[b5]? = some (.cells #[.int .i64 0] 3) → (∀ x, ye2 s2 x → i = x.found.length) → _ := fun {w15} A15 h5 hd => yE9 (wS := w) (wX := w15) (H.keep0 A15.mod) h5 rfl N10 hb0 hs (show l.length ≤ _ by omega) fun x hx => by
  obtain ⟨h1, h2, h3⟩ := hsp x hx
  obtain ⟨q1, q2, q3, q4, q5⟩ := hd13 x hx
  have h4 := hd x hx
  refine ⟨h1, by rw [h2, h4], ?_⟩
  rw [h3, h4, List.take_length, q1, q2, q3, q4]
 refine yaC (fun hlt => ?_) fun hge => ?_
 rotate_left
 ·intro w15 A15 _ _ _ _ h5
  refine out A15 h5 fun x hx => ?_
  obtain ⟨_, _, h3⟩ := hsp x hx
  have := congrArg List.length h3
  have h4 := (hd13 x hx).2.2.2.2
  rw [List.length_take] at this; omega
 refine yaB (fun g => ?_) fun g => ?_
 rotate_left
 ·intro w15 A15 _ _ _ _ h5
  refine out A15 h5 fun x hx => ?_
  have := (hsp x hx).1; simp [this] at g
 have g : e2 = 0 := by simpa using g
 intro b6 f6 w15 A15 _ _ _ _ hf15
 have l6 := A15.lt b6 (by simp)
 have s15 := A15.mod.size
 refine (ybL (by omega) (H.rd.keep0 A15.mod) (off := 0) (x := 0) hf15 rfl (by omega)).mono ?_
 rintro _ w16 ⟨rfl, hr16, hf16, M16⟩
 have s16 := M16.size
 have K16 : Mod [b1] w14 w16 := (A15.mod.trans M16).less fun k hk hl => by simp at hk ⊢; omega
 obtain ⟨a16, e16, H16, hst16⟩ := H.go K16 hr16
 obtain ⟨n16, rfl, hn16⟩ := H16.pos
 obtain ⟨off, hoff⟩ : ∃ off, off = (ybC s2.data.toList (ycE a2 e2) 0).2 := ⟨_, rfl⟩
 have hf16 : w16.heap[b6]? = some (.cells #[.int .i64 off, .bool false, .string ByteArray.empty, .bool false, .string ByteArray.empty] 101) := by rw [hf16, hoff]; rfl
 have hsp16 : ∀ x, ye2 s2 x → ∃ y, x.found[i]? = some y ∧ e16 = 0 ∧ off = y.off ∧ ym1 s2.data.toList n16 = some (y.r, (ydH x (i + 1)).length) := fun x hx => by
  obtain ⟨h1, h2, h3⟩ := hsp x hx
  have h4 := (hd13 x hx).2.2.2.2
  obtain ⟨y, hy⟩ : ∃ y, x.found[i]? = some y := ⟨_, List.getElem?_eq_getElem (by omega)⟩
  obtain ⟨h5, h6⟩ := hx.f hy
  have h7 : ycE a2 e2 = some (ydH x i).length := by unfold ycE; rw [if_pos h1, h2, Int.toNat_natCast]
  rw [h7, h5] at hst16 hoff
  unfold ycE at hst16
  by_cases he : e16 = 0
  ·rw [if_pos he, Int.toNat_natCast] at hst16
   simp only [Option.some.injEq] at hst16
   exact ⟨y, hy, he, hoff, by rw [← hst16]; exact h6⟩
  ·rw [if_neg he] at hst16; cases hst16
 have hup16 : e16 = 0 → (i : Int) + 1 ≤ n16 := fun he => by
  have h1 : ycE ((n16 : Nat) : Int) e16 = some n16 := by unfold ycE; rw [if_pos he, Int.toNat_natCast]
  obtain ⟨n2, hn2, hn3⟩ := H.pos
  have h2 : ycE a2 e2 = some n2 := by unfold ycE; rw [if_pos g, hn2, Int.toNat_natCast]
  rw [h1, h2] at hst16
  have h3 := yxA hst16
  have := hia g
  omega
 have hrow : ∀ k ∈ yeL fa, w10.heap.size ≤ k ∧ k < w14.heap.size := fun k hk => by
  have := yaT H.fr k hk; exact ⟨this.1, this.2.1⟩
 refine ⟨rfl, yaH.ofE M16 fun k hk hl he => by simp at hk he ⊢; omega, _, _, _, H16.hr, _, _, _, _, _, _, _, _, _, _, H16.hx, _, H16.he, _, H16.hn, _, _, _, _, _, hf16, ?_, ?_⟩
 ·intro b9 f9 w17 A17 _ _ _ _ _
  have l9 := A17.lt b9 (by simp)
  have s17 := A17.mod.size
  refine (ykM s2 n16 (by omega) hn16 w17).mono ?_
  rintro _ w18 ⟨_, rfl, ⟨r, to, e18, rfl, hrec⟩, M18⟩
  have s18 := M18.size
  have K18 : Mod [b1] w14 w18 := ((K16.trans A17.mod).trans M18).less (by simp)
  have H18 := (H16.keep0 A17.mod).keep0 M18
  have hf18 := M18.keep0 (A17.mod.keep0 hf16)
  refine ⟨_, _, _, _, _, _, rfl, yaH.of0 M18, _, _, _, H18.hr, _, _, _, _, _, _, _, _, _, _, H18.hx, _, H18.he, _, H18.hn, _, _, _, _, _, hf18, ?_⟩
  intro w19 A19 _ _ _ _ _
  have s19 := A19.mod.size
  have K19 : Mod [b1] w14 w19 := (K18.trans A19.mod).less fun k hk hl => by simp at hk ⊢; omega
  have hf19 := A19.mod.keep hf18 (show b6 ∉ [b9] by simp; omega)
  have hr19 : Rd QT s2 b1 (ycE ((n16 : Nat) : Int) e16) w19 := H18.rd.keep A19.mod (by simp; omega)
  refine (yc8 hr19 (to := to) (e1 := e18) (by
   rcases hrec with ⟨_, h⟩ | ⟨_, h, _⟩
   ·have := yiM h; omega
   ·omega)).mono ?_
  rintro _ w20 ⟨rfl, M20, hr20⟩
  have s20 := M20.size
  have K20 : Mod [b1] w14 w20 := (K19.trans M20).less (by simp)
  have hf20 := M20.keep hf19 (show b6 ∉ [b1] by simp; omega)
  obtain ⟨a20, e20, H20, hst20⟩ := H.go K20 hr20
  refine ⟨_, rfl, yaH.ofE M20 fun k hk hl he => by simp at hk he ⊢; omega, _, _, _, H20.hr, _, _, _, _, _, _, _, _, _, _, H20.hx, _, H20.he, _, H20.hn, _, _, _, _, _, hf20, ?_⟩
  have hc20 : e20 = 0 → e16 = 0 ∧ e18 = 0 ∧ a20 = to ∧ (i : Int) + 1 ≤ a20 := fun he => by
   obtain ⟨n20, hn20, _⟩ := H20.pos
   have h1 : ycE a20 e20 = some n20 := by unfold ycE; rw [if_pos he, hn20, Int.toNat_natCast]
   rw [h1] at hst20
   by_cases hc : (ycE ((n16 : Nat) : Int) e16).isSome = true ∧ e18 = 0
   ·rw [if_pos hc] at hst20
    have h16 : e16 = 0 := by
     by_cases h : e16 = 0
     ·exact h
     ·have := hc.1; unfold ycE at this; rw [if_neg h] at this; cases this
    rcases hrec with ⟨_, h⟩ | ⟨h, _, _⟩
    ·have h2 := yiM h
     have h3 := hup16 h16
     simp only [Option.some.injEq] at hst20
     exact ⟨h16, hc.2, by omega, by omega⟩
    ·exact absurd hc.2 h
   ·rw [if_neg hc] at hst20; cases hst20
  have hsp20 : ∀ x, ye2 s2 x → e20 = 0 ∧ a20 = (ydH x (i + 1)).length ∧ e16 = 0 ∧ e18 = 0 ∧ l ++ [⟨off, r⟩] = x.found.take (i + 1) := fun x hx => by
   obtain ⟨y, hy, h16, h1, h2⟩ := hsp16 x hx
   rcases hrec with ⟨h3, h4⟩ | ⟨_, _, h4⟩
   ·rw [h2] at h4
    simp only [Option.some.injEq, Prod.mk.injEq] at h4
    have h5 : (ycE ((n16 : Nat) : Int) e16).isSome = true := by unfold ycE; rw [if_pos h16]; rfl
    rw [if_pos ⟨h5, h3⟩] at hst20
    obtain ⟨n20, hn20, _⟩ := H20.pos
    unfold ycE at hst20
    by_cases he : e20 = 0
    ·rw [if_pos he] at hst20
     simp only [Option.some.injEq] at hst20
     refine ⟨he, by omega, h16, h3, ?_⟩
     rw [List.take_add_one, hy, (hsp x hx).2.2, h1, ← h4.1]; rfl
    ·rw [if_neg he] at hst20; cases hst20
   ·rw [h2] at h4; cases h4
  refine yaB (fun gm => ?_) fun gm => ?_
  rotate_left
  ·
   refine ylM (f := ⟨fa, fn, fc⟩) (y := ⟨off, ⟨false, ByteArray.empty, false, ByteArray.empty⟩⟩) H20.fr (show l.length ≤ _ by omega) H20.m.size (fun b hb' hk => by have := hrow b hk; simp at hb'; omega) fun a' c' w22 hR M22 => ?_
   intro w23 A23 hr hx he hn _
   have H23 := H20.app rfl rfl hR M22 A23.mod hr hx he hn
   refine yf7 (fv'.toNat - (i + 1)) (by omega) ⟨i + 1, l ++ [⟨off, ⟨false, ByteArray.empty, false, ByteArray.empty⟩⟩], ek, by simp [hli], ?_, fun he => (hc20 he).2.2.2, rfl, rfl, rfl, rfl, rfl, rfl, rfl, rfl, rfl, rfl, H23, fun x hx => ?_, by omega⟩
   ·have := hia g
    obtain ⟨n, hn1, hn2⟩ := H.pos
    omega
   ·obtain ⟨_, _, h16, h18, _⟩ := hsp20 x hx
    have : (ycE ((n16 : Nat) : Int) e16).isSome = true := by unfold ycE; rw [if_pos h16]; rfl
    rw [this, h18] at gm; cases gm
  ·intro w21 A21 hr21 hx21 he21 hn21 hf21
   have K21 : Mod [b1] w14 w21 := (K20.trans A21.mod).less fun k hk hl => by simp at hk ⊢; omega
   have s21 := A21.mod.size
   refine ylM (f := ⟨fa, fn, fc⟩) (y := ⟨off, r⟩) (H.fr.keep K21 fun ad ha hk => by have := H.fr.base ad ha; simp at hk; omega) (show l.length ≤ _ by omega) (by have := H.m.size; omega) (fun b hb' hk => by have := hrow b hk; simp at hb'; omega) fun a' c' w22 hR M22 => ?_
   intro w23 A23 hr hx he hn _
   have H21 : RPS w10 w21 b0 b1 b2 b3 b4 b5 s2 a20 e20 ⟨ev', z1, z2, z3, l, []⟩ ⟨fa, fn, fc⟩ ybJ ev' fv' := ⟨hr21, hx21, he21, hn21, H.fr.keep K21 fun ad ha hk => by have := H.fr.base ad ha; simp at hk; omega, Row.nil .., H.m.via K21 (by simp), H.lt, H.nd, H20.pos⟩
   have H23 := H21.app rfl rfl hR M22 A23.mod hr hx he hn
   refine yf7 (fv'.toNat - (i + 1)) (by omega) ⟨i + 1, l ++ [⟨off, r⟩], ek, by simp [hli], ?_, fun he => (hc20 he).2.2.2, rfl, rfl, rfl, rfl, rfl, rfl, rfl, rfl, rfl, rfl, H23, fun x hx => ⟨(hsp20 x hx).1, (hsp20 x hx).2.1, (hsp20 x hx).2.2.2.2⟩, by omega⟩
   have := hia g
   obtain ⟨n, hn1, hn2⟩ := H.pos
   omega
 ·intro w17 A17 _ _ _ _ _
  have s17 := A17.mod.size
  refine (ykM s2 n16 (by omega) hn16 w17).mono ?_
  rintro _ w18 ⟨_, rfl, ⟨r, to, e18, rfl, hrec⟩, M18⟩
  have s18 := M18.size
  have K18 : Mod [b1] w14 w18 := ((K16.trans A17.mod).trans M18).less (by simp)
  have H18 := (H16.keep0 A17.mod).keep0 M18
  have hf18 := M18.keep0 (A17.mod.keep0 hf16)
  refine ⟨_, _, _, _, _, _, rfl, yaH.of0 M18, _, _, _, H18.hr, _, _, _, _, _, _, _, _, _, _, H18.hx, _, H18.he, _, H18.hn, _, _, _, _, _, hf18, ?_⟩
  intro b9 f9 w19 A19 _ _ _ _ _
  have l9 := A19.lt b9 (by simp)
  have s19 := A19.mod.size
  have K19 : Mod [b1] w14 w19 := (K18.trans A19.mod).less fun k hk hl => by simp at hk ⊢; omega
  have hf19 := A19.mod.keep0 hf18
  have hr19 : Rd QT s2 b1 (ycE ((n16 : Nat) : Int) e16) w19 := H18.rd.keep0 A19.mod
  refine (yc8 hr19 (to := to) (e1 := e18) (by
   rcases hrec with ⟨_, h⟩ | ⟨_, h, _⟩
   ·have := yiM h; omega
   ·omega)).mono ?_
  rintro _ w20 ⟨rfl, M20, hr20⟩
  have s20 := M20.size
  have K20 : Mod [b1] w14 w20 := (K19.trans M20).less (by simp)
  have hf20 := M20.keep hf19 (show b6 ∉ [b1] by simp; omega)
  obtain ⟨a20, e20, H20, hst20⟩ := H.go K20 hr20
  refine ⟨_, rfl, yaH.ofE M20 fun k hk hl he => by simp at hk he ⊢; omega, _, _, _, H20.hr, _, _, _, _, _, _, _, _, _, _, H20.hx, _, H20.he, _, H20.hn, _, _, _, _, _, hf20, ?_⟩
  have hc20 : e20 = 0 → e16 = 0 ∧ e18 = 0 ∧ a20 = to ∧ (i : Int) + 1 ≤ a20 := fun he => by
   obtain ⟨n20, hn20, _⟩ := H20.pos
   have h1 : ycE a20 e20 = some n20 := by unfold ycE; rw [if_pos he, hn20, Int.toNat_natCast]
   rw [h1] at hst20
   by_cases hc : (ycE ((n16 : Nat) : Int) e16).isSome = true ∧ e18 = 0
   ·rw [if_pos hc] at hst20
    have h16 : e16 = 0 := by
     by_cases h : e16 = 0
     ·exact h
     ·have := hc.1; unfold ycE at this; rw [if_neg h] at this; cases this
    rcases hrec with ⟨_, h⟩ | ⟨h, _, _⟩
    ·have h2 := yiM h
     have h3 := hup16 h16
     simp only [Option.some.injEq] at hst20
     exact ⟨h16, hc.2, by omega, by omega⟩
    ·exact absurd hc.2 h
   ·rw [if_neg hc] at hst20; cases hst20
  have hsp20 : ∀ x, ye2 s2 x → e20 = 0 ∧ a20 = (ydH x (i + 1)).length ∧ e16 = 0 ∧ e18 = 0 ∧ l ++ [⟨off, r⟩] = x.found.take (i + 1) := fun x hx => by
   obtain ⟨y, hy, h16, h1, h2⟩ := hsp16 x hx
   rcases hrec with ⟨h3, h4⟩ | ⟨_, _, h4⟩
   ·rw [h2] at h4
    simp only [Option.some.injEq, Prod.mk.injEq] at h4
    have h5 : (ycE ((n16 : Nat) : Int) e16).isSome = true := by unfold ycE; rw [if_pos h16]; rfl
    rw [if_pos ⟨h5, h3⟩] at hst20
    obtain ⟨n20, hn20, _⟩ := H20.pos
    unfold ycE at hst20
    by_cases he : e20 = 0
    ·rw [if_pos he] at hst20
     simp only [Option.some.injEq] at hst20
     refine ⟨he, by omega, h16, h3, ?_⟩
     rw [List.take_add_one, hy, (hsp x hx).2.2, h1, ← h4.1]; rfl
    ·rw [if_neg he] at hst20; cases hst20
   ·rw [h2] at h4; cases h4
  refine yaB (fun gm => ?_) fun gm => ?_
  rotate_left
  ·
   refine ylM (f := ⟨fa, fn, fc⟩) (y := ⟨off, ⟨false, ByteArray.empty, false, ByteArray.empty⟩⟩) H20.fr (show l.length ≤ _ by omega) H20.m.size (fun b hb' hk => by have := hrow b hk; simp at hb'; omega) fun a' c' w22 hR M22 => ?_
   intro w23 A23 hr hx he hn _
   have H23 := H20.app rfl rfl hR M22 A23.mod hr hx he hn
   refine yf7 (fv'.toNat - (i + 1)) (by omega) ⟨i + 1, l ++ [⟨off, ⟨false, ByteArray.empty, false, ByteArray.empty⟩⟩], ek, by simp [hli], ?_, fun he => (hc20 he).2.2.2, rfl, rfl, rfl, rfl, rfl, rfl, rfl, rfl, rfl, rfl, H23, fun x hx => ?_, by omega⟩
   ·have := hia g
    obtain ⟨n, hn1, hn2⟩ := H.pos
    omega
   ·obtain ⟨_, _, h16, h18, _⟩ := hsp20 x hx
    have : (ycE ((n16 : Nat) : Int) e16).isSome = true := by unfold ycE; rw [if_pos h16]; rfl
    rw [this, h18] at gm; cases gm
  ·intro w21 A21 hr21 hx21 he21 hn21 hf21
   have K21 : Mod [b1] w14 w21 := (K20.trans A21.mod).less fun k hk hl => by simp at hk ⊢; omega
   have s21 := A21.mod.size
   refine ylM (f := ⟨fa, fn, fc⟩) (y := ⟨off, r⟩) (H.fr.keep K21 fun ad ha hk => by have := H.fr.base ad ha; simp at hk; omega) (show l.length ≤ _ by omega) (by have := H.m.size; omega) (fun b hb' hk => by have := hrow b hk; simp at hb'; omega) fun a' c' w22 hR M22 => ?_
   intro w23 A23 hr hx he hn _
   have H21 : RPS w10 w21 b0 b1 b2 b3 b4 b5 s2 a20 e20 ⟨ev', z1, z2, z3, l, []⟩ ⟨fa, fn, fc⟩ ybJ ev' fv' := ⟨hr21, hx21, he21, hn21, H.fr.keep K21 fun ad ha hk => by have := H.fr.base ad ha; simp at hk; omega, Row.nil .., H.m.via K21 (by simp), H.lt, H.nd, H20.pos⟩
   have H23 := H21.app rfl rfl hR M22 A23.mod hr hx he hn
   refine yf7 (fv'.toNat - (i + 1)) (by omega) ⟨i + 1, l ++ [⟨off, r⟩], ek, by simp [hli], ?_, fun he => (hc20 he).2.2.2, rfl, rfl, rfl, rfl, rfl, rfl, rfl, rfl, rfl, rfl, H23, fun x hx => ⟨(hsp20 x hx).1, (hsp20 x hx).2.1, (hsp20 x hx).2.2.2.2⟩, by omega⟩
   have := hia g
   obtain ⟨n, hn1, hn2⟩ := H.pos
   omega
theorem Row.fresh0 {α : Type} {w : World} {base T sz b : Nat} {enc : α → List Value} (h : w.heap[b]? = some (.cells #[] T)) (hb : base ≤ b) : Row w base T sz enc (some ⟨b, 0, none⟩) 0 0 [] :=
 ⟨rfl, by simp, .inr ⟨b, 0, #[], rfl, hb, h, by simp, by simp, by simp, by simp⟩⟩
theorem yFs.out {a : Nat} {o : Option (Nat × Nat)} {v : Value} (h : yFs a o v) : ∃ (n : Nat) (b e : Int), v = .tuple #[.int .u64 (n : Nat), .int .i64 b, .int .i64 e] ∧ ((e = 0 ∧ ∃ m : Nat, b = ((a + m : Nat) : Int) ∧ o = some (n, m)) ∨ (e ≠ 0 ∧ o = none)) := by
 cases o with
 | none => obtain ⟨e, he, rfl⟩ := h; exact ⟨0, _, _, rfl, .inr ⟨he, rfl⟩⟩
 | some p => obtain ⟨x, b⟩ := p; exact ⟨_, _, _, h, .inl ⟨rfl, b, rfl, rfl⟩⟩
theorem yyX.out {a : Nat} {o : Option (ByteArray × Nat)} {v : Value} (h : yyX a o v) : ∃ (n : ByteArray) (b e : Int), v = .tuple #[.string n, .int .i64 b, .int .i64 e] ∧ ((e = 0 ∧ ∃ m : Nat, b = ((a + m : Nat) : Int) ∧ o = some (n, m)) ∨ (e ≠ 0 ∧ o = none ∧ n = ⟨#[]⟩ ∧ b = 0)) := by
 cases o with
 | none => obtain ⟨e, he, rfl⟩ := h; exact ⟨_, _, _, rfl, .inr ⟨he, rfl, rfl, rfl⟩⟩
 | some p => obtain ⟨x, b⟩ := p; exact ⟨_, _, _, h, .inl ⟨rfl, b, rfl, rfl⟩⟩
theorem yF1 {n : Int} (h : num n = true) : IntKind.wrap .u64 n = ((n.toNat : Nat) : Int) := by
 have := yeC h
 obtain ⟨k, rfl⟩ := Int.eq_ofNat_of_zero_le this.1
 rw [yg6 (by omega), Int.toNat_natCast]
theorem yxB {l : List Int} {k : Nat} {n : Int} (h : l[k]? = some n) : (l.take (k + 1)).flatMap yl2 = (l.take k).flatMap yl2 ++ yaM n.toNat := ybO h
set_option maxHeartbeats 4000000 in
theorem yxC {w : World} {m : PMail} {s f p : Sl} (h : MailAt w m s f p) (hlc : m.calls.length ≤ 100000) :
  Calls pP 35 #[m.v s f p] w fun e w' => e = .returned (.tuple #[.string (if ybS m = 0 then ycN m else bs []), .int .i64 (ybS m)]) ∧ Mod [] w w' := by
 refine yaS (yEX ?_)
 intro b1 f1 w2 A2
 have l1 := A2.lt b1 (by simp)
 refine (ypB ((h.keep0 A2.mod).w hlc)).mono ?_
 rintro _ w3 ⟨rfl, M3⟩
 have s3 := M3.size
 have N3 := A2.mod.go0 M3 (by simp)
 refine ⟨_, rfl, yaH.of0 M3, yaB (fun g => ?_) fun g => ?_⟩
 ·have g : yd8 m ≠ 0 := by simpa using g
  have e : ybS m = yd8 m := by rw [ybS, if_pos g]
  rw [e, if_neg g]; exact ⟨rfl, N3⟩
 have g : yd8 m = 0 := by simpa using g
 obtain ⟨_, hn, ht, hr⟩ := ycD g
 have hE : ybS m = if (ybR m).length > 1048576 then 2 else 0 := by rw [ybS, if_neg (by simpa using g)]
 intro b5 f5 w6 A6 h6
 have l5 := A6.lt b5 (by simp)
 refine (yvR b1 w6).mono ?_
 rintro _ w7 ⟨rfl, M7⟩
 refine ⟨_, _, _, _, _, _, _, _, _, _, rfl, yaH.of0 M7, _, _, _, _, _, _, _, _, _, _, _, _, _, _, _, _, _, _, _, _, _, _, _, M7.keep0 h6, ?_⟩
 intro w8 A8 h8 hb8
 have s6 := A6.mod.size
 have s7 := M7.size
 have s8 := A8.mod.size
 have N8 : Mod [] w w8 := ((N3.go0 A6.mod (by simp)).go0 M7 (by simp)).go0 A8.mod (by simp)
 have hB0 : Sb w3.heap.size b5 [] w8 := Sb.fresh f5 hb8
 have hsb : yb2 w8 1 (fun x : Int => [.int .i64 x]) (some ⟨b1, 0, none⟩) 10 (yaX m) := ⟨rfl, fun i x hx => ⟨_, rfl, fun j v hv => by
  have hj : j = 0 := by have := (List.getElem?_eq_some_iff.1 hv).1; simp at this; omega
  subst hj
  simp at hv; subst hv
  have := ygJ (s := s) (f := f) (p := p) h8 hx
  simpa [ya0, add_zero] using this⟩⟩
 refine ywX (fun mm x19 k0 k1 k2 k3 k4 k5 k6 k7 k8 k9 sa sn sc r0 r1 r2 r3 fa fn fc pa pn pc p1 a1 n1 c1 w' => ∃ k : Nat, x19 = k ∧ k ≤ 10 ∧ k0 = m.kind ∧ k1 = m.fr ∧ k2 = m.to ∧ k3 = m.view ∧ k4 = m.normal ∧ k5 = m.last ∧ k6 = m.commit ∧ k7 = m.nonce ∧ k8 = m.base ∧ k9 = m.n ∧ sa = s.a ∧ sn = s.n ∧ sc = s.c ∧ r0 = m.r.e ∧ r1 = m.r.off ∧ r2 = m.r.n ∧ r3 = m.r.gen ∧ fa = f.a ∧ fn = f.n ∧ fc = f.c ∧ pa = p.a ∧ pn = p.n ∧ pc = p.c ∧ Sb w3.heap.size b5 (((yaX m).take k).flatMap yl2) w' ∧ Wr w3.heap.size b5 w8 w' ∧ mm = 10 - k) 10
  ⟨0, rfl, by omega, rfl, rfl, rfl, rfl, rfl, rfl, rfl, rfl, rfl, rfl, rfl, rfl, rfl, rfl, rfl, rfl, rfl, rfl, rfl, rfl, rfl, rfl, rfl, by simpa using hB0, Wr.of0 (Mod.refl _) (by omega), rfl⟩ ?_
 rintro mm x19 k0 k1 k2 k3 k4 k5 k6 k7 k8 k9 sa sn sc r0 r1 r2 r3 fa fn fc pa pn pc p1 a1 n1 c1 w9 ⟨k, rfl, hk, rfl, rfl, rfl, rfl, rfl, rfl, rfl, rfl, rfl, rfl, rfl, rfl, rfl, rfl, rfl, rfl, rfl, rfl, rfl, rfl, rfl, rfl, rfl, hB9, W9, rfl⟩ h9 hb9
 have lk := yeP hn k
 have lk1 := yeP hn (k + 1)
 have s9 := W9.bel.size
 have N9 : Mod [] w w9 := W9.mod N8 (by have := N3.size; omega)
 have sz3 : w3.heap.size ≤ w9.heap.size := by omega
 have ne : b1 ≠ b5 := by omega
 have M0 : ∀ {w'}, Wr w3.heap.size b5 w8 w' → Mod [] w w' := fun W => W.mod N8 (by have := N3.size; omega)
 refine yaC (fun hlt => ?_) fun hge => ?_
 ·have hk' : k < 10 := by omega
  obtain ⟨x, hx⟩ : ∃ x, (yaX m)[k]? = some x := ⟨_, List.getElem?_eq_getElem (by simpa [yaX] using hk')⟩
  have hc := ygJ (s := s) (f := f) (p := p) h9 hx
  have hx1 := ye1 hn hx
  refine ⟨_, yBC b1 hk', yq5 (yaE hc ?_)⟩
  rw [yF1 hx1]
  refine (yh8 x.toNat (yf5 hx1).1 w9).mono ?_
  rintro _ w10 ⟨rfl, M10⟩
  obtain ⟨q1, q2, q3, q4, hq⟩ := (hB9.keep0 M10).cells
  refine ⟨_, rfl, _, _, _, _, _, _, _, _, _, _, _, _, _, _, _, _, _, _, _, _, _, _, _, M10.keep0 h9, _, _, _, _, hq, ?_⟩
  have ls := yf5 hx1
  have lv := (yaO x.toNat ls.1).2
  have s10 := M10.size
  refine (yvQ (hB9.keep0 M10) (l2 := yaM x.toNat) (by omega) (by omega)).mono ?_
  rintro _ w11 ⟨rfl, hB11, W11⟩
  obtain ⟨t1, t2, t3, t4, ht1⟩ := hB11.cells
  have W9' : Wr w3.heap.size b5 w8 w11 := (W9.trans (Wr.of0 M10 (by omega))).trans W11
  refine ⟨_, _, rfl, _, _, _, _, _, _, _, _, _, _, _, _, _, _, _, _, _, _, _, _, _, _, _, W11.keep (M10.keep0 h9) ne (by decide), _, _, _, _, ht1, ?_⟩
  refine ywW (10 - (k + 1)) (by omega) ⟨k + 1, by rw [yaF (by omega) (by omega)]; omega, by omega, rfl, rfl, rfl, rfl, rfl, rfl, rfl, rfl, rfl, rfl, rfl, rfl, rfl, rfl, rfl, rfl, rfl, rfl, rfl, rfl, rfl, rfl, rfl, ?_, W9', rfl⟩
  rw [yxB hx]; exact hB11
 ·have hk' : k = 10 := by omega
  subst hk'
  have e10 : (yaX m).take 10 = yaX m := List.take_of_length_le (by simp [yaX])
  rw [e10] at hB9 lk
  obtain ⟨ll, hll, hop, hcs⟩ := h.calls
  have hl : ll.length ≤ 1000000 := by have := congrArg List.length hcs; simp at *; omega
  refine (yo5 (s := s) (ll := ll) ⟨hll.keep0 N9, fun q hq => (hop q hq).keep0 N9⟩ hl).mono ?_
  rw [hcs, ht, if_pos rfl]
  rintro _ w10 ⟨rfl, M10⟩
  obtain ⟨q1, q2, q3, q4, hq⟩ := (hB9.keep0 M10).cells
  refine ⟨_, _, rfl, _, _, _, _, _, _, _, _, _, _, _, _, _, _, _, _, _, _, _, _, _, _, _, M10.keep0 h9, _, _, _, _, hq, ?_⟩
  have N10 := N9.go0 M10 (by simp)
  refine (yqU (h.rep.keep0 N10)).mono ?_
  rw [hr, if_pos rfl]
  rintro _ w11 ⟨rfl, M11⟩
  obtain ⟨t1, t2, t3, t4, ht1⟩ := ((hB9.keep0 M10).keep0 M11).cells
  refine ⟨_, _, rfl, _, _, _, _, _, _, _, _, _, _, _, _, _, _, _, _, _, _, _, _, _, _, _, M11.keep0 (M10.keep0 h9), _, _, _, _, ht1, ?_⟩
  have hne : (yaX m).flatMap yl2 ≠ [] := fun e => by
   have := (yaO m.kind.toNat (by have := yeC (ye1 hn (k := 0) (n := m.kind) rfl); omega)).1
   have e2 := congrArg List.length e
   simp only [yaX, List.flatMap_cons, List.length_append, List.length_nil] at e2
   unfold yl2 at e2
   omega
  have s10 := M10.size
  have s11 := M11.size
  refine (yBr ((hB9.keep0 M10).keep0 M11) hne).mono ?_
  rintro _ w12 ⟨rfl, hB12, W12⟩
  have s12 := W12.bel.size
  obtain ⟨u1, u2, u3, u4, hu1⟩ := hB12.cells
  have h12 := W12.keep (M11.keep0 (M10.keep0 h9)) ne (by decide)
  refine ⟨_, rfl, _, _, _, _, _, _, _, _, _, _, _, _, _, _, _, _, _, _, _, _, _, _, _, h12, _, _, _, _, hu1, ?_⟩
  have lt := ym6 ht
  have lr : (ydO m.r).length ≤ 60000 := (RepGood.of hr).len3 m.r.parts.length
  have W8 : Wr w3.heap.size b5 w8 w12 := ((W9.trans (Wr.of0 M10 (by omega))).trans (Wr.of0 M11 (by omega))).trans W12
  refine (yb4 (bs (ybP m.calls)) (by rw [yaK]; omega) w12).mono ?_
  rintro _ w13 ⟨rfl, M13⟩
  obtain ⟨v1, v2, v3, v4, hv1⟩ := (hB12.keep0 M13).cells
  have p1 := (ya4 (bs (ybP m.calls)) (by rw [yaK]; omega)).2
  have p2 := (ya4 (bs (ydO m.r)) (by rw [yaK]; omega)).2
  rw [yaK] at p1 p2
  refine ⟨_, rfl, _, _, _, _, _, _, _, _, _, _, _, _, _, _, _, _, _, _, _, _, _, _, _, M13.keep0 h12, _, _, _, _, hv1, by rw [yaK, yaK]; omega, ?_⟩
  rw [ygY]
  refine (yb4 (bs (ydO m.r)) (by rw [yaK]; omega) w13).mono ?_
  rintro _ w14 ⟨rfl, M14⟩
  obtain ⟨y1, y2, y3, y4, hy1⟩ := ((hB12.keep0 M13).keep0 M14).cells
  refine ⟨_, rfl, _, _, _, _, _, _, _, _, _, _, _, _, _, _, _, _, _, _, _, _, _, _, _, M14.keep0 (M13.keep0 h12), _, _, _, _, hy1, by rw [yaK, yaK, List.length_append]; omega, ?_⟩
  rw [ygY]
  have eB : (yaX m).flatMap yl2 ++ ybU (bs (ybP m.calls)) ++ ybU (bs (ydO m.r)) = ybR m := rfl
  rw [eB]
  have lB := ywY g
  have N14 : Mod [] w w14 := ((M0 W8).go0 M13 (by simp)).go0 M14 (by simp)
  refine yaC (fun hbig => ?_) fun hbig => ?_
  ·rw [yaK] at hbig
   have e : ybS m = 2 := by rw [hE, if_pos (by omega)]
   rw [e]; exact ⟨rfl, N14⟩
  ·rw [yaK] at hbig
   have e : ybS m = 0 := by rw [hE, if_neg (by omega)]
   refine (yqB (bs (ybR m)) (by rw [yaK]; omega) w14).mono ?_
   rintro _ w15 ⟨rfl, M15⟩
   obtain ⟨z1, z2, z3, z4, hz1⟩ := (((hB12.keep0 M13).keep0 M14).keep0 M15).cells
   refine ⟨_, rfl, _, _, _, _, _, _, _, _, _, _, _, _, _, _, _, _, _, _, _, _, _, _, _, M15.keep0 (M14.keep0 (M13.keep0 h12)), _, _, _, _, hz1, ?_⟩
   rw [e, if_pos rfl]; exact ⟨rfl, N14.go0 M15 (by simp)⟩
def ye8 (s : ByteArray) (x : PMail) : Prop := ybS x = 0 ∧ s.data.toList = ybR x
theorem ye8.num {s : ByteArray} {x : PMail} (h : ye8 s x) {k : Nat} {n : Int} (hn : (yaX x)[k]? = some n) : vg 0 (s.data.toList.drop (yhA x k)) = some (n.toNat, yhA x (k + 1) - yhA x k) ∧ yhA x k ≤ yhA x (k + 1) ∧ num n = true := by
 obtain ⟨h1, _⟩ := ybY h.1
 obtain ⟨_, h2, _, _⟩ := ycD h1
 have h3 := yzK h2 hn
 rw [← h.2] at h3
 unfold yeF at h3
 obtain ⟨p, hp, h4⟩ := Option.map_eq_some_iff.1 h3
 simp only [Prod.mk.injEq] at h4
 refine ⟨?_, by omega, ye1 h2 hn⟩
 rw [hp]
 congr 1
 exact Prod.ext h4.1 (by omega)
theorem ye8.txt {s : ByteArray} {x : PMail} (h : ye8 s x) : ∃ m1 m2, tg 1048576 (s.data.toList.drop (yhA x 10)) = some (bs (ybP x.calls), m1) ∧ tg 1048576 (s.data.toList.drop (yhA x 10 + m1)) = some (bs (ydO x.r), m2) := by
 obtain ⟨h1, h2⟩ := yzL h.1
 rw [← h.2] at h1 h2
 unfold yj9 at h1 h2
 obtain ⟨p, hp, h3⟩ := Option.map_eq_some_iff.1 h1
 obtain ⟨q, hq, h4⟩ := Option.map_eq_some_iff.1 h2
 simp only [Prod.mk.injEq] at h3 h4
 refine ⟨p.2, q.2, ?_, ?_⟩
 ·rw [hp]; congr 1; exact Prod.ext h3.1 rfl
 ·rw [h3.2, hq]; congr 1; exact Prod.ext h4.1 rfl
theorem ysN {s : ByteArray} {x y : PMail} (hx : ye8 s x) (hy : ye8 s y) : x = y := by
 have hd : ∀ k, k ≤ 10 → yhA x k = yhA y k ∧ (yaX x).take k = (yaX y).take k := by
  intro k
  induction k with
  | zero => intro _; exact ⟨rfl, rfl⟩
  | succ k ih =>
   intro hk
   obtain ⟨i1, i2⟩ := ih (by omega)
   obtain ⟨a, ha⟩ : ∃ a, (yaX x)[k]? = some a := ⟨_, List.getElem?_eq_getElem (by simp [yaX]; omega)⟩
   obtain ⟨b, hb⟩ : ∃ b, (yaX y)[k]? = some b := ⟨_, List.getElem?_eq_getElem (by simp [yaX]; omega)⟩
   obtain ⟨h1, h2, h3⟩ := hx.num ha
   obtain ⟨h4, h5, h6⟩ := hy.num hb
   rw [i1, h4] at h1
   simp only [Option.some.injEq, Prod.mk.injEq] at h1
   have h3 := yeC h3
   have h6 := yeC h6
   have e : a = b := by omega
   exact ⟨by omega, by rw [List.take_add_one, List.take_add_one, ha, hb, i2, e]⟩
 obtain ⟨h1, h2⟩ := hd 10 (Nat.le_refl _)
 rw [List.take_of_length_le (by simp [yaX]), List.take_of_length_le (by simp [yaX])] at h2
 obtain ⟨m1, m2, h3, h4⟩ := hx.txt
 obtain ⟨n1, n2, h5, h6⟩ := hy.txt
 rw [h1, h5] at h3
 simp only [Option.some.injEq, Prod.mk.injEq] at h3
 rw [h1, ← h3.2, h6] at h4
 simp only [Option.some.injEq, Prod.mk.injEq] at h4
 obtain ⟨_, _, tx, rx⟩ := ycD (ybY hx.1).1
 obtain ⟨_, _, ty, ry⟩ := ycD (ybY hy.1).1
 have e1 : y.calls = x.calls := by
  have p1 := ydX ty
  rw [h3.1, ydX tx] at p1
  exact (Option.some.inj p1).symm
 have e2 := yrG ry rx (ymR h4.1)
 obtain ⟨a1, a2, a3, a4, a5, a6, a7, a8, a9, a10, a11, a12⟩ := x
 obtain ⟨b1, b2, b3, b4, b5, b6, b7, b8, b9, b10, b11, b12⟩ := y
 simp [yaX] at h2
 simp only [PMail.mk.injEq]
 refine ⟨?_, ?_, ?_, ?_, ?_, ?_, ?_, ?_, ?_, ?_, e1.symm, e2.symm⟩ <;> omega
set_option maxHeartbeats 8000000 in
theorem yzO {s : ByteArray} (hs : s.size ≤ 900000) (w : World) :
  Calls pP 59 #[.string s] w fun e w' => ∃ v, e = .returned v ∧ ∃ (m : PMail) (s1 f1 p1 : Sl), v = m.v s1 f1 p1 ∧ MailOwn w' w.heap.size m s1 f1 p1 ∧ m.calls.length ≤ 100000 ∧ (∀ x, ye8 s x → m = x) ∧ Mod [] w w' := by
 have hss : s.data.toList.length = s.size := by simp
 refine yE6 ?_
 intro b1 f1 b2 f2 w3 A3 h3
 have l1 := A3.lt b1 (by simp)
 have l2 := A3.lt b2 (by simp)
 have nd : b1 ≠ b2 := by have := A3.nd; simp at this; exact fun h => this h.symm
 have s3 := A3.mod.size
 refine (yvR b2 w3).mono ?_
 rintro _ w4 ⟨rfl, M4⟩
 have s4 := M4.size
 have h4 := M4.keep0 h3
 refine ⟨_, _, _, _, _, _, _, _, _, _, rfl, yaH.of0 M4, _, _, _, _, _, _, _, _, _, _, _, _, _, _, _, _, _, _, _, _, _, _, _, h4, ?_⟩
 have N4 : Mod [] w w4 := A3.mod.go0 M4 (by simp)
 have z0 : ∀ {w' : World}, Mod [] w w' → (∀ x, ¬ ye8 s x) → ∃ (m : PMail) (s1 f1 p1 : Sl), Value.agg #[.int .i64 0, .int .i64 0, .int .i64 0, .int .i64 0, .int .i64 0, .int .i64 0, .int .i64 0, .int .i64 0, .int .i64 0, .int .i64 0, .slice none 0 0, .int .i64 0, .int .i64 0, .int .i64 0, .int .i64 0, .slice none 0 0, .slice none 0 0] = m.v s1 f1 p1 ∧ MailOwn w' w.heap.size m s1 f1 p1 ∧ m.calls.length ≤ 100000 ∧ (∀ x, ye8 s x → m = x) ∧ Mod [] w w' := fun {w'} N hn =>
  ⟨yiF, ybJ, ybJ, ybJ, rfl, ⟨⟨[], Row.nil .., by simp, rfl⟩, ⟨Row.nil .., Row.nil .., by simp [yiF, ydW], by simp [yiF, ydW]⟩⟩, by simp [yiF], fun x hx => absurd hx (hn x), N⟩
 refine yw9 (fun mm x4 x16 k0 k1 k2 k3 k4 k5 k6 k7 k8 k9 sa sn sc r0 r1 r2 r3 fa fn fc pa pn pc w' => ∃ a k : Nat, x4 = a ∧ x16 = k ∧ k ≤ 10 ∧ a ≤ s.size ∧ sa = none ∧ sn = 0 ∧ sc = 0 ∧ r0 = 0 ∧ r1 = 0 ∧ r2 = 0 ∧ r3 = 0 ∧ fa = none ∧ fn = 0 ∧ fc = 0 ∧ pa = none ∧ pn = 0 ∧ pc = 0 ∧ Mod [b2] w4 w' ∧ (∀ x, ye8 s x → a = yhA x k ∧ ([k0, k1, k2, k3, k4, k5, k6, k7, k8, k9] : List Int).take k = (yaX x).take k) ∧ mm = 10 - k) 10
  ⟨0, 0, rfl, rfl, by omega, by omega, rfl, rfl, rfl, rfl, rfl, rfl, rfl, rfl, rfl, rfl, rfl, rfl, rfl, (Mod.refl _).less (by simp), fun x _ => ⟨by simp [yhA], rfl⟩, rfl⟩ ?_
 rintro mm x4 x16 k0 k1 k2 k3 k4 k5 k6 k7 k8 k9 sa sn sc r0 r1 r2 r3 fa fn fc pa pn pc w5 ⟨a, k, rfl, rfl, hk, ha, rfl, rfl, rfl, rfl, rfl, rfl, rfl, rfl, rfl, rfl, rfl, rfl, rfl, M5, hsp, rfl⟩ h5
 have s5 := M5.size
 have N5 : Mod [] w w5 := N4.go0 M5 (by simpa using f2)
 refine yaC (fun hlt => ?_) fun hge => ?_
 ·have hk' : k < 10 := by omega
  refine ⟨_, yBC b2 hk', ?_⟩
  refine (yfJ s a (by omega) ha w5).mono ?_
  rintro _ w6 ⟨v, rfl, hv, rfl⟩
  obtain ⟨n, b, e, rfl, hg⟩ := hv.out
  refine ⟨_, _, _, rfl, yaH.of0 (Mod.refl _), _, _, _, _, _, _, _, _, _, _, _, _, _, _, _, _, _, _, _, _, _, _, _, h5, ?_⟩
  have hnum : ∀ x, ye8 s x → ∃ y : Int, (yaX x)[k]? = some y ∧ n = y.toNat ∧ e = 0 ∧ b = ((yhA x (k + 1) : Nat) : Int) ∧ num y = true := fun x hx => by
   obtain ⟨h1, h2⟩ := hsp x hx
   obtain ⟨y, hy⟩ : ∃ y, (yaX x)[k]? = some y := ⟨_, List.getElem?_eq_getElem (by simpa [yaX] using hk')⟩
   obtain ⟨h6, h7, h8⟩ := hx.num hy
   rw [← h1] at h6
   rcases hg with ⟨g1, m, g2, g3⟩ | ⟨_, g3⟩
   ·rw [h6] at g3
    simp only [Option.some.injEq, Prod.mk.injEq] at g3
    exact ⟨y, hy, g3.1.symm, g1, by omega, h8⟩
   ·rw [h6] at g3; cases g3
  refine yaB (fun g => fun w7 A7 _ => z0 (N5.go0 A7.mod (by simpa using f1)) fun x hx => ?_) fun g => ?_
  ·obtain ⟨y, _, _, he, _⟩ := hnum x hx
   simp [he] at g
  have g : e = 0 := by simpa using g
  refine yaC (fun gb => fun w7 A7 _ => z0 (N5.go0 A7.mod (by simpa using f1)) fun x hx => ?_) fun gb => ?_
  ·obtain ⟨y, _, h6, _, _, h7⟩ := hnum x hx
   have := yeC h7
   omega
  rcases hg with ⟨_, m, hb, hvg⟩ | ⟨g3, _⟩
  rotate_left
  ·exact absurd g g3
  have hml := ymP _ hvg
  rw [List.length_drop, hss] at hml
  obtain ⟨v, hv⟩ : ∃ v, v = IntKind.wrap .i64 (n : Int) := ⟨_, rfl⟩
  have hvn : v = n := by rw [hv, yaF (by omega) (by omega)]
  rw [← hv]
  refine yq5 (ycT h5 rfl (by simp; omega) fun w7 h7 M7 => ?_)
  have h7' : w7.heap[b2]? = some (.cells #[.int .i64 (if k = 0 then v else k0), .int .i64 (if k = 1 then v else k1), .int .i64 (if k = 2 then v else k2), .int .i64 (if k = 3 then v else k3), .int .i64 (if k = 4 then v else k4), .int .i64 (if k = 5 then v else k5), .int .i64 (if k = 6 then v else k6), .int .i64 (if k = 7 then v else k7), .int .i64 (if k = 8 then v else k8), .int .i64 (if k = 9 then v else k9), .slice none 0 0, .int .i64 0, .int .i64 0, .int .i64 0, .int .i64 0, .slice none 0 0, .slice none 0 0] 37) := by
   rw [h7]
   rcases (by omega : k = 0 ∨ k = 1 ∨ k = 2 ∨ k = 3 ∨ k = 4 ∨ k = 5 ∨ k = 6 ∨ k = 7 ∨ k = 8 ∨ k = 9) with rfl | rfl | rfl | rfl | rfl | rfl | rfl | rfl | rfl | rfl <;> rfl
  refine ⟨yaH.ofE M7 fun k hk hl he => by simp at hk he ⊢; omega, _, _, _, _, _, _, _, _, _, _, _, _, _, _, _, _, _, _, _, _, _, _, _, h7', ?_⟩
  rw [hb]
  refine yw8 (10 - (k + 1)) (by omega) ⟨a + m, k + 1, rfl, by rw [yaF (by omega) (by omega)]; omega, by omega, by omega, rfl, rfl, rfl, rfl, rfl, rfl, rfl, rfl, rfl, rfl, rfl, rfl, rfl, M5.via M7 (by simp), fun x hx => ?_, rfl⟩
  obtain ⟨y, hy, h6, _, h8, h9⟩ := hnum x hx
  have := yeC h9
  refine ⟨by omega, ?_⟩
  rw [List.take_add_one (l := yaX x), hy, ← (hsp x hx).2, show y = v by omega]
  rcases (by omega : k = 0 ∨ k = 1 ∨ k = 2 ∨ k = 3 ∨ k = 4 ∨ k = 5 ∨ k = 6 ∨ k = 7 ∨ k = 8 ∨ k = 9) with rfl | rfl | rfl | rfl | rfl | rfl | rfl | rfl | rfl | rfl <;> rfl
 ·have hk' : k = 10 := by omega
  subst hk'
  refine (ycV s a 1048576 (by omega) ha (by omega) w5).mono ?_
  rintro _ w6 ⟨v, rfl, hv, rfl⟩
  obtain ⟨t, b, e, rfl, hg⟩ := hv.out
  refine ⟨_, _, _, rfl, yaH.of0 (Mod.refl _), _, _, _, _, _, _, _, _, _, _, _, _, _, _, _, _, _, _, _, _, _, _, _, h5, ?_⟩
  have ht1 : ∀ x, ye8 s x → e = 0 ∧ t = bs (ybP x.calls) ∧ ∃ m2, tg 1048576 (s.data.toList.drop b.toNat) = some (bs (ydO x.r), m2) := fun x hx => by
   obtain ⟨m1, m2, h1, h2⟩ := hx.txt
   rw [← (hsp x hx).1] at h1 h2
   rcases hg with ⟨g1, m, g2, g3⟩ | ⟨_, g3, _⟩
   ·rw [h1] at g3
    simp only [Option.some.injEq, Prod.mk.injEq] at g3
    refine ⟨g1, g3.1.symm, m2, ?_⟩
    rw [g2, ← g3.2, Int.toNat_natCast]; exact h2
   ·rw [h1] at g3; cases g3
  refine yaB (fun g => fun w7 A7 _ => z0 (N5.go0 A7.mod (by simpa using f1)) fun x hx => by simp [(ht1 x hx).1] at g) fun g => ?_
  have g : e = 0 := by simpa using g
  rcases hg with ⟨_, m, hb, htg⟩ | ⟨g3, _⟩
  rotate_left
  ·exact absurd g g3
  have hml := yjQ htg
  rw [List.length_drop, hss] at hml
  subst hb
  refine (ycV s (a + m) 1048576 (by omega) (by omega) (by omega) w6).mono ?_
  rintro _ w7 ⟨v, rfl, hv, rfl⟩
  obtain ⟨t2, b', e2, rfl, hg2⟩ := hv.out
  refine ⟨_, _, _, rfl, yaH.of0 (Mod.refl _), _, _, _, _, _, _, _, _, _, _, _, _, _, _, _, _, _, _, _, _, _, _, _, h5, ?_⟩
  have ht2 : ∀ x, ye8 s x → e2 = 0 ∧ t2 = bs (ydO x.r) := fun x hx => by
   obtain ⟨_, _, m2, h2⟩ := ht1 x hx
   rw [Int.toNat_natCast] at h2
   rcases hg2 with ⟨g1, m', g2, g3⟩ | ⟨_, g3, _⟩
   ·rw [h2] at g3
    simp only [Option.some.injEq, Prod.mk.injEq] at g3
    exact ⟨g1, g3.1.symm⟩
   ·rw [h2] at g3; cases g3
  refine yaB (fun g => fun w8 A8 _ => z0 (N5.go0 A8.mod (by simpa using f1)) fun x hx => by simp [(ht2 x hx).1] at g) fun g2 => ?_
  have g2 : e2 = 0 := by simpa using g2
  rcases hg2 with ⟨_, m', _, htg2⟩ | ⟨g3, _⟩
  rotate_left
  ·exact absurd g2 g3
  have hml2 := yjQ htg2
  rw [List.length_drop, hss] at hml2
  refine (ywF (s := t) (by omega) w7).mono ?_
  rintro _ w8 ⟨v, rfl, hv, M8⟩
  have s8 := M8.size
  have hpc : ∃ (xs : List PCall) (sl : Sl) (e8 : Int), v = .tuple #[.slice sl.a sl.n sl.c, .int .i64 e8] ∧ ya7 w8 w7.heap.size sl xs ∧ xs.length ≤ 100000 ∧ ∀ x, ye8 s x → xs = x.calls := by
   cases hp : ydJ t with
   | none =>
    rw [hp] at hv
    refine ⟨[], ybJ, 162, hv, ⟨[], Row.nil .., by simp, rfl⟩, by simp, fun x hx => ?_⟩
    obtain ⟨h1, _⟩ := ybY hx.1
    obtain ⟨_, _, h2, _⟩ := ycD h1
    rw [(ht1 x hx).2.1, ydX h2] at hp; cases hp
   | some xs =>
    rw [hp] at hv
    obtain ⟨sl, rfl, hc⟩ := hv
    have h6 := (ysL.1 hp).1
    refine ⟨xs, sl, 0, rfl, hc, by have := (yf4 h6).1; omega, fun x hx => ?_⟩
    obtain ⟨h1, _⟩ := ybY hx.1
    obtain ⟨_, _, h2, _⟩ := ycD h1
    rw [(ht1 x hx).2.1, ydX h2] at hp
    exact (Option.some.inj hp).symm
  obtain ⟨xs, sl, e8, rfl, hC, hxl, hxs⟩ := hpc
  have h8 := M8.keep0 h5
  refine ⟨_, _, _, _, rfl, yaH.of0 M8, _, _, _, _, _, _, _, _, _, _, _, _, _, _, _, _, _, _, _, _, _, _, _, h8, ?_⟩
  intro w9 A9 h9
  have s9 := A9.mod.size
  refine (ypH (s := t2) (by omega) w9).mono ?_
  rintro _ w10 ⟨v, rfl, hv, M10⟩
  have s10 := M10.size
  have hpr : ∃ (r : PRep) (fl pl : Sl) (e10 : Int), v = .tuple #[r.v fl pl, .int .i64 e10] ∧ RepOwn w10 w9.heap.size r fl pl ∧ ∀ x, ye8 s x → r = x.r := by
   rcases hv with ⟨r, fl, pl, h1, rfl, h2⟩ | ⟨h1, rfl⟩
   ·refine ⟨r, fl, pl, 0, rfl, h2, fun x hx => ?_⟩
    obtain ⟨h3, _⟩ := ybY hx.1
    obtain ⟨_, _, _, h4⟩ := ycD h3
    have h5 := h1.eq
    rw [(ht2 x hx).2] at h5
    exact (yrG h4 h1.1 (ymR h5)).symm
   ·refine ⟨ydW, ybJ, ybJ, 40, rfl, ⟨Row.nil .., Row.nil .., by simp [ydW], by simp [ydW]⟩, fun x hx => ?_⟩
    obtain ⟨h3, _⟩ := ybY hx.1
    obtain ⟨_, _, _, h4⟩ := ycD h3
    exact absurd (ye2.of h4 (ht2 x hx).2) (h1 _)
  obtain ⟨r, fl, pl, e10, rfl, hR, hrx⟩ := hpr
  have h10 := M10.keep0 h9
  refine ⟨_, _, _, _, _, _, _, _, _, _, _, rfl, yaH.of0 M10, _, _, _, _, _, _, _, _, _, _, _, _, _, _, _, _, _, _, _, _, _, _, _, h10, ?_⟩
  intro w11 A11 h11
  have lb : b1 < w7.heap.size ∧ b2 < w7.heap.size := by omega
  refine ⟨⟨k0, k1, k2, k3, k4, k5, k6, k7, k8, k9, xs, r⟩, sl, fl, pl, rfl, ⟨?_, ?_⟩, hxl, fun x hx => ?_, ?_⟩
  ·exact (((hC.keepB A9.mod (by simp; omega)).keep0 M10).keepB A11.mod (by simp; omega)).rebase (by omega)
  ·exact (hR.keepB A11.mod (by simp; omega)).rebase (by omega)
  ·have h6 := (hsp x hx).2
   have h7 := hxs x hx
   have h8 := hrx x hx
   obtain ⟨x1, x2, x3, x4, x5, x6, x7, x8, x9, x10, xc, xr⟩ := x
   simp [yaX] at h6
   simp only [PMail.mk.injEq]
   refine ⟨?_, ?_, ?_, ?_, ?_, ?_, ?_, ?_, ?_, ?_, h7, h8⟩ <;> omega
  ·exact (((N5.go0 M8 (by simp)).go0 A9.mod (by simpa using f2)).go0 M10 (by simp)).go0 A11.mod (by simp; omega)
def yFa (w0 w : World) (base : Nat) (s : ByteArray) (v : Value) : Prop :=
 (∃ (m : PMail) (s1 f1 p1 : Sl), ybS m = 0 ∧ s = ycN m ∧ v = .tuple #[m.v s1 f1 p1, .int .i64 0] ∧ MailOwn w base m s1 f1 p1 ∧ m.calls.length ≤ 100000) ∨ ((∀ m, ybS m = 0 → s ≠ ycN m) ∧ v = .tuple #[yiF.v ybJ ybJ ybJ, .int .i64 180])
theorem yBN {s : ByteArray} (hs : s.size ≤ 900000) (w : World) :
  Calls pP 36 #[.string s] w fun e w' => ∃ v, e = .returned v ∧ yFa w w' w.heap.size s v ∧ Mod [] w w' := by
 have hss : s.data.toList.length = s.size := by simp
 refine yE7 ?_
 intro b1 f1 w2 A2
 have s2 := A2.mod.size
 refine (ymS s 0 1048576 (by omega) (by omega) (by omega) w2).mono ?_
 rintro _ w3 ⟨v, rfl, hv, M3⟩
 have s3 := M3.size
 rw [List.drop_zero] at hv
 obtain ⟨t, b, e, rfl, hg⟩ := hv.out
 refine ⟨_, _, _, rfl, yaH.of0 M3, ?_⟩
 have htl : t.size ≤ 900000 := by
  rcases hg with ⟨_, m, _, g3⟩ | ⟨_, _, g4, _⟩
  ·have := yAq g3; omega
  ·rw [g4]; show 0 ≤ _; omega
 have hx : ∀ x, ybS x = 0 → s = ycN x → e = 0 ∧ ye8 t x := fun x h1 h2 => by
  have h3 := yBK h1
  rw [← h2] at h3
  rcases hg with ⟨g1, m, _, g3⟩ | ⟨_, g3, _⟩
  ·rw [h3] at g3
   simp only [Option.some.injEq, Prod.mk.injEq] at g3
   exact ⟨g1, h1, by rw [← g3.1, ydL]⟩
  ·rw [h3] at g3; cases g3
 refine (yzO htl w3).mono ?_
 rintro _ w4 ⟨_, rfl, m, s1, f1', p1, rfl, hO, hlc, hm, M4⟩
 have s4 := M4.size
 refine ⟨_, _, _, _, _, _, _, _, _, _, _, _, _, _, _, _, _, _, _, _, _, _, _, rfl, yaH.of0 M4, ?_⟩
 intro b5 f5 w6 A6
 have s6 := A6.mod.size
 refine (yxC ((hO.keep0 A6.mod).at) hlc).mono ?_
 rintro _ w7 ⟨rfl, M7⟩
 have s7 := M7.size
 refine ⟨_, _, rfl, yaH.of0 M7, ?_⟩
 have N7 : Mod [] w w7 := (((A2.mod.go0 M3 (by simp)).go0 M4 (by simp)).go0 A6.mod (by simp)).go0 M7 (by simp)
 have no : ∀ {w'}, Adv [b1] [] w7 w' → (∀ x, ybS x = 0 → s ≠ ycN x) → yFa w w' w.heap.size s (.tuple #[yiF.v ybJ ybJ ybJ, .int .i64 180]) ∧ Mod [] w w' := fun {w'} A h => ⟨.inr ⟨h, rfl⟩, N7.go0 A.mod (by simpa using f1)⟩
 refine yaB (fun g => fun w8 A8 => no A8 fun x h1 h2 => ?_) fun g => ?_
 ·have := (hx x h1 h2).1; simp [this] at g
 refine yaB (fun g2 => fun w8 A8 => no A8 fun x h1 h2 => ?_) fun g2 => ?_
 ·have := hm x (hx x h1 h2).2; subst this; simp [h1] at g2
 have g2 : ybS m = 0 := by simpa using g2
 rw [if_pos g2, ygE]
 refine yaB (fun g3 => fun w8 A8 => no A8 fun x h1 h2 => ?_) fun g3 => fun w8 A8 => ?_
 ·have := hm x (hx x h1 h2).2; subst this; simp [h2] at g3
 ·have g3 : ycN m = s := by simpa using g3
  have l1 : b1 < w2.heap.size := A2.lt b1 (by simp)
  exact ⟨.inl ⟨m, s1, f1', p1, g2, g3.symm, rfl, ((((hO.keep0 A6.mod).keep0 M7).keepB A8.mod (by simp; omega)).rebase (by omega)), hlc⟩, N7.go0 A8.mod (by simpa using f1)⟩
section
set_option maxRecDepth 100000
variable {R : VWP} {w w0 : World} {m : Nat} {i0 i1 i2 i3 i4 i5 i6 i7 i8 i9 j0 j1 j2 j3 j4 j5 j6 j7 j8 j9 k0 k1 k2 k3 k4 k5 k6 k7 k8 k9 l0 l1 l2 l3 l4 l5 l6 l7 l8 l9 : Int} {s0 s1 s2 s3 s4 s5 s6 s7 s8 s9 t0 t1 t2 t3 t4 t5 t6 t7 t8 t9 : BA} {n0 n1 n2 n3 n4 n5 n6 n7 n8 n9 o0 o1 o2 o3 o4 o5 o6 o7 o8 o9 p0 p1 p2 p3 p4 p5 p6 p7 p8 p9 : Nat} {q0 q1 q2 q3 q4 q5 q6 q7 q8 q9 r0 r1 r2 r3 r4 r5 r6 r7 r8 r9 : OA} {B0 B1 B2 B3 B4 B5 B6 B7 B8 B9 : Bool} {M0 M1 M2 M3 : Option Nat} {V0 V1 V2 V3 V4 V5 : Value} {A0 A1 A2 : Addr}
def ypI : LA := ⟨[0, 0, 1, 0, 1, 1, 1, 1], [1, 2, 3, 4], [(1, 0, 0), (2, 1, 0), (3, 2, 0)], 3, []⟩
def ylN : LA := ⟨[0, 0, 1, 0, 1, 1, 1, 1, 1], [1, 2, 3, 6], [(1, 0, 0), (2, 1, 0), (3, 2, 0)], 3, []⟩
def yrJ : List LA := [ypI, ylN]
abbrev yxD := dnF pP yrJ (code Tryz.f34)
abbrev yGN := yaW pP yrJ (code Tryz.f34)
abbrev yxE (p : List Nat) (K : List Kh) (R : VWP) := yaW pP yrJ (code Tryz.f34) p K (ybI pP Tryz.f34 [] R)
def ykN (bm0 : Nat) (a9 b0 b1 b2 : Int) (a0 : OA) (a6 a3 : Nat) (a1 : OA) (a7 a4 bm1 bm2 : Nat) (b3 b4 b5 b6 : Int) : Int × (Option Addr) × Nat × Nat → List Value × List TB := fun (b7, a2, a8, a5) => ([(.pointer (some ⟨bm0, 0, none⟩)), (.pointer (some ⟨bm1, 0, none⟩)), (.pointer (some ⟨bm2, 0, none⟩)), .int .i64 b7], [⟨bm0, 35, [.int .i64 a9, .int .i64 b0, .int .i64 b1, .int .i64 b2, .slice a0 a6 a3, .slice a1 a7 a4], false⟩, ⟨bm1, 35, [.int .i64 0, .int .i64 0, .int .i64 0, .int .i64 0, .slice none 0 0, .slice none 0 0], false⟩, ⟨bm2, 35, [.int .i64 b3, .int .i64 b4, .int .i64 b5, .int .i64 b6, .slice a2 a8 a5, .slice none 0 0], false⟩])
def yiR (bm0 : Nat) (b2 b3 b4 b5 : Int) (a0 : OA) (a8 a4 : Nat) (a1 : OA) (a9 a5 bm1 bm2 : Nat) (b6 b7 b8 b9 : Int) (a2 : OA) (b0 a6 : Nat) : Int × (Option Addr) × Nat × Nat → List Value × List TB := fun (c0, a3, b1, a7) => ([(.pointer (some ⟨bm0, 0, none⟩)), (.pointer (some ⟨bm1, 0, none⟩)), (.pointer (some ⟨bm2, 0, none⟩)), .int .i64 c0], [⟨bm0, 35, [.int .i64 b2, .int .i64 b3, .int .i64 b4, .int .i64 b5, .slice a0 a8 a4, .slice a1 a9 a5], false⟩, ⟨bm1, 35, [.int .i64 0, .int .i64 0, .int .i64 0, .int .i64 0, .slice none 0 0, .slice none 0 0], false⟩, ⟨bm2, 35, [.int .i64 b6, .int .i64 b7, .int .i64 b8, .int .i64 b9, .slice a2 b0 a6, .slice a3 b1 a7], false⟩])
abbrev yAS (bm0 : Nat) (a6 a7 a8 a9 : Int) (a0 : OA) (a4 a2 : Nat) (a1 : OA) (a5 a3 bm1 bm2 : Nat) (b0 b1 b2 b3 : Int) (I : Nat → Int → Option Addr → Nat → Nat → World → Prop) (m : Nat) : Kh := KG (ykN bm0 a6 a7 a8 a9 a0 a4 a2 a1 a5 a3 bm1 bm2 b0 b1 b2 b3) (U4 I) m
theorem yxF {I : Nat → Int → Option Addr → Nat → Nat → World → Prop} (m' : Nat) (h1 : m' < m) (h2 : I m' i8 q2 n7 n8 w) : KS (yAS n0 i0 i1 i2 i3 q0 n1 n2 q1 n3 n4 n5 n6 i4 i5 i6 i7 I m) (ykN n0 i0 i1 i2 i3 q0 n1 n2 q1 n3 n4 n5 n6 i4 i5 i6 i7 (i8, q2, n7, n8)) w := ⟨m', h1, _, rfl, rfl, h2⟩
theorem yxG {a1 : OA} {a2 : OA} {b8 : OA} (I : Nat → Int → Option Addr → Nat → Nat → World → Prop) (m0 : Nat) (h0 : I m0 i8 b8 n7 n8 w0)
 (hr : ∀ m b7 a3 a8 a6 w, I m b7 a3 a8 a6 w →
 brB (decide (b7 < (n1 : Int))) (
 brB (decide (b7 < 70)) (
 ixA a1 n1 b7 5 fun q4 =>
 yaD .i64 w q4 fun x5 => ya1 w (Addr.add q4 1) fun t6 => yaY w (Addr.add q4 2) fun s7 => ya1 w (Addr.add q4 3) fun t8 => yaY w (Addr.add q4 4) fun s9 =>
 ∀ c1, w.heap.size ≤ c1 →
 slS s7 0 (if 80 < (s7.size : Int) then 80 else (s7.size : Int)) fun d1 =>
 slS s9 0 (if 600 < (s9.size : Int) then 600 else (s9.size : Int)) fun d2 =>
 ∀ c3, Adv [] [c1] w c3 →
 al c3 (.cells (Z4 x5 t6 d1 t8 d2) 101) fun c8 c4 =>
 ycZ pP (Builtin.append_ #[32, 32] 32 #[.slice a3 a8 a6, (.slice (some ⟨c8, 0, none⟩) 1 1)]) c4 fun c7 d0 c9 c5 => yaH [n0, n5, n6, c1] c4 c5 ∧
 ∀ c6, Adv [n6] [] c5 c6 →
 KS (yAS n0 i0 i1 i2 i3 a1 n1 n2 a2 n3 n4 n5 n6 i4 i5 i6 i7 I m) (ykN n0 i0 i1 i2 i3 a1 n1 n2 a2 n3 n4 n5 n6 i4 i5 i6 i7 ((IntKind.wrap .i64 (b7 + 1)), c7, d0, c9)) c6)
 (
 yaL ylN (yxD 393 [0, 0, 1, 0, 1, 1, 1, 1, 1]) (yxE [1, 1, 1, 1, 1, 0, 1, 0] [] R) (yiR n0 i0 i1 i2 i3 a1 n1 n2 a2 n3 n4 n5 n6 i4 i5 i6 i7 a3 a8 a6 (0, none, 0, 0)) w))
 (
 yaL ylN (yxD 393 [0, 0, 1, 0, 1, 1, 1, 1, 1]) (yxE [1, 1, 1, 1, 1, 0, 1, 0] [] R) (yiR n0 i0 i1 i2 i3 a1 n1 n2 a2 n3 n4 n5 n6 i4 i5 i6 i7 a3 a8 a6 (0, none, 0, 0)) w)) :
 yaL ypI (yxD 394 [0, 0, 1, 0, 1, 1, 1, 1]) (yxE [1, 1, 1, 1, 0, 1, 0] [] R) (ykN n0 i0 i1 i2 i3 a1 n1 n2 a2 n3 n4 n5 n6 i4 i5 i6 i7 (i8, b8, n7, n8)) w0 :=
 lrule (ykN n0 i0 i1 i2 i3 a1 n1 n2 a2 n3 n4 n5 n6 i4 i5 i6 i7) (U4 I) h0 (by rintro m ⟨b7, a3, a8, a6⟩ w h; exact ⟨by kernel_rfl, by kernel_rfl, fun js => Eq.mpr (by kernel_rfl) (hr m b7 a3 a8 a6 w h)⟩)
abbrev yAT (bm0 : Nat) (a9 b0 b1 b2 : Int) (a0 : OA) (a6 a3 : Nat) (a1 : OA) (a7 a4 bm1 bm2 : Nat) (b3 b4 b5 b6 : Int) (a2 : OA) (a8 a5 : Nat) (I : Nat → Int → Option Addr → Nat → Nat → World → Prop) (m : Nat) : Kh := KG (yiR bm0 a9 b0 b1 b2 a0 a6 a3 a1 a7 a4 bm1 bm2 b3 b4 b5 b6 a2 a8 a5) (U4 I) m
theorem ym9 {I : Nat → Int → Option Addr → Nat → Nat → World → Prop} (m' : Nat) (h1 : m' < m) (h2 : I m' i8 q3 n9 o0 w) : KS (yAT n0 i0 i1 i2 i3 q0 n1 n2 q1 n3 n4 n5 n6 i4 i5 i6 i7 q2 n7 n8 I m) (yiR n0 i0 i1 i2 i3 q0 n1 n2 q1 n3 n4 n5 n6 i4 i5 i6 i7 q2 n7 n8 (i8, q3, n9, o0)) w := ⟨m', h1, _, rfl, rfl, h2⟩
theorem ynA (I : Nat → Int → Option Addr → Nat → Nat → World → Prop) (m0 : Nat) (h0 : I m0 i8 q3 n9 o0 w0)
 (hr : ∀ m c0 a1 a6 a3 w, I m c0 a1 a6 a3 w →
 brB (decide (c0 < (n3 : Int))) (
 brB (decide (c0 < 70)) (
 ixA q1 n3 c0 2 fun c7 =>
 yaY w c7 fun c5 => yaD .i64 w (Addr.add c7 1) fun d9 =>
 ∀ c4, w.heap.size ≤ c4 →
 slS c5 0 (if 40 < (c5.size : Int) then 40 else (c5.size : Int)) fun d8 =>
 ∀ c8, Adv [] [c4] w c8 →
 al c8 (.cells #[.string d8, .int .i64 d9] 42) fun d5 c9 =>
 ycZ pP (Builtin.append_ #[33, 33] 33 #[.slice a1 a6 a3, (.slice (some ⟨d5, 0, none⟩) 1 1)]) c9 fun d4 d7 d6 d0 => yaH [n0, n5, n6, c4] c9 d0 ∧
 ∀ d1, Adv [n6] [] d0 d1 →
 KS (yAT n0 i0 i1 i2 i3 q0 n1 n2 q1 n3 n4 n5 n6 i4 i5 i6 i7 q2 n7 n8 I m) (yiR n0 i0 i1 i2 i3 q0 n1 n2 q1 n3 n4 n5 n6 i4 i5 i6 i7 q2 n7 n8 ((IntKind.wrap .i64 (c0 + 1)), d4, d7, d6)) d1)
 (
 ∀ d2, Adv [n5] [] w d2 →
 R (.agg (Z3 i4 i5 i6 i7 q2 n7 n8 a1 a6 a3)) d2))
 (
 ∀ d3, Adv [n5] [] w d3 →
 R (.agg (Z3 i4 i5 i6 i7 q2 n7 n8 a1 a6 a3)) d3)) :
 yaL ylN (yxD 393 [0, 0, 1, 0, 1, 1, 1, 1, 1]) (yxE [1, 1, 1, 1, 1, 0, 1, 0] [] R) (yiR n0 i0 i1 i2 i3 q0 n1 n2 q1 n3 n4 n5 n6 i4 i5 i6 i7 q2 n7 n8 (i8, q3, n9, o0)) w0 :=
 lrule (yiR n0 i0 i1 i2 i3 q0 n1 n2 q1 n3 n4 n5 n6 i4 i5 i6 i7 q2 n7 n8) (U4 I) h0 (by rintro m ⟨c0, a1, a6, a3⟩ w h; exact ⟨by kernel_rfl, by kernel_rfl, fun js => Eq.mpr (by kernel_rfl) (hr m c0 a1 a6 a3 w h)⟩)
theorem yFb (h :
 ∀ b1, w.heap.size ≤ b1 →
 ∀ b2, w.heap.size ≤ b2 →
 ∀ b3, w.heap.size ≤ b3 →
 ∀ b0, Adv [] [b3, b2, b1] w b0 →
 yaL ypI (yxD 394 [0, 0, 1, 0, 1, 1, 1, 1]) (yxE [1, 1, 1, 1, 0, 1, 0] [] R) (ykN b1 i0 i1 i2 i3 q0 n0 n1 q1 n2 n3 b2 b3 i0 i1 i2 i3 (0, none, 0, 0)) b0) :
 CR pP 34 #[(.agg (Z3 i0 i1 i2 i3 q0 n0 n1 q1 n2 n3))] w R :=
 yaA Tryz.wide_mixed (an := yrJ) Tryz.func34 rfl rfl (by kernel_rfl) rfl (Eq.mpr (by kernel_rfl) h)
end
def ynJ (n : Nat) (s : ByteArray) : ByteArray := s.extract 0 (min s.size n)
theorem ydM {s : ByteArray} {m : Int} {n : Nat} {F : ByteArray → Prop} (hm : m = (n : Nat)) (hF : F (ynJ n s)) : slS s 0 (if m < (s.size : Int) then m else (s.size : Int)) F := by
 subst hm
 refine ⟨by omega, by split <;> omega, by split <;> omega, ?_⟩
 have e : (if (n : Int) < (s.size : Int) then (n : Int) else (s.size : Int)).toNat = min s.size n := by split <;> omega
 rw [e]; exact hF
theorem ydY {α β : Type} {f : α → β} {l : List α} {k : Nat} {x : α} (hx : l[k]? = some x) : (l.take (k + 1)).map f = (l.take k).map f ++ [f x] := by
 rw [List.take_add_one, hx]; simp
theorem ydB {α : Type} {l : List α} {k : Nat} (n : Nat) (hk : k ≤ n) (h : ¬ (k < l.length ∧ k < n)) (hk2 : k ≤ l.length) : l.take k = l.take n := by
 by_cases h1 : k = n
 ·rw [h1]
 ·rw [List.take_of_length_le (by omega), List.take_of_length_le (by omega)]
def yFc (r : PRec) : PRec := ⟨r.hk, ynJ 80 r.key, r.tomb, ynJ 600 r.val⟩
def ytA (b : PBatch) : PBatch := ⟨b.prod, b.epoch, b.seq, (b.recs.take 20).map yFc⟩
def yAU (o : POp) : POp := ⟨o.kind, ⟨ynJ 40 o.part.t, o.part.n⟩, o.n, o.off, ytA o.b, ynJ 40 o.g, ynJ 40 o.m, o.gen, o.robin, (o.topics.take 12).map (ynJ 40)⟩
def yF2 (c : PCall) : PCall := ⟨c.c, c.n, yAU c.op⟩
def yzP (xs : List PCall) : List PCall := (xs.take 12).map yF2
def yFu (x : PFound) : PFound := ⟨x.off, ⟨x.r.hk, ynJ 80 x.r.key, x.r.tomb, ynJ 600 x.r.val⟩⟩
def yBO (x : PPart) : PPart := ⟨ynJ 40 x.t, x.n⟩
def ydC (r : PRep) : PRep := ⟨r.e, r.off, r.n, r.gen, (r.found.take 70).map yFu, (r.parts.take 70).map yBO⟩
theorem yzQ (r : PRec) (w : World) : Calls pP 110 #[r.v] w fun e w' => e = .returned (yFc r).v ∧ Mod [] w w' := by
 refine yaS (yEL ?_)
 intro b1 f1 b2 f2
 refine ydM (n := 80) rfl (ydM (n := 600) rfl ?_)
 intro w3 A3
 exact ⟨rfl, A3.mod⟩
theorem yxH {w : World} {b : PBatch} {rs : Sl} (h : yb2 w 4 ye5 rs.a rs.n b.recs) (hw : rs.n ≤ maxLen) :
  Calls pP 74 #[b.v rs] w fun e w' => ∃ v, e = .returned v ∧ ∃ rs' : Sl, v = (ytA b).v rs' ∧ Row w' w.heap.size 99 4 ye5 rs'.a rs'.n rs'.c (ytA b).recs ∧ Mod [] w w' := by
 refine yEO ?_
 intro b1 f1 b2 f2 b3 f3 w1 A1
 have l1 := A1.lt b1 (by simp)
 have l2 := A1.lt b2 (by simp)
 have l3 := A1.lt b3 (by simp)
 have s1 := A1.mod.size
 have hn := h.1
 refine ywQ (fun mm x a n c w' => ∃ k : Nat, x = k ∧ k ≤ b.recs.length ∧ k ≤ 20 ∧ Row w' w1.heap.size 99 4 ye5 a n c ((b.recs.take k).map yFc) ∧ Mod [] w w' ∧ w1.heap.size ≤ w'.heap.size ∧ mm = b.recs.length - k) b.recs.length
  ⟨0, rfl, by omega, by omega, Row.nil .., A1.mod, Nat.le_refl _, rfl⟩ ?_
 rintro mm x a n c w2 ⟨k, rfl, hk, hk2, hRow, N2, s2, rfl⟩
 have hlk : ((b.recs.take k).map yFc).length = k := by rw [List.length_map, List.length_take]; omega
 have fin : ∀ {w'}, ¬ (k < b.recs.length ∧ k < 20) → Adv [b2] [] w2 w' → ∃ rs' : Sl, Value.agg #[.int .i64 b.prod, .int .i64 b.epoch, .int .i64 b.seq, .slice a n c] = (ytA b).v rs' ∧ Row w' w.heap.size 99 4 ye5 rs'.a rs'.n rs'.c (ytA b).recs ∧ Mod [] w w' := fun {w'} hne A => by
  rw [ydB 20 hk2 hne hk] at hRow
  exact ⟨⟨a, n, c⟩, rfl, (hRow.keep A.mod fun ad ha hk => by have := hRow.base ad ha; simp at hk; omega).rebase s1, N2.go0 A.mod (by simpa using f2)⟩
 refine yaC (fun hlt => ?_) fun hge => fun w3 A3 => fin (by omega) A3
 refine yaC (fun hlt2 => ?_) fun hge => fun w3 A3 => fin (by omega) A3
 obtain ⟨r, hr⟩ : ∃ r, b.recs[k]? = some r := ⟨_, List.getElem?_eq_getElem (by omega)⟩
 refine (h.keep0 N2).ixW hr fun q hq => ?_
 intro w3 A3
 have hq := hq w3 A3.mod
 refine yaP (x := r.hk) (by simpa [add_zero] using hq 0 _ rfl) (yaI (hq 1 _ rfl) (yaP (hq 2 _ rfl) (yaI (hq 3 _ rfl) ?_)))
 refine (yzQ r w3).mono ?_
 rintro e w4 ⟨rfl, M4⟩
 refine ⟨_, _, _, _, rfl, yaH.of0 M4, rfl, ?_⟩
 refine ycS fun b5 w5 c5 M5 f5 => ?_
 have K5 : Mod [] w2 w5 := (A3.mod.go0 M4 (by simp)).go0 M5 (by simp)
 have s5 := K5.size
 obtain ⟨i0, hi, hz0, hz1, hz2⟩ := info_parts yD4
 refine ybK (x := yFc r) (hRow.keep0 K5) Tryz.underlying43 hi hz0 hz1 hz2 rfl (by decide) c5 rfl (yqD _) (by omega) (by unfold maxLen; omega) (by omega) fun a' c' w6 hR6 hM6 => ?_
 have M6 := hM6 _ (yb3 a)
 have hrow := yaT hRow
 refine ⟨yaH.of M6 fun b hb _ hb' => ?_, ?_⟩
 ·have := hrow b hb'; simp at hb; omega
 intro w7 A7
 unfold maxLen at hw
 refine ywP (b.recs.length - (k + 1)) (by omega) ⟨k + 1, by rw [yaF (by omega) (by omega)]; omega, by omega, by omega, Row.keep (by rw [ydY hr]; exact hR6) A7.mod fun ad ha hk => ?_, ?_, by have := M6.size; have := A7.mod.size; omega, rfl⟩
 ·have := hR6.base ad ha; simp at hk; omega
 ·refine ((N2.go0 K5 (by simp)).go0 M6 fun i hi => ?_).go0 A7.mod (by simpa using f3)
  have := hrow i hi; omega
theorem yBP {w : World} {o : POp} {rs ts : Sl} (h : OpRd w o rs ts) :
  Calls pP 48 #[o.v rs ts] w fun e w' => ∃ v, e = .returned v ∧ ∃ rs' ts' : Sl, v = (yAU o).v rs' ts' ∧ OpOwn w' w.heap.size (yAU o) rs' ts' ∧ Mod [] w w' := by
 refine yER ?_
 intro b1 f1 b2 f2 b3 f3
 refine ydM (n := 40) rfl (ydM (n := 40) rfl (ydM (n := 40) rfl ?_))
 intro w1 A1
 have l1 := A1.lt b1 (by simp)
 have l2 := A1.lt b2 (by simp)
 have l3 := A1.lt b3 (by simp)
 have s1 := A1.mod.size
 have hn := h.topics.1
 have hw := h.wt
 unfold maxLen at hw
 refine (yxH (b := o.b) (rs := rs) (h.recs.keep0 A1.mod) h.wr).mono ?_
 rintro e w2 ⟨_, rfl, rs', rfl, hB, M2⟩
 have s2 := M2.size
 refine ⟨_, _, _, _, _, _, rfl, yaH.of0 M2, ?_⟩
 intro w3 A3
 have s3 := A3.mod.size
 have hB3 : Row w3 w1.heap.size 99 4 ye5 rs'.a rs'.n rs'.c (ytA o.b).recs := hB.keep A3.mod fun ad ha hk => by have := hB.base ad ha; simp at hk; omega
 have N3 := (A1.mod.go0 M2 (by simp)).go0 A3.mod (by simpa using f3)
 refine ywS (fun mm x a n c w' => ∃ k : Nat, x = k ∧ k ≤ o.topics.length ∧ k ≤ 12 ∧ Row w' w1.heap.size 9 1 yi3 a n c ((o.topics.take k).map (ynJ 40)) ∧ Row w' w1.heap.size 99 4 ye5 rs'.a rs'.n rs'.c (ytA o.b).recs ∧ Mod [] w w' ∧ w1.heap.size ≤ w'.heap.size ∧ mm = o.topics.length - k) o.topics.length
  ⟨0, rfl, by omega, by omega, Row.nil .., hB3, N3, by omega, rfl⟩ ?_
 rintro mm x a n c w4 ⟨k, rfl, hk, hk2, hRow, hB4, N4, s4, rfl⟩
 have hlk : ((o.topics.take k).map (ynJ 40)).length = k := by rw [List.length_map, List.length_take]; omega
 have fin : ∀ {w'}, ¬ (k < o.topics.length ∧ k < 12) → Adv [b2] [] w4 w' → ∃ rs'' ts' : Sl, Value.agg #[.int .i64 o.kind, .string (ynJ 40 o.part.t), .int .i64 o.part.n, .int .i64 o.n, .int .i64 o.off, .int .i64 (ytA o.b).prod, .int .i64 (ytA o.b).epoch, .int .i64 (ytA o.b).seq, .slice rs'.a rs'.n rs'.c, .string (ynJ 40 o.g), .string (ynJ 40 o.m), .int .i64 o.gen, .bool o.robin, .slice a n c] = (yAU o).v rs'' ts' ∧ OpOwn w' w.heap.size (yAU o) rs'' ts' ∧ Mod [] w w' := fun {w'} hne A => by
  rw [ydB 12 hk2 hne hk] at hRow
  exact ⟨rs', ⟨a, n, c⟩, rfl, ⟨(hB4.keep A.mod fun ad ha hk => by have := hB4.base ad ha; simp at hk; omega).rebase s1, (hRow.keep A.mod fun ad ha hk => by have := hRow.base ad ha; simp at hk; omega).rebase s1, by simp [yAU, ytA]; omega, by simp [yAU]; omega⟩, N4.go0 A.mod (by simpa using f2)⟩
 refine yaC (fun hlt => ?_) fun hge => fun w5 A5 => fin (by omega) A5
 refine yaC (fun hlt2 => ?_) fun hge => fun w5 A5 => fin (by omega) A5
 obtain ⟨t, ht⟩ : ∃ t, o.topics[k]? = some t := ⟨_, List.getElem?_eq_getElem (by omega)⟩
 refine (h.topics.keep0 N4).ixW ht fun q hq => ?_
 intro w5 A5
 refine yaI (x := t) (by simpa [add_zero] using hq w5 A5.mod 0 _ rfl) ?_
 refine (h.topics.keep0 N4).ixW ht fun q hq => ?_
 refine yaI (x := t) (by simpa [add_zero] using hq w5 A5.mod 0 _ rfl) ?_
 refine ydM (n := 40) rfl ?_
 refine ycS fun b6 w6 c6 M6 f6 => ?_
 have K6 : Mod [] w4 w6 := A5.mod.go0 M6 (by simp)
 have s6 := K6.size
 obtain ⟨i0, hi, hz0, hz1, hz2⟩ := info_parts yD5
 refine ybK (enc := yi3) (x := ynJ 40 t) (hRow.keep0 K6) Tryz.underlying46 hi hz0 hz1 hz2 rfl (by decide) c6 rfl (yqE _) (by omega) (by unfold maxLen; omega) (by omega) fun a' c' w7 hR7 hM7 => ?_
 have M7 := hM7 _ (yb3 a)
 have s7 := M7.size
 have hrow := yaT hRow
 refine ⟨yaH.of M7 fun b hb _ hb' => ?_, ?_⟩
 ·have := hrow b hb'; simp at hb; omega
 intro w8 A8
 have s8 := A8.mod.size
 have hB7 : Row w7 w1.heap.size 99 4 ye5 rs'.a rs'.n rs'.c (ytA o.b).recs := (hB4.keep0 K6).keep M7 fun ad ha hk => by
  obtain ⟨_, cur, hc⟩ := hB4.block ad ha
  obtain ⟨_, _, cur2, hc2⟩ := hrow _ hk
  rw [hc2] at hc; cases hc
 refine ywR (o.topics.length - (k + 1)) (by omega) ⟨k + 1, by rw [yaF (by omega) (by omega)]; omega, by omega, by omega, Row.keep (by rw [ydY ht]; exact hR7) A8.mod fun ad ha hk => ?_, hB7.keep A8.mod fun ad ha hk => ?_, ?_, by omega, rfl⟩
 ·have := hR7.base ad ha; simp at hk; omega
 ·have := hB7.base ad ha; simp at hk; omega
 ·refine ((N4.go0 K6 (by simp)).go0 M7 fun i hi => ?_).go0 A8.mod (by simpa using f3)
  have := hrow i hi; omega
theorem yzR {w : World} {a : Option Addr} {n c : Nat} {ll : List CV} (h : yb2 w 16 CV.cs a n ll) (hO : ∀ q ∈ ll, OpRd w q.x.op q.rs q.ts) (hw : n ≤ maxLen) :
  Calls pP 33 #[.slice a n c] w fun e w' => ∃ v, e = .returned v ∧ ∃ s' : Sl, v = .slice s'.a s'.n s'.c ∧ ya7 w' w.heap.size s' (yzP (ll.map (·.x))) ∧ Mod [] w w' := by
 have hn := h.1
 unfold maxLen at hw
 refine yEU ?_
 refine ycS fun b1 w1 c1 M1 f1 => ?_
 have s1 := M1.size
 refine ywU (fun mm a3 n3 c3 x w' => ∃ (k : Nat) (l : List CV), x = k ∧ k ≤ ll.length ∧ k ≤ 12 ∧ l.map (·.x) = ((ll.map (·.x)).take k).map yF2 ∧ Row w' w.heap.size 50 16 CV.cs a3 n3 c3 l ∧ (∀ q ∈ l, OpOwn w' w.heap.size q.x.op q.rs q.ts) ∧ Mod [] w w' ∧ mm = ll.length - k) ll.length
  ⟨0, [], rfl, by omega, by omega, by simp, Row.fresh c1 f1, by simp, M1, rfl⟩ ?_
 rintro mm a3 n3 c3 x w2 ⟨k, l, rfl, hk, hk2, hlx, hRow, hOw, M2, rfl⟩
 have hlk : l.length = k := by have := congrArg List.length hlx; simp at this; omega
 have fin : ¬ (k < (ll.map (·.x)).length ∧ k < 12) → ∃ s' : Sl, Value.slice a3 n3 c3 = .slice s'.a s'.n s'.c ∧ ya7 w2 w.heap.size s' (yzP (ll.map (·.x))) ∧ Mod [] w w2 := fun hne => ⟨⟨a3, n3, c3⟩, rfl, ⟨l, hRow, hOw, by rw [hlx, yzP, ydB 12 hk2 hne (by simpa using hk)]⟩, M2⟩
 have s2 := M2.size
 refine yaC (fun hlt => ?_) fun hge => fin (by simp; omega)
 refine yaC (fun hlt2 => ?_) fun hge => fin (by simp; omega)
 obtain ⟨q, hq⟩ : ∃ q, ll[k]? = some q := ⟨_, List.getElem?_eq_getElem (by omega)⟩
 refine (h.keep0 M2).ixW hq fun ad had => ?_
 intro w3 A3
 have s3 := A3.mod.size
 have N3 := M2.go0 A3.mod (by simp)
 refine yaE (x := q.x.c) (by simpa [add_zero] using had w3 A3.mod 0 _ rfl) ?_
 refine (h.keep0 N3).ixW hq fun ad2 had2 => yaE (x := q.x.n) (had2 w3 (Mod.refl _) 1 _ rfl) ?_
 refine (h.keep0 N3).ixW hq fun ad3 had3 => ?_
 have hc := had3 w3 (Mod.refl _)
 refine yo7 (ylJ hc) ?_
 refine (yBP ((hO q (List.mem_of_getElem? hq)).keep0 N3)).mono ?_
 rintro _ w4 ⟨_, rfl, rs', ts', rfl, hO', M4⟩
 have s4 := M4.size
 refine ⟨_, _, _, _, _, _, _, _, _, _, _, _, _, _, _, _, _, _, rfl, ?_, ?_, ?_⟩
 ·exact yaE (x := q.x.n) (had2 w4 M4 1 _ rfl) rfl
 ·exact yaE (x := q.x.c) (by simpa [add_zero] using had w4 (A3.mod.go0 M4 (by simp)) 0 _ rfl) rfl
 refine ycS fun b7 w7 c7 M7 f7 => ?_
 have s7 := M7.size
 have K7 : Mod [] w2 w7 := (A3.mod.go0 M4 (by simp)).go0 M7 (by simp)
 obtain ⟨i0, hi, hz0, hz1, hz2⟩ := info_parts yqT
 refine ybK (x := (⟨⟨q.x.c, q.x.n, yAU q.x.op⟩, rs', ts'⟩ : CV)) (hRow.keep0 K7) Tryz.underlying31 hi hz0 hz1 hz2 rfl (by decide) c7 rfl (CV.cs_one _) (by omega) (by unfold maxLen; omega) (by omega) fun a' c' w8 hR8 hM8 => ?_
 have M8 := hM8 _ (yb3 a3)
 have hrow := yaT hRow
 have kp : ∀ {o rs ts}, OpOwn w7 w.heap.size o rs ts → OpOwn w8 w.heap.size o rs ts := fun hh => hh.keep M8 fun k hk cs T hc => by
  obtain ⟨_, _, cur, hcur⟩ := hrow k hk
  rw [K7.keep0 hcur] at hc; cases hc; decide
 refine ywT (ll.length - (k + 1)) (by omega) ⟨k + 1, _, by rw [yaF (by omega) (by omega)]; omega, by omega, by omega, by rw [ydY (show (ll.map (·.x))[k]? = some q.x by rw [List.getElem?_map, hq]; rfl), List.map_append, hlx]; rfl, hR8, fun y hy => ?_, (M2.go0 K7 (by simp)).go0 M8 fun i hi => (hrow i hi).1, rfl⟩
 rcases List.mem_append.1 hy with hy | hy
 ·exact kp ((hOw y hy).keep0 K7)
 ·simp at hy; subst hy; exact kp ((hO'.keep0 M7).rebase (by omega))
set_option maxHeartbeats 1000000 in
theorem ynB {w : World} {r : PRep} {f p : Sl} (h : RepRd w r f p) :
  Calls pP 34 #[r.v f p] w fun e w' => ∃ v, e = .returned v ∧ ∃ f' p' : Sl, v = (ydC r).v f' p' ∧ RepOwn w' w.heap.size (ydC r) f' p' ∧ Mod [] w w' := by
 refine yFb ?_
 intro b1 f1 b2 f2 b3 f3 w1 A1
 have l1 : ∀ b ∈ [b3, b2, b1], b < w1.heap.size := A1.lt
 have l3 := l1 b3 (by simp)
 have l2 := l1 b2 (by simp)
 have l1 := l1 b1 (by simp)
 have s1 := A1.mod.size
 refine yxG (fun mm x a n c w' => ∃ k : Nat, x = k ∧ k ≤ 70 ∧ k ≤ r.found.length ∧ Row w' w1.heap.size 101 5 yi0 a n c ((r.found.take k).map yFu) ∧ Mod [] w w' ∧ w1.heap.size ≤ w'.heap.size ∧ mm = 70 - k) 70 ⟨0, rfl, by omega, by omega, Row.nil .., A1.mod, Nat.le_refl _, rfl⟩ ?_
 rintro mm x a1 n1 c1 w2 ⟨k, rfl, hk, hkf, hR, M2, hs2, rfl⟩
 have hl1 : ((r.found.take k).map yFu).length = k := by rw [List.length_map, List.length_take]; omega
 have e4 := h.found.1
 have e5 := h.parts.1
 refine yaC (fun hlt => ?_) fun hge => ?_
 ·refine yaC (fun hlt4 => ?_) fun hge => ?_
  ·obtain ⟨y, hy⟩ : ∃ y, r.found[k]? = some y := ⟨_, List.getElem?_eq_getElem (by have := h.found.1; omega)⟩
   have hym := h.sf y (List.mem_of_getElem? hy)
   unfold maxLen at hym
   refine (h.keep0 M2).found.ix hy fun q hq => yaE (x := y.off) (by simpa [add_zero] using hq 0 _ rfl) (yaP (hq 1 _ rfl) (yaI (hq 2 _ rfl) (yaP (hq 3 _ rfl) (yaI (hq 4 _ rfl) ?_))))
   intro b6 f6
   refine ydM (n := 80) rfl (ydM (n := 600) rfl ?_)
   intro w6 A6
   have l6 := A6.lt b6 (by simp)
   have s6 := A6.mod.size
   refine ycS fun b7 w7 c7 M7 f7 => ?_
   have s7 := M7.size
   obtain ⟨i0, hi0, hz0, hz1, hz2⟩ := info_parts yCC
   refine ybK (x := yFu y) ((hR.keep0 A6.mod).keep0 M7) Tryz.underlying32 hi0 hz0 hz1 hz2 rfl (by decide) c7 rfl (yp0 _) (by omega) (by unfold maxLen; omega) (by omega) fun a' c' w8 hR8 hM8 => ?_
   have M8 := hM8 _ (yb3 a1)
   have hrow : ∀ k ∈ yeL a1, w1.heap.size ≤ k ∧ k < w2.heap.size := by
    cases a1 with
    | none => simp [yeL]
    | some ad => intro k hk; simp [yeL] at hk; subst hk; obtain ⟨h1, cur, h2⟩ := hR.block ad rfl; exact ⟨h1, yaJ h2⟩
   refine ⟨yaH.of M8 fun b hb _ hb' => ?_, ?_⟩
   ·have := hrow b hb'; simp at hb; omega
   intro w9 A9
   have N7 : Mod [] w2 w7 := A6.mod.go0 M7 (by simp)
   have N8 : Mod [] w w8 := (M2.go0 N7 (by simp)).go0 M8 fun i hi => by have := hrow i hi; omega
   have s8 := M8.size
   have s9 := A9.mod.size
   refine yxF (70 - (k + 1)) (by omega) ⟨k + 1, by rw [yaF (by omega) (by omega)]; omega, by omega, by have := (List.getElem?_eq_some_iff.1 hy).1; omega, Row.keep (by rw [ydY hy]; exact hR8) A9.mod fun ad ha hk' => ?_, N8.go0 A9.mod (by simp; omega), by omega, rfl⟩
   have := hR8.base ad ha; simp at hk'; omega
  ·have hRf : Row w2 w1.heap.size 101 5 yi0 a1 n1 c1 (ydC r).found := by
    have := ydB (l := r.found) 70 hk (by omega) hkf
    rw [this] at hR; exact hR
   clear hR
   refine ynA (fun mm x a n c w' => ∃ k : Nat, x = k ∧ k ≤ 70 ∧ k ≤ r.parts.length ∧ Row w' w1.heap.size 42 2 yk6 a n c ((r.parts.take k).map yBO) ∧ Row w' w1.heap.size 101 5 yi0 a1 n1 c1 (ydC r).found ∧ Mod [] w w' ∧ w1.heap.size ≤ w'.heap.size ∧ mm = 70 - k) 70 ⟨0, rfl, by omega, by omega, Row.nil .., hRf, M2, hs2, rfl⟩ ?_
   rintro mm x a n c w3 ⟨k, rfl, hk, hkp, hP, hR, M3, hs3, rfl⟩
   have hl : ((r.parts.take k).map yBO).length = k := by rw [List.length_map, List.length_take]; omega
   have fin : ¬ (k < r.parts.length ∧ k < 70) → ∀ w4, Adv [b2] [] w3 w4 → ∃ f' p' : Sl, Value.agg #[.int .i64 r.e, .int .i64 r.off, .int .i64 r.n, .int .i64 r.gen, .slice a1 n1 c1, .slice a n c] = (ydC r).v f' p' ∧ RepOwn w4 w.heap.size (ydC r) f' p' ∧ Mod [] w w4 := fun hne w4 A4 => by
    rw [ydB 70 hk hne hkp] at hP
    refine ⟨⟨a1, n1, c1⟩, ⟨a, n, c⟩, rfl, ⟨?_, ?_, by simp [ydC]; omega, by simp [ydC]; omega⟩, M3.go0 A4.mod (by simp; omega)⟩
    ·refine (hR.keep A4.mod fun ad ha hk' => ?_).rebase (by omega)
     have := hR.base ad ha; simp at hk'; omega
    ·refine (hP.keep A4.mod fun ad ha hk' => ?_).rebase (by omega)
     have := hP.base ad ha; simp at hk'; omega
   refine yaC (fun hlt => ?_) fun hge => fin (by omega)
   refine yaC (fun hlt4 => ?_) fun hge => fin (by omega)
   obtain ⟨y, hy⟩ : ∃ y, r.parts[k]? = some y := ⟨_, List.getElem?_eq_getElem (by have := h.parts.1; omega)⟩
   have hym := h.sp y (List.mem_of_getElem? hy)
   unfold maxLen at hym
   refine (h.keep0 M3).parts.ix hy fun q hq => yaI (x := y.t) (by simpa [add_zero] using hq 0 _ rfl) (yaE (hq 1 _ rfl) ?_)
   intro b6 f6
   refine ydM (n := 40) rfl ?_
   intro w6 A6
   have l6 := A6.lt b6 (by simp)
   have s6 := A6.mod.size
   refine ycS fun b7 w7 c7 M7 f7 => ?_
   have s7 := M7.size
   obtain ⟨i0, hi0, hz0, hz1, hz2⟩ := info_parts yBe
   refine ybK (x := yBO y) ((hP.keep0 A6.mod).keep0 M7) Tryz.underlying33 hi0 hz0 hz1 hz2 rfl (by decide) c7 rfl (yk9 _) (by omega) (by unfold maxLen; omega) (by omega) fun a' c' w8 hR8 hM8 => ?_
   have M8 := hM8 _ (yb3 a)
   have hrow : ∀ k ∈ yeL a, w1.heap.size ≤ k ∧ k < w3.heap.size ∧ ∃ cur, w3.heap[k]? = some (.cells cur 42) := by
    cases a with
    | none => simp [yeL]
    | some ad => intro k hk; simp [yeL] at hk; subst hk; obtain ⟨h1, cur, h2⟩ := hP.block ad rfl; exact ⟨h1, yaJ h2, cur, h2⟩
   refine ⟨yaH.of M8 fun b hb _ hb' => ?_, ?_⟩
   ·have := hrow b hb'; simp at hb; omega
   intro w9 A9
   have N7 : Mod [] w3 w7 := A6.mod.go0 M7 (by simp)
   have N8 : Mod [] w w8 := (M3.go0 N7 (by simp)).go0 M8 fun i hi => by have := hrow i hi; omega
   have s8 := M8.size
   have s9 := A9.mod.size
   refine ym9 (70 - (k + 1)) (by omega) ⟨k + 1, by rw [yaF (by omega) (by omega)]; omega, by omega, by have := (List.getElem?_eq_some_iff.1 hy).1; omega, Row.keep (by rw [ydY hy]; exact hR8) A9.mod fun ad ha hk' => ?_, ?_, N8.go0 A9.mod (by simp; omega), by omega, rfl⟩
   ·have := hR8.base ad ha; simp at hk'; omega
   ·have h7 := hR.keep0 N7
    refine (h7.keep M8 fun ad ha hk' => ?_).keep A9.mod fun ad ha hk' => ?_
    ·obtain ⟨_, _, cur, hc⟩ := hrow _ hk'
     obtain ⟨_, cur', hc'⟩ := hR.block ad ha
     rw [hc] at hc'; cases hc'
    ·have := hR.base ad ha; simp at hk'; omega
 ·have hRf : Row w2 w1.heap.size 101 5 yi0 a1 n1 c1 (ydC r).found := by
   have := ydB (l := r.found) 70 hk (by omega) hkf
   rw [this] at hR; exact hR
  clear hR
  refine ynA (fun mm x a n c w' => ∃ k : Nat, x = k ∧ k ≤ 70 ∧ k ≤ r.parts.length ∧ Row w' w1.heap.size 42 2 yk6 a n c ((r.parts.take k).map yBO) ∧ Row w' w1.heap.size 101 5 yi0 a1 n1 c1 (ydC r).found ∧ Mod [] w w' ∧ w1.heap.size ≤ w'.heap.size ∧ mm = 70 - k) 70 ⟨0, rfl, by omega, by omega, Row.nil .., hRf, M2, hs2, rfl⟩ ?_
  rintro mm x a n c w3 ⟨k, rfl, hk, hkp, hP, hR, M3, hs3, rfl⟩
  have hl : ((r.parts.take k).map yBO).length = k := by rw [List.length_map, List.length_take]; omega
  have fin : ¬ (k < r.parts.length ∧ k < 70) → ∀ w4, Adv [b2] [] w3 w4 → ∃ f' p' : Sl, Value.agg #[.int .i64 r.e, .int .i64 r.off, .int .i64 r.n, .int .i64 r.gen, .slice a1 n1 c1, .slice a n c] = (ydC r).v f' p' ∧ RepOwn w4 w.heap.size (ydC r) f' p' ∧ Mod [] w w4 := fun hne w4 A4 => by
   rw [ydB 70 hk hne hkp] at hP
   refine ⟨⟨a1, n1, c1⟩, ⟨a, n, c⟩, rfl, ⟨?_, ?_, by simp [ydC]; omega, by simp [ydC]; omega⟩, M3.go0 A4.mod (by simp; omega)⟩
   ·refine (hR.keep A4.mod fun ad ha hk' => ?_).rebase (by omega)
    have := hR.base ad ha; simp at hk'; omega
   ·refine (hP.keep A4.mod fun ad ha hk' => ?_).rebase (by omega)
    have := hP.base ad ha; simp at hk'; omega
  refine yaC (fun hlt => ?_) fun hge => fin (by omega)
  refine yaC (fun hlt4 => ?_) fun hge => fin (by omega)
  obtain ⟨y, hy⟩ : ∃ y, r.parts[k]? = some y := ⟨_, List.getElem?_eq_getElem (by have := h.parts.1; omega)⟩
  have hym := h.sp y (List.mem_of_getElem? hy)
  unfold maxLen at hym
  refine (h.keep0 M3).parts.ix hy fun q hq => yaI (x := y.t) (by simpa [add_zero] using hq 0 _ rfl) (yaE (hq 1 _ rfl) ?_)
  intro b6 f6
  refine ydM (n := 40) rfl ?_
  intro w6 A6
  have l6 := A6.lt b6 (by simp)
  have s6 := A6.mod.size
  refine ycS fun b7 w7 c7 M7 f7 => ?_
  have s7 := M7.size
  obtain ⟨i0, hi0, hz0, hz1, hz2⟩ := info_parts yBe
  refine ybK (x := yBO y) ((hP.keep0 A6.mod).keep0 M7) Tryz.underlying33 hi0 hz0 hz1 hz2 rfl (by decide) c7 rfl (yk9 _) (by omega) (by unfold maxLen; omega) (by omega) fun a' c' w8 hR8 hM8 => ?_
  have M8 := hM8 _ (yb3 a)
  have hrow : ∀ k ∈ yeL a, w1.heap.size ≤ k ∧ k < w3.heap.size ∧ ∃ cur, w3.heap[k]? = some (.cells cur 42) := by
   cases a with
   | none => simp [yeL]
   | some ad => intro k hk; simp [yeL] at hk; subst hk; obtain ⟨h1, cur, h2⟩ := hP.block ad rfl; exact ⟨h1, yaJ h2, cur, h2⟩
  refine ⟨yaH.of M8 fun b hb _ hb' => ?_, ?_⟩
  ·have := hrow b hb'; simp at hb; omega
  intro w9 A9
  have N7 : Mod [] w3 w7 := A6.mod.go0 M7 (by simp)
  have N8 : Mod [] w w8 := (M3.go0 N7 (by simp)).go0 M8 fun i hi => by have := hrow i hi; omega
  have s8 := M8.size
  have s9 := A9.mod.size
  refine ym9 (70 - (k + 1)) (by omega) ⟨k + 1, by rw [yaF (by omega) (by omega)]; omega, by omega, by have := (List.getElem?_eq_some_iff.1 hy).1; omega, Row.keep (by rw [ydY hy]; exact hR8) A9.mod fun ad ha hk' => ?_, ?_, N8.go0 A9.mod (by simp; omega), by omega, rfl⟩
  ·have := hR8.base ad ha; simp at hk'; omega
  ·have h7 := hR.keep0 N7
   refine (h7.keep M8 fun ad ha hk' => ?_).keep A9.mod fun ad ha hk' => ?_
   ·obtain ⟨_, _, cur, hc⟩ := hrow _ hk'
    obtain ⟨_, cur', hc'⟩ := hR.block ad ha
    rw [hc] at hc'; cases hc'
   ·have := hR.base ad ha; simp at hk'; omega
def ylO (m : PMail) : PMail := ⟨m.kind, m.fr, m.to, m.view, m.normal, m.last, m.commit, m.nonce, m.base, m.n, yzP m.calls, ydC m.r⟩
theorem MailRd.keep0 {w w' : World} {m : PMail} {s f p : Sl} (h : MailRd w m s f p) (M : Mod [] w w') : MailRd w' m s f p := by
 obtain ⟨⟨ll, h1, h2, h3⟩, h4, h5⟩ := h
 exact ⟨⟨ll, h1.keep0 M, fun q hq => (h2 q hq).keep0 M, h3⟩, h4, h5.keep0 M⟩
theorem yxI {w : World} {m : PMail} {s f p : Sl} (h : MailRd w m s f p) :
  Calls pP 11 #[m.v s f p] w fun e w' => ∃ v, e = .returned v ∧ ∃ s' f' p' : Sl, v = (ylO m).v s' f' p' ∧ MailOwn w' w.heap.size (ylO m) s' f' p' ∧ Mod [] w w' := by
 refine yEY ?_
 intro b1 f1 b2 f2 b3 f3 w4 A4
 have l1 := A4.lt b1 (by simp)
 have l2 := A4.lt b2 (by simp)
 have l3 := A4.lt b3 (by simp)
 have s4 := A4.mod.size
 obtain ⟨ll, h1, h2, h3⟩ := (h.keep0 A4.mod).calls
 refine (yzR h1 h2 h.ws).mono ?_
 rintro _ w5 ⟨_, rfl, s', rfl, hC, M5⟩
 rw [h3] at hC
 have s5 := M5.size
 refine ⟨_, _, _, rfl, yaH.of0 M5, ?_⟩
 intro w9 A9
 have s9 := A9.mod.size
 have N9 : Mod [] w w9 := (A4.mod.go0 M5 (by simp)).go0 A9.mod (by simpa using f3)
 refine (ynB (h.keep0 N9).rep).mono ?_
 rintro _ w10 ⟨_, rfl, f', p', rfl, hR, M10⟩
 have s10 := M10.size
 refine ⟨_, _, _, _, _, _, _, _, _, _, rfl, yaH.of0 M10, ?_⟩
 intro w21 A21
 refine ⟨s', f', p', rfl, ⟨((hC.keepB A9.mod (by simp; omega)).keep0 M10).keepB A21.mod (by simp; omega) |>.rebase s4, (hR.keepB A21.mod (by simp; omega)).rebase (by omega)⟩, (N9.go0 M10 (by simp)).go0 A21.mod (by simp; omega)⟩
theorem ysO {m : PMail} (hn : (yaX m).all num = true) (hk : 0 ≤ m.kind ∧ m.kind < 12) (hc : m.calls = []) (hr : m.r = ydW) : ybS m = 0 ∧ (ybR m).length ≤ 100000 := by
 have ht : ydA m.calls = 0 := by rw [hc]; decide
 have hre : yi2 m.r = 0 := by rw [hr]; decide
 have hE : yd8 m = 0 := by
  rw [yd8, if_neg (by omega), if_neg (by rw [hn]; decide), if_neg (by simpa using ht), hre]
 have l1 := yeP hn 10
 rw [List.take_of_length_le (by rw [yeO]; omega)] at l1
 have l2 : (ybP m.calls).length ≤ 10 := by
  rw [hc]
  have := (yaO 0 (by omega)).2
  simpa [ybP] using this
 have l3 : (ydO m.r).length ≤ 60000 := (RepGood.of hre).len3 m.r.parts.length
 have p2 := (ya4 (bs (ybP m.calls)) (by rw [yaK]; omega)).2
 have p3 := (ya4 (bs (ydO m.r)) (by rw [yaK]; omega)).2
 rw [yaK] at p2 p3
 have hl : (ybR m).length ≤ 100000 := by unfold ybR; rw [List.length_append, List.length_append]; omega
 exact ⟨by rw [ybS, if_neg (by simpa using hE), if_neg (by omega)], hl⟩
theorem ykO {m : PMail} (hl : (ybR m).length ≤ 1048576) : (ycN m).size ≤ (ybR m).length + 14 := by
 unfold ycN
 rw [yaK, ygI]
 have := (ya4 (bs (ybR m)) (by rw [yaK]; omega)).2
 rw [yaK] at this; omega
theorem yiS (w : World) (m : PMail) (hc : m.calls = []) (hr : m.r = ydW) : MailAt w m ybJ ybJ ybJ :=
 ⟨by rw [hc]; exact ⟨[], (Row.nil w 0 50 16 CV.cs).sl CV.cs_len, by simp, rfl⟩, by rw [hr]; exact ⟨(Row.nil w 0 101 5 yi0).sl ypX, (Row.nil w 0 42 2 yk6).sl ypY, by simp [ydW], by simp [ydW]⟩⟩
theorem ysP {x y : PMail} (hx : ybS x = 0) (hy : ybS y = 0) : ycN x = ycN y ↔ x = y := by
 refine ⟨fun h => ?_, fun h => by rw [h]⟩
 have hm := ywZ hx hy h
 exact ysN (s := bs (ybR x)) ⟨hx, ydL _⟩ ⟨hy, by rw [ydL, hm]⟩
theorem yxJ (m : PMail) : (ylO m).calls.length ≤ 12 := by
 show ((m.calls.take 12).map yF2).length ≤ 12
 rw [List.length_map, List.length_take]; omega
def yiU (x : Int) : List Value := [.int .i64 x]
theorem yzS (x : Int) : ∀ u ∈ yiU x, u.oneCell' = true := by simp [yiU, Value.oneCell']
theorem yBQ : (Tryz.prog.info? 3).map (fun i => (i.zero, i.size, i.bytes)) = some (some (.int .i64 0), 1, 8) := by kernel_rfl
theorem yBR {w : World} {B : Nat} {f : Sl} {l : List Int} {y : Int} {bs : List Nat} {F : Option Addr → Nat → Nat → World → Prop} (hR : Row w B 3 1 yiU f.a f.n f.c l) (hl : l.length ≤ 1000000) (hB : B ≤ w.heap.size) (hbs : ∀ b ∈ bs, b ∉ yeL f.a)
  (hF : ∀ a' c' w', Row w' B 3 1 yiU a' (f.n + 1) c' (l ++ [y]) → Mod (yeL f.a) w w' → F a' (f.n + 1) c' w') :
  al w (.cells (yiU y).toArray 3) fun b w1 => ycZ pP (Builtin.append_ #[27, 27] 27 #[.slice f.a f.n f.c, .slice (some ⟨b, 0, none⟩) 1 1]) w1 fun a n c w2 => yaH bs w1 w2 ∧ F a n c w2 := by
 refine ycS fun b w1 c1 M1 f1 => ?_
 have s1 := M1.size
 obtain ⟨i0, hi0, hz0, hz1, hz2⟩ := info_parts yBQ
 refine ybK (x := y) (hR.keep0 M1) Tryz.underlying27 hi0 hz0 hz1 hz2 rfl (by decide) c1 rfl (yzS _) (by omega) (by unfold maxLen; omega) (by omega) fun a' c' w8 hR8 hM8 => ?_
 have M8 := hM8 _ (yb3 f.a)
 refine ⟨yaH.of M8 fun b hb _ => hbs b hb, hF a' c' w8 hR8 ?_⟩
 exact (M1.trans M8).less fun k hk _ => by simpa using hk
section
set_option maxRecDepth 100000
variable {R : VWP} {w w0 : World} {m : Nat} {i0 i1 i2 i3 i4 i5 i6 i7 i8 i9 j0 j1 j2 j3 j4 j5 j6 j7 j8 j9 k0 k1 k2 k3 k4 k5 k6 k7 k8 k9 l0 l1 l2 l3 l4 l5 l6 l7 l8 l9 : Int} {s0 s1 s2 s3 s4 s5 s6 s7 s8 s9 t0 t1 t2 t3 t4 t5 t6 t7 t8 t9 : BA} {n0 n1 n2 n3 n4 n5 n6 n7 n8 n9 o0 o1 o2 o3 o4 o5 o6 o7 o8 o9 p0 p1 p2 p3 p4 p5 p6 p7 p8 p9 : Nat} {q0 q1 q2 q3 q4 q5 q6 q7 q8 q9 r0 r1 r2 r3 r4 r5 r6 r7 r8 r9 : OA} {B0 B1 B2 B3 B4 B5 B6 B7 B8 B9 : Bool} {M0 M1 M2 M3 : Option Nat} {V0 V1 V2 V3 V4 V5 : Value} {A0 A1 A2 : Addr}
theorem yFd (h :
 brB (decide (i0 < 1)) (
 R (.tuple #[.pointer none, .int .i64 1]) w)
 (
 brB (decide (i0 > 4096)) (
 R (.tuple #[.pointer none, .int .i64 1]) w)
 (
 al w (.map #[] 0) fun b1 w2 =>
 al w2 (.map #[] 0) fun b3 w4 =>
 ∀ b5, w4.heap.size ≤ b5 →
 ∀ w6, Adv [] [b5] w4 w6 → w6.heap[b5]? = some (.cells #[.int .i64 i0, .int .i64 0, (.map (some b1)), (.map (some b3))] 71) →
 R (.tuple #[(.pointer (some ⟨b5, 0, none⟩)), .int .i64 0]) w6))) :
 CR pP 8 #[.int .i64 i0] w R :=
 yaA Tryz.wide_mixed (an := []) Tryz.func8 rfl rfl (by kernel_rfl) rfl (Eq.mpr (by kernel_rfl) h)
theorem yFe (h :
 ∀ b1, w.heap.size ≤ b1 →
 ∀ w2, Adv [] [b1] w w2 →
 R (.agg #[(.int .i64 (if i1 < i0 then i1 else i0)), (.int .i64 (if i1 > i0 then i1 else i0))]) w2) :
 CR pP 40 #[.int .i64 i0, .int .i64 i1] w R :=
 yaA Tryz.wide_mixed (an := []) Tryz.func40 rfl rfl (by kernel_rfl) rfl (Eq.mpr (by kernel_rfl) h)
theorem yFf {b0 : Nat} {a2 a1 : Nat} {a5 a4 : Nat} {a8 a7 : Nat} (hb : w.heap[b0]? = some (.cells #[.int .i64 i0, .int .i64 i1, (.map M0), (.map M1)] 71)) (h :
 ∀ b1, w.heap.size ≤ b1 →
 ∀ w2, Adv [] [b1] w w2 →
 Calls pP 35 #[(.agg (Z0 i2 i3 i4 i5 i6 i7 i8 i9 j0 j1 q0 a2 a1 j2 j3 j4 j5 q1 a5 a4 q2 a8 a7))] w2 fun e w3 => ∃ s4 x5, e = .returned (.tuple #[.string s4, .int .i64 x5]) ∧ yaH [b0, b1] w2 w3 ∧
 brB (x5 != 0) (
 ∀ w6, Adv [] [] w3 w6 → w6.heap[b0]? = some (.cells #[.int .i64 i0, .int .i64 i1, (.map M0), (.map M1)] 71) →
 R (.tuple #[.int .i64 0, .int .i64 x5]) w6)
 (
 ∃ x7, (∀ w', Mod [] w3 w' → (Builtin.len_ #[68] 3 #[(.map M0)]).run pP w' = .ok (.int .i64 x7) w') ∧
 brB (decide (x7 ≥ i0)) (
 ∀ w8, Adv [] [] w3 w8 → w8.heap[b0]? = some (.cells #[.int .i64 i0, .int .i64 i1, (.map M0), (.map M1)] 71) →
 R (.tuple #[.int .i64 0, .int .i64 2]) w8)
 (
 ∀ w9, Adv [b0] [] w3 w9 →
 yFo pP (Instr.mapUpdate 68 (.map M0) (.int .i64 (IntKind.wrap .i64 (i1 + 1))) (.string s4)) w9 fun c6 => yaH [b0, b1] w9 c6 ∧
 ∀ c5, Adv [] [] c6 c5 → c5.heap[b0]? = some (.cells #[.int .i64 i0, (.int .i64 (IntKind.wrap .i64 (i1 + 1))), (.map M0), (.map M1)] 71) →
 R (.tuple #[(.int .i64 (IntKind.wrap .i64 (i1 + 1))), .int .i64 0]) c5))) :
 CR pP 12 #[(.pointer (some ⟨b0, 0, none⟩)), (.agg (Z0 i2 i3 i4 i5 i6 i7 i8 i9 j0 j1 q0 a2 a1 j2 j3 j4 j5 q1 a5 a4 q2 a8 a7))] w R :=
 ya5 Tryz.wide_mixed (an := []) Tryz.func12 rfl rfl (by kernel_rfl) rfl hb (Eq.mpr (by kernel_rfl) h)
theorem yFg {b0 : Nat} (hb : w.heap[b0]? = some (.cells #[.int .i64 i0, .int .i64 i1, (.map M0), (.map M1)] 71)) (h :
 ∀ b1, w.heap.size ≤ b1 →
 ∀ w2, Adv [] [b1] w w2 →
 ∃ s3 t4, (∀ w', Mod [] w2 w' → (Instr.lookup 68 (.map M0) (.int .i64 i2) true).run pP w' = .ok (.tuple #[.string s3, .bool t4]) w') ∧
 brB (!t4) (
 ∀ w5, Adv [b1] [] w2 w5 → w5.heap[b0]? = some (.cells #[.int .i64 i0, .int .i64 i1, (.map M0), (.map M1)] 71) →
 R (.tuple #[(.agg (Z0 0 0 0 0 0 0 0 0 0 0 none 0 0 0 0 0 0 none 0 0 none 0 0)), .int .i64 210]) w5)
 (
 Calls pP 36 #[.string s3] w2 fun e w6 => ∃ x7 x8 x9 c0 c1 c2 c3 c4 c5 c6 a8 b6 b3 c7 c8 c9 d0 a9 b7 b4 b2 b8 b5 d1, e = .returned (.tuple #[(.agg (Z0 x7 x8 x9 c0 c1 c2 c3 c4 c5 c6 a8 b6 b3 c7 c8 c9 d0 a9 b7 b4 b2 b8 b5)), .int .i64 d1]) ∧ yaH [b0, b1] w2 w6 ∧
 ∀ a1, w6.heap.size ≤ a1 →
 ∀ a2, Adv [] [a1] w6 a2 → a2.heap[b0]? = some (.cells #[.int .i64 i0, .int .i64 i1, (.map M0), (.map M1)] 71) →
 Calls pP 17 (Z10 (some ⟨b0, 0, none⟩) x8 x9) a2 fun e a3 => ∃ b9, e = .returned (.bool b9) ∧ yaZ [b0] [(b1, 37), (a1, 37)] [b1, a1] a2 a3 ∧ ∃ a6 a7, ∃ m37 : Option Nat, ∃ m38 : Option Nat, a3.heap[b0]? = some (.cells #[.int .i64 a6, .int .i64 a7, (.map m37), (.map m38)] 71) ∧
 brB b9 (
 ∀ a4, Adv [b1] [] a3 a4 → a4.heap[b0]? = some (.cells #[.int .i64 a6, .int .i64 a7, (.map m37), (.map m38)] 71) →
 R (.tuple #[(.agg (Z0 0 0 0 0 0 0 0 0 0 0 none 0 0 0 0 0 0 none 0 0 none 0 0)), .int .i64 211]) a4)
 (
 ∀ a5, Adv [b1] [] a3 a5 → a5.heap[b0]? = some (.cells #[.int .i64 a6, .int .i64 a7, (.map m37), (.map m38)] 71) →
 R (.tuple #[(.agg (Z0 x7 x8 x9 c0 c1 c2 c3 c4 c5 c6 a8 b6 b3 c7 c8 c9 d0 a9 b7 b4 b2 b8 b5)), .int .i64 0]) a5))) :
 CR pP 13 #[(.pointer (some ⟨b0, 0, none⟩)), .int .i64 i2] w R :=
 ya5 Tryz.wide_mixed (an := []) Tryz.func13 rfl rfl (by kernel_rfl) rfl hb (Eq.mpr (by kernel_rfl) h)
theorem yFh {b0 : Nat} (hb : w.heap[b0]? = some (.cells #[.int .i64 i0, .int .i64 i1, (.map M0), (.map M1)] 71)) (h :
 ∀ b1, w.heap.size ≤ b1 →
 ∀ w2, Adv [] [b1] w w2 → w2.heap[b0]? = some (.cells #[.int .i64 i0, .int .i64 i1, (.map M0), (.map M1)] 71) →
 Calls pP 13 #[(.pointer (some ⟨b0, 0, none⟩)), .int .i64 i2] w2 fun e w3 => ∃ x4 x5 x6 x7 x8 x9 b9 c0 c1 c2 a6 b4 a9 c3 c4 c5 c6 a7 b5 b2 a8 b6 b3 a3, e = .returned (.tuple #[(.agg (Z0 x4 x5 x6 x7 x8 x9 b9 c0 c1 c2 a6 b4 a9 c3 c4 c5 c6 a7 b5 b2 a8 b6 b3)), .int .i64 a3]) ∧ yaZ [b0] [(b1, 37)] [b1] w2 w3 ∧ ∃ a4 a5, ∃ m30 : Option Nat, ∃ m31 : Option Nat, w3.heap[b0]? = some (.cells #[.int .i64 a4, .int .i64 a5, (.map m30), (.map m31)] 71) ∧
 ∀ a1, w3.heap.size ≤ a1 →
 brB (a3 == 0) (
 ∀ a2, Adv [] [a1] w3 a2 → a2.heap[b0]? = some (.cells #[.int .i64 a4, .int .i64 a5, (.map m30), (.map m31)] 71) →
 yCh pP (Builtin.delete_ #[68, 3] 0 #[(.map m30), .int .i64 i2]) a2 fun c8 c7 => yaH [b0, b1, a1] a2 c7 ∧
 ∀ b7, Adv [b1] [] c7 b7 → b7.heap[b0]? = some (.cells #[.int .i64 a4, .int .i64 a5, (.map m30), (.map m31)] 71) →
 R (.tuple #[(.agg (Z0 x4 x5 x6 x7 x8 x9 b9 c0 c1 c2 a6 b4 a9 c3 c4 c5 c6 a7 b5 b2 a8 b6 b3)), .int .i64 a3]) b7)
 (
 ∀ b8, Adv [b1] [a1] w3 b8 → b8.heap[b0]? = some (.cells #[.int .i64 a4, .int .i64 a5, (.map m30), (.map m31)] 71) →
 R (.tuple #[(.agg (Z0 x4 x5 x6 x7 x8 x9 b9 c0 c1 c2 a6 b4 a9 c3 c4 c5 c6 a7 b5 b2 a8 b6 b3)), .int .i64 a3]) b8)) :
 CR pP 15 #[(.pointer (some ⟨b0, 0, none⟩)), .int .i64 i2] w R :=
 ya5 Tryz.wide_mixed (an := []) Tryz.func15 rfl rfl (by kernel_rfl) rfl hb (Eq.mpr (by kernel_rfl) h)
theorem yBS {b0 : Nat} (hb : w.heap[b0]? = some (.cells #[.int .i64 i0, .int .i64 i1, (.map M0), (.map M1)] 71)) (h :
 ∃ s1 t2, (∀ w', Mod [] w w' → (Instr.lookup 68 (.map M0) (.int .i64 i2) true).run pP w' = .ok (.tuple #[.string s1, .bool t2]) w') ∧
 brB (!t2) (
 ∀ w3, Adv [] [] w w3 → w3.heap[b0]? = some (.cells #[.int .i64 i0, .int .i64 i1, (.map M0), (.map M1)] 71) →
 R (.int .i64 210) w3)
 (
 yCh pP (Builtin.delete_ #[68, 3] 0 #[(.map M0), .int .i64 i2]) w fun v5 w4 => yaH [b0] w w4 ∧
 ∀ w6, Adv [] [] w4 w6 → w6.heap[b0]? = some (.cells #[.int .i64 i0, .int .i64 i1, (.map M0), (.map M1)] 71) →
 R (.int .i64 0) w6)) :
 CR pP 19 #[(.pointer (some ⟨b0, 0, none⟩)), .int .i64 i2] w R :=
 ya5 Tryz.wide_mixed (an := []) Tryz.func19 rfl rfl (by kernel_rfl) rfl hb (Eq.mpr (by kernel_rfl) h)
theorem yBT {b0 : Nat} (hb : w.heap[b0]? = some (.cells #[.int .i64 i0, .int .i64 i1, (.map M0), (.map M1)] 71)) (h :
 ∀ w1, Adv [] [] w w1 →
 Calls pP 40 #[.int .i64 i2, .int .i64 i3] w1 fun e w2 => ∃ x3 x4, e = .returned (.agg #[.int .i64 x3, .int .i64 x4]) ∧ yaH [b0] w1 w2 ∧ (((.map M1) : Value) = (.map M1)) ∧
 yCh pP (Builtin.delete_ #[69, 85] 0 #[(.map M1), (.agg #[.int .i64 x3, .int .i64 x4])]) w2 fun v6 w5 => yaH [b0] w2 w5 ∧
 brB B0 (
 brB (i2 != i3) (
 ∀ w7, Adv [] [] w5 w7 →
 Calls pP 40 #[.int .i64 i2, .int .i64 i3] w7 fun e w8 => ∃ x9 a7, e = .returned (.agg #[.int .i64 x9, .int .i64 a7]) ∧ yaH [b0] w7 w8 ∧ (((.map M1) : Value) = (.map M1)) ∧
 yFo pP (Instr.mapUpdate 69 (.map M1) (.agg #[.int .i64 x9, .int .i64 a7]) (.bool true)) w8 fun a6 => yaH [b0] w8 a6 ∧
 ∀ a3, Adv [] [] a6 a3 → a3.heap[b0]? = some (.cells #[.int .i64 i0, .int .i64 i1, (.map M0), (.map M1)] 71) →
 R (.tuple #[]) a3)
 (
 ∀ a4, Adv [] [] w5 a4 → a4.heap[b0]? = some (.cells #[.int .i64 i0, .int .i64 i1, (.map M0), (.map M1)] 71) →
 R (.tuple #[]) a4))
 (
 ∀ a5, Adv [] [] w5 a5 → a5.heap[b0]? = some (.cells #[.int .i64 i0, .int .i64 i1, (.map M0), (.map M1)] 71) →
 R (.tuple #[]) a5)) :
 CR pP 16 #[(.pointer (some ⟨b0, 0, none⟩)), .int .i64 i2, .int .i64 i3, .bool B0] w R :=
 ya5 Tryz.wide_mixed (an := []) Tryz.func16 rfl rfl (by kernel_rfl) rfl hb (Eq.mpr (by kernel_rfl) h)
theorem yBU {b0 : Nat} (hb : w.heap[b0]? = some (.cells #[.int .i64 i0, .int .i64 i1, (.map M0), (.map M1)] 71)) (h :
 ∀ w1, Adv [] [] w w1 →
 Calls pP 40 #[.int .i64 i2, .int .i64 i3] w1 fun e w2 => ∃ x3 x4, e = .returned (.agg #[.int .i64 x3, .int .i64 x4]) ∧ yaH [b0] w1 w2 ∧ (((.map M1) : Value) = (.map M1)) ∧
 ∃ t5, (∀ w', Mod [] w2 w' → (Instr.lookup 69 (.map M1) (.agg #[.int .i64 x3, .int .i64 x4]) false).run pP w' = .ok (.bool t5) w') ∧
 ∀ w6, Adv [] [] w2 w6 → w6.heap[b0]? = some (.cells #[.int .i64 i0, .int .i64 i1, (.map M0), (.map M1)] 71) →
 R (.bool t5) w6) :
 CR pP 17 (Z10 (some ⟨b0, 0, none⟩) i2 i3) w R :=
 ya5 Tryz.wide_mixed (an := []) Tryz.func17 rfl rfl (by kernel_rfl) rfl hb (Eq.mpr (by kernel_rfl) h)
theorem yBV {b0 : Nat} (hb : w.heap[b0]? = some (.cells #[.int .i64 i0, .int .i64 i1, (.map M0), (.map M1)] 71)) (h :
 Calls pP 32 #[(.map M0)] w fun e w1 => ∃ v2, e = .returned v2 ∧ yaH [b0] w w1 ∧
 Calls pP 31 #[v2] w1 fun e w3 => ∃ a4 n5 c6, e = .returned (.slice a4 n5 c6) ∧ yaH [b0] w1 w3 ∧
 ∀ w7, Adv [] [] w3 w7 → w7.heap[b0]? = some (.cells #[.int .i64 i0, .int .i64 i1, (.map M0), (.map M1)] 71) →
 R (.slice a4 n5 c6) w7) :
 CR pP 10 #[(.pointer (some ⟨b0, 0, none⟩))] w R :=
 ya5 Tryz.wide_mixed (an := []) Tryz.func10 rfl rfl (by kernel_rfl) rfl hb (Eq.mpr (by kernel_rfl) h)
theorem yBW (h :
 ∀ b1, w.heap.size ≤ b1 →
 ∀ w2, Adv [] [b1] w w2 → w2.heap[b1]? = some (.cells #[.slice q0 n0 n1] 27) →
 R (.func (.func 63) #[] #[(.pointer (some ⟨b1, 0, none⟩))]) w2) :
 CR pP 41 #[.slice q0 n0 n1] w R :=
 yaA Tryz.wide_mixed (an := []) Tryz.func41 rfl rfl (by kernel_rfl) rfl (Eq.mpr (by kernel_rfl) h)
end
end Go.Proofs.YtjellhflalbbmaaGreat
namespace Go.Proofs.YtjellhflalbbmaaGreat
open Go Go.RowKit Go.Maps Go.MapKept
set_option linter.unusedVariables false
set_option linter.unusedSimpArgs false
abbrev wki : Int → Value := fun k => .int .i64 k
theorem ylP : ∀ a b : Int, wki a = wki b → a = b := by intro a b h; simpa [wki] using h
abbrev wks : ByteArray → Value := fun s => .string s
abbrev wkp : Int × Int → Value := fun p => .agg #[.int .i64 p.1, .int .i64 p.2]
theorem ypJ : ∀ a b : Int × Int, wkp a = wkp b → a = b := by rintro ⟨a, b⟩ ⟨c, d⟩ h; simp [wkp] at h; simp [h]
abbrev wkb : Bool → Value := fun t => .bool t
def r64 (n : Int) : Prop := -9223372036854775808 ≤ n ∧ n ≤ 9223372036854775807
theorem wfr {n : Int} (h : r64 n) : (Lit.int .i64 n).wf = true := by
 simp [Lit.wf, IntKind.min, IntKind.max, IntKind.signed, IntKind.bits]; exact h
theorem yzT : Keyed pP 3 := int_keyed Tryz.underlying3
theorem ylQ {k : Int} (h : r64 k) : keyOf pP 3 (wki k) = some (.int .i64 k) := keyOf_int_mk Tryz.underlying3 (wfr h)
theorem yBX : Keyed pP 85 :=
 Keyed.of_law (deep_law_laid (by kernel_rfl) (m := 2) (by omega) (of_decide_eq_true (by kernel_rfl)) (by kernel_rfl) (by rw [Tryz.underlying85]))
set_option maxRecDepth 100000 in
theorem yxK {p : Int × Int} (h1 : r64 p.1) (h2 : r64 p.2) : ∃ l, keyOf pP 85 (wkp p) = some l := by
 obtain ⟨a, b⟩ := p
 have hk : Tryz.prog.keyType 85 = true := by kernel_rfl
 have hc : Tryz.prog.cellsOf 85 = 2 := by kernel_rfl
 have hc1 : Tryz.prog.cellsOf 3 = 1 := by kernel_rfl
 have hf : (wkp (a, b)).formed pP 85 = true := by simp [Value.formed, Tryz.underlying85, hc, wkp]
 obtain ⟨s, hs⟩ : ∃ s, Tryz.prog.types.size = s + 1 := ⟨Tryz.prog.types.size - 1, (Nat.succ_pred_eq_of_pos (of_decide_eq_true (by kernel_rfl))).symm⟩
 have hl : ∃ l, Tryz.prog.keyLits (Tryz.prog.types.size + 1) 85 (wkp (a, b)).cells.toList = some l := by
  rw [hs]
  simp [Program.keyLits, Tryz.underlying85, Tryz.underlying3, hc, hc1, wkp, Value.cells, List.range, List.range.loop, wfr h1, wfr h2]
 obtain ⟨l, hl⟩ := hl
 exact ⟨.string (keyBytes l), by unfold keyOf; simp only [Tryz.underlying85, hk, hf, Bool.and_self, if_true, hl, Option.map_some]⟩
theorem ya8 {w : World} {b : Nat} {o : Obj} : Mod [b] w (Go.ChangeMaps.setBlock w b o) :=
 ⟨rfl, rfl, rfl, by simp [Go.ChangeMaps.setBlock], fun k hk hS => yiW (by simpa using hS)⟩
theorem yFi (w : World) : (zeroValue 9).run pP w = .ok (.string ⟨#[]⟩) w := by kernel_rfl
theorem yFj (w : World) : (zeroValue 4).run pP w = .ok (.bool false) w := by kernel_rfl
section
variable {κ β γ : Type} [DecidableEq κ]
theorem ylR (f : β → γ) (L : List (κ × β)) (k : κ) : lkp (L.map fun p => (p.1, f p.2)) k = (lkp L k).map f := by
 induction L with
 | nil => rfl
 | cons q r ih => rw [List.map_cons, lkp, lkp, ih]; split <;> rfl
theorem yBY (f : β → γ) (L : List (κ × β)) (k : κ) : del (L.map fun p => (p.1, f p.2)) k = (del L k).map fun p => (p.1, f p.2) := by
 induction L with
 | nil => rfl
 | cons q r ih => rw [List.map_cons, del, del, ih]; split <;> simp
theorem yBZ {L : List (κ × β)} {k : κ} {q : κ × β} (h : q ∈ del L k) : q ∈ L := by
 induction L with
 | nil => exact h
 | cons p r ih =>
  unfold del at h
  split at h
  ·exact List.mem_cons_of_mem _ h
  ·rcases List.mem_cons.1 h with h | h
   ·rw [h]; exact List.mem_cons_self
   ·exact List.mem_cons_of_mem _ (ih h)
theorem yB0 (L : List (κ × β)) (k : κ) : (del L k).Sublist L := by
 induction L with
 | nil => exact List.Sublist.refl _
 | cons p r ih =>
  unfold del; split
  ·exact List.sublist_cons_self ..
  ·exact ih.cons_cons _
end
def prW (a b : Int) : Int × Int := (if b < a then b else a, if a < b then b else a)
def yB1 (A : List (Int × Int)) (a b : Int) : Bool := decide (prW a b ∈ A)
def ynC (A : List (Int × Int)) (a b : Int) (is : Bool) : List (Int × Int) := if is = true ∧ a ≠ b then A.erase (prW a b) ++ [prW a b] else A.erase (prW a b)
abbrev PL := List (Int × PMail)
def yeH (room : Int) (L : PL) (m : PMail) : Int := if ybS m ≠ 0 then ybS m else if (L.length : Int) ≥ room then 2 else 0
def twE (L : PL) (A : List (Int × Int)) (id : Int) : Int := match lkp L id with
 | none => 210
 | some m => if yB1 A m.fr m.to = true then 211 else 0
def twM (L : PL) (A : List (Int × Int)) (id : Int) : PMail := match lkp L id with
 | none => yiF
 | some m => if yB1 A m.fr m.to = true then yiF else m
structure WiAt (w : World) (b : Nat) (room : Int) (next bl ba : Nat) (L : PL) (A : List (Int × Int)) : Prop where
 cells : w.heap[b]? = some (.cells #[.int .i64 room, .int .i64 (next : Nat), .map (some bl), .map (some ba)] 71)
 lm : yb5 pP 3 wki wks w bl (L.map fun p => (p.1, ycN p.2))
 am : yb5 pP 85 wkp wkb w ba (A.map fun p => (p, true))
 ne : bl ≠ ba
 good : ∀ p ∈ L, ybS p.2 = 0 ∧ (ycN p.2).size ≤ 900000 ∧ 1 ≤ p.1 ∧ p.1 ≤ next
 rise : L.Pairwise fun p q => p.1 < q.1
 nx : next ≤ 1000000
theorem WiAt.nb {w : World} {b : Nat} {room : Int} {next bl ba : Nat} {L : PL} {A : List (Int × Int)} (h : WiAt w b room next bl ba L A) : b ≠ bl ∧ b ≠ ba := by
 constructor
 ·rintro rfl; obtain ⟨es, cl, hb, _⟩ := h.lm; rw [h.cells] at hb; cases hb
 ·rintro rfl; obtain ⟨es, cl, hb, _⟩ := h.am; rw [h.cells] at hb; cases hb
theorem WiAt.keep {w w' : World} {b : Nat} {room : Int} {next bl ba : Nat} {L : PL} {A : List (Int × Int)} {S : List Nat} (h : WiAt w b room next bl ba L A) (M : Mod S w w') (h1 : b ∉ S) (h2 : bl ∉ S) (h3 : ba ∉ S) : WiAt w' b room next bl ba L A :=
 ⟨M.keep h.cells h1, h.lm.of_block (M.block _ h.lm.lt h2), h.am.of_block (M.block _ h.am.lt h3), h.ne, h.good, h.rise, h.nx⟩
theorem WiAt.keep0 {w w' : World} {b : Nat} {room : Int} {next bl ba : Nat} {L : PL} {A : List (Int × Int)} (h : WiAt w b room next bl ba L A) (M : Mod [] w w') : WiAt w' b room next bl ba L A := h.keep M (by simp) (by simp) (by simp)
theorem WiAt.nodup {w : World} {b : Nat} {room : Int} {next bl ba : Nat} {L : PL} {A : List (Int × Int)} (h : WiAt w b room next bl ba L A) : A.Nodup := by
 have := h.am.nodup
 rw [List.map_map] at this
 simpa [Function.comp_def] using this
theorem yrK : ∀ (l : PL) (lo hi : Int), (∀ p ∈ l, lo < p.1 ∧ p.1 ≤ hi) → l.Pairwise (fun p q => p.1 < q.1) → lo ≤ hi → (l.length : Int) ≤ hi - lo
 | [], lo, hi, _, _, h => by simp; omega
 | p :: r, lo, hi, hb, hp, h => by
  have h1 := hb p (by simp)
  rw [List.pairwise_cons] at hp
  have := yrK r p.1 hi (fun q hq => ⟨hp.1 q hq, (hb q (by simp [hq])).2⟩) hp.2 (by omega)
  rw [List.length_cons]; omega
theorem WiAt.len {w : World} {b : Nat} {room : Int} {next bl ba : Nat} {L : PL} {A : List (Int × Int)} (h : WiAt w b room next bl ba L A) : L.length ≤ next := by
 have := yrK L 0 next (fun p hp => by have := (h.good p hp).2.2; omega) h.rise (by omega)
 omega
theorem ypK (room : Int) (w : World) :
  Calls pP 8 #[.int .i64 room] w fun e w' => ∃ v, e = .returned v ∧ Mod [] w w' ∧ if 1 ≤ room ∧ room ≤ 4096 then ∃ b bl ba, v = .tuple #[.pointer (some ⟨b, 0, none⟩), .int .i64 0] ∧ w.heap.size ≤ b ∧ w.heap.size ≤ bl ∧ w.heap.size ≤ ba ∧ WiAt w' b room 0 bl ba [] [] else v = .tuple #[.pointer none, .int .i64 1] := by
 refine yFd ?_
 refine yaC (fun g => ⟨Mod.refl _, by rw [if_neg (by omega)]⟩) fun g => ?_
 refine yaC (fun g2 => ⟨Mod.refl _, by rw [if_neg (by omega)]⟩) fun g2 => ?_
 refine ycS fun b1 w2 c1 M1 f1 => ?_
 refine ycS fun b3 w4 c3 M3 f3 => ?_
 intro b5 f5 w6 A6 h6
 have s1 := M1.size
 have s3 := M3.size
 have l1 := yaJ c1
 refine ⟨(M1.go0 M3 (by simp)).go0 A6.mod (by simp), ?_⟩
 rw [if_pos ⟨by omega, by omega⟩]
 exact ⟨b5, b1, b3, rfl, by omega, by omega, by omega, h6, yb5.of_new (A6.mod.keep0 (M3.keep0 c1)), yb5.of_new (A6.mod.keep0 c3), by omega, by simp, by simp, by omega⟩
theorem ypL (a b : Int) (w : World) : Calls pP 40 #[.int .i64 a, .int .i64 b] w fun e w' => e = .returned (wkp (prW a b)) ∧ Mod [] w w' := by
 refine yaS (yFe ?_)
 intro b1 f1 w2 A2
 exact ⟨rfl, A2.mod⟩
theorem yzU {a b : Int} (ha : r64 a) (hb : r64 b) : r64 (prW a b).1 ∧ r64 (prW a b).2 := by
 unfold prW; constructor <;> simp only <;> split <;> assumption
theorem yrL (A : List (Int × Int)) (p : Int × Int) : lkp (A.map fun p => (p, true)) p = if p ∈ A then some true else none := by
 induction A with
 | nil => rfl
 | cons q r ih =>
  rw [List.map_cons, lkp, ih]
  by_cases h : q = p
  ·simp [h]
  ·have : ¬ p = q := fun e => h e.symm
   simp [h, this]
theorem yzV (A : List (Int × Int)) (p : Int × Int) : del (A.map fun p => (p, true)) p = (A.erase p).map fun p => (p, true) := by
 induction A with
 | nil => rfl
 | cons q r ih =>
  rw [List.map_cons, del, ih, List.erase_cons]
  by_cases h : q = p
  ·simp [h]
  ·simp [h]
theorem ynD {w : World} {b : Nat} {room : Int} {next bl ba : Nat} {L : PL} {A : List (Int × Int)} (h : WiAt w b room next bl ba L A) {x y : Int} (hx : r64 x) (hy : r64 y) :
  Calls pP 17 #[.pointer (some ⟨b, 0, none⟩), .int .i64 x, .int .i64 y] w fun e w' => e = .returned (.bool (yB1 A x y)) ∧ Mod [] w w' := by
 refine yaS (yBU h.cells ?_)
 intro w1 A1
 refine (ypL x y w1).mono ?_
 rintro _ w2 ⟨rfl, M2⟩
 refine ⟨_, _, rfl, yaH.of0 M2, rfl, ?_⟩
 have N2 : Mod [] w w2 := A1.mod.go0 M2 (by simp)
 obtain ⟨l, hl⟩ := yxK (yzU hx hy).1 (yzU hx hy).2
 refine ⟨yB1 A x y, fun w' M => ?_, fun w3 A3 _ => ⟨rfl, N2.go0 A3.mod (by simp)⟩⟩
 have := ((h.am.of_block ((N2.go0 M (by simp)).block _ h.am.lt (by simp)))).look (T := 69) false yBX ypJ Tryz.underlying69 (yFj w') hl
 refine this.trans ?_
 rw [yrL]
 unfold yB1
 by_cases hp : prW x y ∈ A <;> simp [hp]
theorem yxL {w : World} {b : Nat} {room : Int} {next bl ba : Nat} {L : PL} {A : List (Int × Int)} (h : WiAt w b room next bl ba L A) {x y : Int} (hx : r64 x) (hy : r64 y) (is : Bool) :
  Calls pP 16 #[.pointer (some ⟨b, 0, none⟩), .int .i64 x, .int .i64 y, .bool is] w fun e w' => e = .returned (.tuple #[]) ∧ Mod [ba] w w' ∧ WiAt w' b room next bl ba L (ynC A x y is) := by
 refine yaS (yBT h.cells ?_)
 intro w1 A1
 refine (ypL x y w1).mono ?_
 rintro _ w2 ⟨rfl, M2⟩
 refine ⟨_, _, rfl, yaH.of0 M2, rfl, ?_⟩
 have N2 : Mod [] w w2 := A1.mod.go0 M2 (by simp)
 have h2 := h.keep0 N2
 obtain ⟨nb1, nb2⟩ := h.nb
 obtain ⟨l, hl⟩ := yxK (yzU hx hy).1 (yzU hx hy).2
 obtain ⟨o, ho1, ho2⟩ := h2.am.delete yBX ypJ Tryz.underlying69 hl 0
 rw [yzV] at ho2
 refine ⟨_, _, ho1, yaH.of ya8 (by simp; omega), ?_⟩
 have M3 : Mod [ba] w2 (Go.ChangeMaps.setBlock w2 ba o) := ya8
 have h3 : WiAt (Go.ChangeMaps.setBlock w2 ba o) b room next bl ba L (A.erase (prW x y)) := ⟨M3.keep h2.cells (by simp; omega), h2.lm.of_block (M3.block _ h2.lm.lt (by simp; exact h.ne)), ho2, h.ne, h.good, h.rise, h.nx⟩
 have N3 : Mod [ba] w (Go.ChangeMaps.setBlock w2 ba o) := (N2.trans M3).less (by simp)
 have fin : ∀ {w'}, Adv [] [] (Go.ChangeMaps.setBlock w2 ba o) w' → ¬ (is = true ∧ x ≠ y) → Mod [ba] w w' ∧ WiAt w' b room next bl ba L (ynC A x y is) := fun A' hn => by
  rw [ynC, if_neg hn]
  exact ⟨(N3.trans A'.mod).less (by simp), h3.keep0 A'.mod⟩
 refine yaB (fun g1 => ?_) fun g1 => fun w' A' _ => ⟨rfl, fin A' (by simp [g1])⟩
 refine yaB (fun g2 => ?_) fun g2 => fun w' A' _ => ⟨rfl, fin A' (by simp at g2; simp [g2])⟩
 intro w7 A7
 refine (ypL x y w7).mono ?_
 rintro _ w8 ⟨rfl, M8⟩
 refine ⟨_, _, rfl, yaH.of0 M8, rfl, ?_⟩
 have K8 : Mod [] (Go.ChangeMaps.setBlock w2 ba o) w8 := A7.mod.go0 M8 (by simp)
 have h8 := h3.keep0 K8
 obtain ⟨o', ho3, ho4⟩ := h8.am.update yBX ypJ Tryz.underlying69 true hl
 have hnm : prW x y ∉ A.erase (prW x y) := fun hm => (List.Nodup.not_mem_erase h.nodup) hm
 rw [yd0 (by rw [yrL, if_neg hnm])] at ho4
 refine ⟨_, ho3, yaH.of ya8 (by simp; omega), ?_⟩
 intro w12 A12 _
 have M9 : Mod [ba] w8 (Go.ChangeMaps.setBlock w8 ba o') := ya8
 have hc : ynC A x y is = A.erase (prW x y) ++ [prW x y] := by rw [ynC, if_pos ⟨g1, by simpa using g2⟩]
 refine ⟨rfl, (((N3.trans K8).trans M9).trans A12.mod).less (by simp), ?_⟩
 rw [hc]
 refine WiAt.keep0 ⟨M9.keep h8.cells (by simp; omega), h8.lm.of_block (M9.block _ h8.lm.lt (by simp; exact h.ne)), ?_, h.ne, h.good, h.rise, h.nx⟩ A12.mod
 rw [List.map_append]; exact ho4
end Go.Proofs.YtjellhflalbbmaaGreat
